/-
The document's kinds and words
-/
import Derived.Test.YtfodjmemdkibpaaDoorWf
import Derived.Test.YtfodjmemdkibpaaDoorWd
namespace Go.Proofs.YtfodjmemdkibpaaDoor.V
open Go Go.Proofs Go.RowKit
set_option linter.unusedVariables false
set_option linter.unusedSimpArgs false
set_option maxRecDepth 100000
set_option maxHeartbeats 2000000
open Go Go.Proofs Go.Proofs.YtfodjmemdkibpaaDoor.V
def tR : Ty Int := ⟨1, fun x _ => .int .i32 x, 0⟩
def holdsE (L : List Int) (r : Int) (i : Nat) : Bool := if h : i + 1 < L.length then (if L.getD i 0 ≤ r ∧ r ≤ L.getD (i + 1) 0 then true else holdsE L r (i + 2)) else false
termination_by L.length - i
theorem holds_fn (L : List Int) (r : Int) (hL : L.length ≤ 1000) : Fn Tryd.prog 74 [tR.L L, .int .i32 r] (.bool (holdsE L r 0)) := by
  refine Fn.of Tryd.f74 _ Tryd.func74 rfl (by decide) (by show 2 ≤ _; decide) tbOk 28 rfl fun S w0 gl => ?_
  refine Run.go ?_; (conv => whnf); repeat' (first | ((with_reducible refine Know.mk fun _ => ?_); conv => whnf) | ((with_reducible refine Need.mk ?_ ?_); (first | omega | (dsimp only; omega) | decide | exact bytes_le (by rfl) (by omega) | exact ⟨rfl, by omega, bytes_le (by rfl) (by omega), by omega⟩ | (refine ⟨?_, ?_⟩ <;> (rw [wrap64 (by omega) (by omega)]; omega))); conv => whnf) | ((with_reducible refine Both.mk ?_ ?_) <;> conv => whnf) | ((with_reducible refine Any.mk fun b hb => ?_); conv => whnf) | ((with_reducible refine AskB.dec (fun hb => ?_) (fun hb => ?_)) <;> conv => whnf) | ((with_reducible refine AskB.ndec (fun hb => ?_) (fun hb => ?_)) <;> conv => whnf) | ((with_reducible refine AskB.mk (fun hb => ?_) (fun hb => ?_)) <;> conv => whnf) | ((with_reducible refine Run.drawX rfl (by decide +kernel) ?_); conv => whnf) | ((with_reducible refine Run.drawT rfl (by decide +kernel) ?_); conv => whnf) | ((with_reducible refine Run.drawW rfl (by decide +kernel) ?_); conv => whnf) | fail)
  refine Run.loop [0, 1] (fun (i : Nat) => [(5, .int .i64 (i : Int))]) (fun i => []) (fun i => i ≤ L.length + 1 ∧ holdsE L r i = holdsE L r 0) (fun i => L.length + 1 - i) 0 ⟨Nat.zero_le _, rfl⟩ ⟨Le.refl _, trivial⟩ trivial ?_
  intro i ⟨hi, hc⟩ IH
  have hw1 : IntKind.i64.wrap ((i : Int) + 1) = ((i + 1 : Nat) : Int) := wrap64 (by omega) (by omega)
  have hw2 : IntKind.i64.wrap ((i : Int) + 2) = ((i + 2 : Nat) : Int) := wrap64 (by omega) (by omega)
  have stp : i + 1 < L.length → ¬ (L.getD i 0 ≤ r ∧ r ≤ L.getD (i + 1) 0) → i + 2 ≤ L.length + 1 ∧ holdsE L r (i + 2) = holdsE L r 0 := fun h1 h2 => ⟨by omega, by rw [← hc, holdsE.eq_def L r i, dif_pos h1, if_neg h2]⟩
  have hg : L.getD (IntKind.i64.wrap (↑i + 1)).toNat tR.z = L.getD (i + 1) 0 := by rw [hw1]; rfl
  refine Run.go ?_; (conv => whnf); repeat' (first | ((with_reducible refine Know.mk fun _ => ?_); conv => whnf) | ((with_reducible refine Need.mk ?_ ?_); (first | omega | (dsimp only; omega) | decide | exact bytes_le (by rfl) (by omega) | exact ⟨rfl, by omega, bytes_le (by rfl) (by omega), by omega⟩ | (refine ⟨?_, ?_⟩ <;> (rw [wrap64 (by omega) (by omega)]; omega))); conv => whnf) | ((with_reducible refine Both.mk ?_ ?_) <;> conv => whnf) | ((with_reducible refine Any.mk fun b hb => ?_); conv => whnf) | ((with_reducible refine AskB.dec (fun hb => ?_) (fun hb => ?_)) <;> conv => whnf) | ((with_reducible refine AskB.ndec (fun hb => ?_) (fun hb => ?_)) <;> conv => whnf) | ((with_reducible refine AskB.mk (fun hb => ?_) (fun hb => ?_)) <;> conv => whnf) | ((with_reducible refine Run.drawX rfl (by decide +kernel) ?_); conv => whnf) | ((with_reducible refine Run.drawT rfl (by decide +kernel) ?_); conv => whnf) | ((with_reducible refine Run.drawW rfl (by decide +kernel) ?_); conv => whnf) | fail)
  · rw [hg] at *
    refine Run.leave (ts := [4]) (.inr ⟨_, rfl⟩) rfl Tryd.func74 rfl (Le.tt.trans (Le.bool ?_))
    rw [← hc, holdsE, dif_pos (by omega), if_pos ⟨by assumption, by assumption⟩]
  · rw [hg] at *
    obtain ⟨h1, h2⟩ := stp (by omega) (fun h => absurd h.2 (by assumption))
    refine Run.to _ _ ?_ ?_ (IH (i + 2) (by omega) ⟨h1, h2⟩)
    · exact ⟨Le.refl _, Le.refl _, Le.int hw2, trivial⟩
    · exact trivial
  · obtain ⟨h1, h2⟩ := stp (by omega) (fun h => absurd h.1 (by assumption))
    refine Run.to _ _ ?_ ?_ (IH (i + 2) (by omega) ⟨h1, h2⟩)
    · exact ⟨Le.refl _, Le.refl _, Le.int hw2, trivial⟩
    · exact trivial
  · refine Run.leave (ts := [4]) (.inr ⟨_, rfl⟩) rfl Tryd.func74 rfl (Le.ff.trans (Le.bool ?_))
    rw [← hc, holdsE, dif_neg (by omega)]
theorem Le.litL {α : Type} (T : Ty α) (L : List α) (cs : List (List AV)) (h : cs = L.map (fun x => (List.range T.sz).map (T.enc x))) : Le (.sl L.length T.sz (fun i j => (cs.getD i []).getD j .u)) (T.L L) := by
  refine Le.sl fun i j hi hj => ?_
  rw [h]
  simp only [Ty.G, List.getD, List.getElem?_map, List.getElem?_eq_getElem hi, Option.map_some, Option.getD_some, List.getElem?_range hj]
  exact Le.refl _
def holdsL (r : Int) : List Int → Bool
  | a :: b :: t => decide (a ≤ r ∧ r ≤ b) || holdsL r t
  | _ => false
theorem holdsE_L (L : List Int) (r : Int) (i : Nat) : holdsE L r i = holdsL r (L.drop i) := by
  by_cases h : i + 1 < L.length
  · rw [holdsE, dif_pos h, holdsE_L L r (i + 2), List.drop_eq_getElem_cons (by omega : i < L.length), List.drop_eq_getElem_cons h]
    simp only [holdsL, List.getD, List.getElem?_eq_getElem (by omega : i < L.length), List.getElem?_eq_getElem h, Option.getD_some]
    by_cases h2 : L[i] ≤ r ∧ r ≤ L[i + 1]
    · rw [if_pos h2, decide_eq_true h2]; rfl
    · rw [if_neg h2, decide_eq_false h2]; rfl
  · rw [holdsE, dif_neg h]
    rcases (by omega : L.length ≤ i ∨ L.length = i + 1) with h2 | h2
    · rw [List.drop_eq_nil_of_le h2]; rfl
    · rw [List.drop_eq_getElem_cons (by omega : i < L.length), List.drop_eq_nil_of_le (by omega)]; rfl
termination_by L.length - i
theorem holds_isJoiner (r : Int) : holdsE [39, 39, 45, 45, 173, 173, 8204, 8205, 8217, 8217] r 0 = decide (isJoiner r) := by
  rw [holdsE_L, List.drop_zero, Bool.eq_iff_iff]
  simp only [holdsL, Bool.or_eq_true, decide_eq_true_eq, Bool.false_eq_true, or_false]
  all_goals (unfold isJoiner; omega)
theorem holds_isDigit (r : Int) : holdsE [48, 57, 1632, 1641] r 0 = decide (isDigit r) := by
  rw [holdsE_L, List.drop_zero, Bool.eq_iff_iff]
  simp only [holdsL, Bool.or_eq_true, decide_eq_true_eq, Bool.false_eq_true, or_false]
  all_goals (unfold isDigit; omega)
theorem holds_isLetter (r : Int) : holdsE [65, 90, 97, 122, 170, 170, 181, 181, 186, 186, 192, 214, 216, 246, 248, 687, 880, 893, 895, 902, 904, 1153, 1162, 1327, 7680, 8191, 64256, 64262, 9676, 9676] r 0 = decide (isLetter r) := by
  rw [holdsE_L, List.drop_zero, Bool.eq_iff_iff]
  simp only [holdsL, Bool.or_eq_true, decide_eq_true_eq, Bool.false_eq_true, or_false]
  all_goals (unfold isLetter; omega)
theorem holds_isAccent (r : Int) : holdsE [768, 879, 1155, 1161, 7616, 7679, 8400, 8447] r 0 = decide (isAccent r) := by
  rw [holdsE_L, List.drop_zero, Bool.eq_iff_iff]
  simp only [holdsL, Bool.or_eq_true, decide_eq_true_eq, Bool.false_eq_true, or_false]
  all_goals (unfold isAccent; omega)
theorem holds_isLine (r : Int) : holdsE [10, 10, 13, 13, 133, 133, 8232, 8233] r 0 = decide (isLine r) := by
  rw [holdsE_L, List.drop_zero, Bool.eq_iff_iff]
  simp only [holdsL, Bool.or_eq_true, decide_eq_true_eq, Bool.false_eq_true, or_false]
  all_goals (unfold isLine; omega)
theorem holds_isBlank (r : Int) : holdsE [9, 9, 11, 12, 32, 32, 160, 160, 8194, 8202, 8239, 8239, 12288, 12288] r 0 = decide (isBlank r) := by
  rw [holdsE_L, List.drop_zero, Bool.eq_iff_iff]
  simp only [holdsL, Bool.or_eq_true, decide_eq_true_eq, Bool.false_eq_true, or_false]
  all_goals (unfold isBlank; omega)
theorem holds_isPoint (r : Int) : holdsE [33, 126, 161, 191, 903, 903, 8208, 8231, 8240, 8286] r 0 = decide (isPoint r) := by
  rw [holdsE_L, List.drop_zero, Bool.eq_iff_iff]
  simp only [holdsL, Bool.or_eq_true, decide_eq_true_eq, Bool.false_eq_true, or_false]
  all_goals (unfold isPoint; omega)
theorem of60_fn (r : Int) : Fn Tryd.prog 60 [.int .i32 r] (.int .i64 (kOf r)) := by
  refine Fn.of Tryd.f60 _ Tryd.func60 rfl (by decide) (by show 1 ≤ _; decide) tbOk 24 rfl fun S w0 gl => ?_
  refine Run.go ?_; (conv => whnf); repeat' (first | ((with_reducible refine Know.mk fun _ => ?_); conv => whnf) | ((with_reducible refine Need.mk ?_ ?_); (first | omega | (dsimp only; omega) | decide | exact bytes_le (by rfl) (by omega) | exact ⟨rfl, by omega, bytes_le (by rfl) (by omega), by omega⟩ | (refine ⟨?_, ?_⟩ <;> (rw [wrap64 (by omega) (by omega)]; omega))); conv => whnf) | ((with_reducible refine Both.mk ?_ ?_) <;> conv => whnf) | ((with_reducible refine Any.mk fun b hb => ?_); conv => whnf) | ((with_reducible refine AskB.dec (fun hb => ?_) (fun hb => ?_)) <;> conv => whnf) | ((with_reducible refine AskB.ndec (fun hb => ?_) (fun hb => ?_)) <;> conv => whnf) | ((with_reducible refine AskB.mk (fun hb => ?_) (fun hb => ?_)) <;> conv => whnf) | ((with_reducible refine Run.drawX rfl (by decide +kernel) ?_); conv => whnf) | ((with_reducible refine Run.drawT rfl (by decide +kernel) ?_); conv => whnf) | ((with_reducible refine Run.drawW rfl (by decide +kernel) ?_); conv => whnf) | fail)
  refine Run.callAX (holds_fn [39, 39, 45, 45, 173, 173, 8204, 8205, 8217, 8217] r (by decide)) rfl rfl ⟨Le.litL tR [39, 39, 45, 45, 173, 173, 8204, 8205, 8217, 8217] _ rfl, Le.refl _, trivial⟩ rfl rfl rfl ?_
  rw [holds_isJoiner]
  (conv => whnf); repeat' (first | ((with_reducible refine Know.mk fun _ => ?_); conv => whnf) | ((with_reducible refine Need.mk ?_ ?_); (first | omega | (dsimp only; omega) | decide | exact bytes_le (by rfl) (by omega) | exact ⟨rfl, by omega, bytes_le (by rfl) (by omega), by omega⟩ | (refine ⟨?_, ?_⟩ <;> (rw [wrap64 (by omega) (by omega)]; omega))); conv => whnf) | ((with_reducible refine Both.mk ?_ ?_) <;> conv => whnf) | ((with_reducible refine Any.mk fun b hb => ?_); conv => whnf) | ((with_reducible refine AskB.dec (fun hb => ?_) (fun hb => ?_)) <;> conv => whnf) | ((with_reducible refine AskB.ndec (fun hb => ?_) (fun hb => ?_)) <;> conv => whnf) | ((with_reducible refine AskB.mk (fun hb => ?_) (fun hb => ?_)) <;> conv => whnf) | ((with_reducible refine Run.drawX rfl (by decide +kernel) ?_); conv => whnf) | ((with_reducible refine Run.drawT rfl (by decide +kernel) ?_); conv => whnf) | ((with_reducible refine Run.drawW rfl (by decide +kernel) ?_); conv => whnf) | fail)
  · exact Run.leave (ts := [2]) (.inr ⟨_, rfl⟩) rfl Tryd.func60 rfl (Le.int (kOf_joiner hb).symm)
  refine Run.callAX (holds_fn [48, 57, 1632, 1641] r (by decide)) rfl rfl ⟨Le.litL tR [48, 57, 1632, 1641] _ rfl, Le.refl _, trivial⟩ rfl rfl rfl ?_
  rw [holds_isDigit]
  (conv => whnf); repeat' (first | ((with_reducible refine Know.mk fun _ => ?_); conv => whnf) | ((with_reducible refine Need.mk ?_ ?_); (first | omega | (dsimp only; omega) | decide | exact bytes_le (by rfl) (by omega) | exact ⟨rfl, by omega, bytes_le (by rfl) (by omega), by omega⟩ | (refine ⟨?_, ?_⟩ <;> (rw [wrap64 (by omega) (by omega)]; omega))); conv => whnf) | ((with_reducible refine Both.mk ?_ ?_) <;> conv => whnf) | ((with_reducible refine Any.mk fun b hb => ?_); conv => whnf) | ((with_reducible refine AskB.dec (fun hb => ?_) (fun hb => ?_)) <;> conv => whnf) | ((with_reducible refine AskB.ndec (fun hb => ?_) (fun hb => ?_)) <;> conv => whnf) | ((with_reducible refine AskB.mk (fun hb => ?_) (fun hb => ?_)) <;> conv => whnf) | ((with_reducible refine Run.drawX rfl (by decide +kernel) ?_); conv => whnf) | ((with_reducible refine Run.drawT rfl (by decide +kernel) ?_); conv => whnf) | ((with_reducible refine Run.drawW rfl (by decide +kernel) ?_); conv => whnf) | fail)
  · exact Run.leave (ts := [2]) (.inr ⟨_, rfl⟩) rfl Tryd.func60 rfl (Le.int (kOf_digit hb).symm)
  refine Run.callAX (holds_fn [65, 90, 97, 122, 170, 170, 181, 181, 186, 186, 192, 214, 216, 246, 248, 687, 880, 893, 895, 902, 904, 1153, 1162, 1327, 7680, 8191, 64256, 64262, 9676, 9676] r (by decide)) rfl rfl ⟨Le.litL tR [65, 90, 97, 122, 170, 170, 181, 181, 186, 186, 192, 214, 216, 246, 248, 687, 880, 893, 895, 902, 904, 1153, 1162, 1327, 7680, 8191, 64256, 64262, 9676, 9676] _ rfl, Le.refl _, trivial⟩ rfl rfl rfl ?_
  rw [holds_isLetter]
  (conv => whnf); repeat' (first | ((with_reducible refine Know.mk fun _ => ?_); conv => whnf) | ((with_reducible refine Need.mk ?_ ?_); (first | omega | (dsimp only; omega) | decide | exact bytes_le (by rfl) (by omega) | exact ⟨rfl, by omega, bytes_le (by rfl) (by omega), by omega⟩ | (refine ⟨?_, ?_⟩ <;> (rw [wrap64 (by omega) (by omega)]; omega))); conv => whnf) | ((with_reducible refine Both.mk ?_ ?_) <;> conv => whnf) | ((with_reducible refine Any.mk fun b hb => ?_); conv => whnf) | ((with_reducible refine AskB.dec (fun hb => ?_) (fun hb => ?_)) <;> conv => whnf) | ((with_reducible refine AskB.ndec (fun hb => ?_) (fun hb => ?_)) <;> conv => whnf) | ((with_reducible refine AskB.mk (fun hb => ?_) (fun hb => ?_)) <;> conv => whnf) | ((with_reducible refine Run.drawX rfl (by decide +kernel) ?_); conv => whnf) | ((with_reducible refine Run.drawT rfl (by decide +kernel) ?_); conv => whnf) | ((with_reducible refine Run.drawW rfl (by decide +kernel) ?_); conv => whnf) | fail)
  · exact Run.leave (ts := [2]) (.inr ⟨_, rfl⟩) rfl Tryd.func60 rfl (Le.int (kOf_letter hb).symm)
  refine Run.callAX (holds_fn [768, 879, 1155, 1161, 7616, 7679, 8400, 8447] r (by decide)) rfl rfl ⟨Le.litL tR [768, 879, 1155, 1161, 7616, 7679, 8400, 8447] _ rfl, Le.refl _, trivial⟩ rfl rfl rfl ?_
  rw [holds_isAccent]
  (conv => whnf); repeat' (first | ((with_reducible refine Know.mk fun _ => ?_); conv => whnf) | ((with_reducible refine Need.mk ?_ ?_); (first | omega | (dsimp only; omega) | decide | exact bytes_le (by rfl) (by omega) | exact ⟨rfl, by omega, bytes_le (by rfl) (by omega), by omega⟩ | (refine ⟨?_, ?_⟩ <;> (rw [wrap64 (by omega) (by omega)]; omega))); conv => whnf) | ((with_reducible refine Both.mk ?_ ?_) <;> conv => whnf) | ((with_reducible refine Any.mk fun b hb => ?_); conv => whnf) | ((with_reducible refine AskB.dec (fun hb => ?_) (fun hb => ?_)) <;> conv => whnf) | ((with_reducible refine AskB.ndec (fun hb => ?_) (fun hb => ?_)) <;> conv => whnf) | ((with_reducible refine AskB.mk (fun hb => ?_) (fun hb => ?_)) <;> conv => whnf) | ((with_reducible refine Run.drawX rfl (by decide +kernel) ?_); conv => whnf) | ((with_reducible refine Run.drawT rfl (by decide +kernel) ?_); conv => whnf) | ((with_reducible refine Run.drawW rfl (by decide +kernel) ?_); conv => whnf) | fail)
  · exact Run.leave (ts := [2]) (.inr ⟨_, rfl⟩) rfl Tryd.func60 rfl (Le.int (kOf_accent hb).symm)
  refine Run.callAX (holds_fn [10, 10, 13, 13, 133, 133, 8232, 8233] r (by decide)) rfl rfl ⟨Le.litL tR [10, 10, 13, 13, 133, 133, 8232, 8233] _ rfl, Le.refl _, trivial⟩ rfl rfl rfl ?_
  rw [holds_isLine]
  (conv => whnf); repeat' (first | ((with_reducible refine Know.mk fun _ => ?_); conv => whnf) | ((with_reducible refine Need.mk ?_ ?_); (first | omega | (dsimp only; omega) | decide | exact bytes_le (by rfl) (by omega) | exact ⟨rfl, by omega, bytes_le (by rfl) (by omega), by omega⟩ | (refine ⟨?_, ?_⟩ <;> (rw [wrap64 (by omega) (by omega)]; omega))); conv => whnf) | ((with_reducible refine Both.mk ?_ ?_) <;> conv => whnf) | ((with_reducible refine Any.mk fun b hb => ?_); conv => whnf) | ((with_reducible refine AskB.dec (fun hb => ?_) (fun hb => ?_)) <;> conv => whnf) | ((with_reducible refine AskB.ndec (fun hb => ?_) (fun hb => ?_)) <;> conv => whnf) | ((with_reducible refine AskB.mk (fun hb => ?_) (fun hb => ?_)) <;> conv => whnf) | ((with_reducible refine Run.drawX rfl (by decide +kernel) ?_); conv => whnf) | ((with_reducible refine Run.drawT rfl (by decide +kernel) ?_); conv => whnf) | ((with_reducible refine Run.drawW rfl (by decide +kernel) ?_); conv => whnf) | fail)
  · exact Run.leave (ts := [2]) (.inr ⟨_, rfl⟩) rfl Tryd.func60 rfl (Le.int (kOf_line hb).symm)
  refine Run.callAX (holds_fn [9, 9, 11, 12, 32, 32, 160, 160, 8194, 8202, 8239, 8239, 12288, 12288] r (by decide)) rfl rfl ⟨Le.litL tR [9, 9, 11, 12, 32, 32, 160, 160, 8194, 8202, 8239, 8239, 12288, 12288] _ rfl, Le.refl _, trivial⟩ rfl rfl rfl ?_
  rw [holds_isBlank]
  (conv => whnf); repeat' (first | ((with_reducible refine Know.mk fun _ => ?_); conv => whnf) | ((with_reducible refine Need.mk ?_ ?_); (first | omega | (dsimp only; omega) | decide | exact bytes_le (by rfl) (by omega) | exact ⟨rfl, by omega, bytes_le (by rfl) (by omega), by omega⟩ | (refine ⟨?_, ?_⟩ <;> (rw [wrap64 (by omega) (by omega)]; omega))); conv => whnf) | ((with_reducible refine Both.mk ?_ ?_) <;> conv => whnf) | ((with_reducible refine Any.mk fun b hb => ?_); conv => whnf) | ((with_reducible refine AskB.dec (fun hb => ?_) (fun hb => ?_)) <;> conv => whnf) | ((with_reducible refine AskB.ndec (fun hb => ?_) (fun hb => ?_)) <;> conv => whnf) | ((with_reducible refine AskB.mk (fun hb => ?_) (fun hb => ?_)) <;> conv => whnf) | ((with_reducible refine Run.drawX rfl (by decide +kernel) ?_); conv => whnf) | ((with_reducible refine Run.drawT rfl (by decide +kernel) ?_); conv => whnf) | ((with_reducible refine Run.drawW rfl (by decide +kernel) ?_); conv => whnf) | fail)
  · exact Run.leave (ts := [2]) (.inr ⟨_, rfl⟩) rfl Tryd.func60 rfl (Le.int (kOf_blank hb).symm)
  refine Run.callAX (holds_fn [33, 126, 161, 191, 903, 903, 8208, 8231, 8240, 8286] r (by decide)) rfl rfl ⟨Le.litL tR [33, 126, 161, 191, 903, 903, 8208, 8231, 8240, 8286] _ rfl, Le.refl _, trivial⟩ rfl rfl rfl ?_
  rw [holds_isPoint]
  (conv => whnf); repeat' (first | ((with_reducible refine Know.mk fun _ => ?_); conv => whnf) | ((with_reducible refine Need.mk ?_ ?_); (first | omega | (dsimp only; omega) | decide | exact bytes_le (by rfl) (by omega) | exact ⟨rfl, by omega, bytes_le (by rfl) (by omega), by omega⟩ | (refine ⟨?_, ?_⟩ <;> (rw [wrap64 (by omega) (by omega)]; omega))); conv => whnf) | ((with_reducible refine Both.mk ?_ ?_) <;> conv => whnf) | ((with_reducible refine Any.mk fun b hb => ?_); conv => whnf) | ((with_reducible refine AskB.dec (fun hb => ?_) (fun hb => ?_)) <;> conv => whnf) | ((with_reducible refine AskB.ndec (fun hb => ?_) (fun hb => ?_)) <;> conv => whnf) | ((with_reducible refine AskB.mk (fun hb => ?_) (fun hb => ?_)) <;> conv => whnf) | ((with_reducible refine Run.drawX rfl (by decide +kernel) ?_); conv => whnf) | ((with_reducible refine Run.drawT rfl (by decide +kernel) ?_); conv => whnf) | ((with_reducible refine Run.drawW rfl (by decide +kernel) ?_); conv => whnf) | fail)
  · exact Run.leave (ts := [2]) (.inr ⟨_, rfl⟩) rfl Tryd.func60 rfl (Le.int (kOf_point hb (by assumption) (by assumption) (by assumption)).symm)
  exact Run.leave (ts := [2]) (.inr ⟨_, rfl⟩) rfl Tryd.func60 rfl (Le.int (kOf_other (by assumption) (by assumption) (by assumption) (by assumption) (by assumption) (by assumption) (by assumption)).symm)
theorem cell65_fn (c : Cel) : Fn Tryd.prog 65 [.agg 5 (tCel.enc c)] (.int .i64 (kCel c)) := by
  refine Fn.of Tryd.f65 _ Tryd.func65 rfl (by decide) (by show 1 ≤ _; decide) tbOk 8 rfl fun S w0 gl => ?_
  refine Run.go ?_; (conv => whnf); repeat' (first | ((with_reducible refine Know.mk fun _ => ?_); conv => whnf) | ((with_reducible refine Need.mk ?_ ?_); (first | omega | (dsimp only; omega) | decide | exact bytes_le (by rfl) (by omega) | exact ⟨rfl, by omega, bytes_le (by rfl) (by omega), by omega⟩ | (refine ⟨?_, ?_⟩ <;> (rw [wrap64 (by omega) (by omega)]; omega))); conv => whnf) | ((with_reducible refine Both.mk ?_ ?_) <;> conv => whnf) | ((with_reducible refine Any.mk fun b hb => ?_); conv => whnf) | ((with_reducible refine AskB.dec (fun hb => ?_) (fun hb => ?_)) <;> conv => whnf) | ((with_reducible refine AskB.ndec (fun hb => ?_) (fun hb => ?_)) <;> conv => whnf) | ((with_reducible refine AskB.mk (fun hb => ?_) (fun hb => ?_)) <;> conv => whnf) | ((with_reducible refine Run.drawX rfl (by decide +kernel) ?_); conv => whnf) | ((with_reducible refine Run.drawT rfl (by decide +kernel) ?_); conv => whnf) | ((with_reducible refine Run.drawW rfl (by decide +kernel) ?_); conv => whnf) | fail)
  · exact Run.leave (ts := [2]) (.inr ⟨_, rfl⟩) rfl Tryd.func65 rfl (Le.int (by unfold kCel; rw [if_pos hb]))
  · refine Run.callBX (of60_fn c.r) rfl rfl ⟨Le.refl _, trivial⟩ rfl rfl rfl ?_
    (conv => whnf); repeat' (first | ((with_reducible refine Know.mk fun _ => ?_); conv => whnf) | ((with_reducible refine Need.mk ?_ ?_); (first | omega | (dsimp only; omega) | decide | exact bytes_le (by rfl) (by omega) | exact ⟨rfl, by omega, bytes_le (by rfl) (by omega), by omega⟩ | (refine ⟨?_, ?_⟩ <;> (rw [wrap64 (by omega) (by omega)]; omega))); conv => whnf) | ((with_reducible refine Both.mk ?_ ?_) <;> conv => whnf) | ((with_reducible refine Any.mk fun b hb => ?_); conv => whnf) | ((with_reducible refine AskB.dec (fun hb => ?_) (fun hb => ?_)) <;> conv => whnf) | ((with_reducible refine AskB.ndec (fun hb => ?_) (fun hb => ?_)) <;> conv => whnf) | ((with_reducible refine AskB.mk (fun hb => ?_) (fun hb => ?_)) <;> conv => whnf) | ((with_reducible refine Run.drawX rfl (by decide +kernel) ?_); conv => whnf) | ((with_reducible refine Run.drawT rfl (by decide +kernel) ?_); conv => whnf) | ((with_reducible refine Run.drawW rfl (by decide +kernel) ?_); conv => whnf) | fail)
    exact Run.leave (ts := [2]) (.inr ⟨_, rfl⟩) rfl Tryd.func65 rfl (Le.int (by unfold kCel; rw [if_neg (by simp [hb])]))
theorem wordy66_fn (c : Cel) : Fn Tryd.prog 66 [.agg 5 (tCel.enc c)] (.bool (wordy (kCel c))) := by
  refine Fn.of Tryd.f66 _ Tryd.func66 rfl (by decide) (by show 1 ≤ _; decide) tbOk 16 rfl fun S w0 gl => ?_
  refine Run.go ?_; (conv => whnf); repeat' (first | ((with_reducible refine Know.mk fun _ => ?_); conv => whnf) | ((with_reducible refine Need.mk ?_ ?_); (first | omega | (dsimp only; omega) | decide | exact bytes_le (by rfl) (by omega) | exact ⟨rfl, by omega, bytes_le (by rfl) (by omega), by omega⟩ | (refine ⟨?_, ?_⟩ <;> (rw [wrap64 (by omega) (by omega)]; omega))); conv => whnf) | ((with_reducible refine Both.mk ?_ ?_) <;> conv => whnf) | ((with_reducible refine Any.mk fun b hb => ?_); conv => whnf) | ((with_reducible refine AskB.dec (fun hb => ?_) (fun hb => ?_)) <;> conv => whnf) | ((with_reducible refine AskB.ndec (fun hb => ?_) (fun hb => ?_)) <;> conv => whnf) | ((with_reducible refine AskB.mk (fun hb => ?_) (fun hb => ?_)) <;> conv => whnf) | ((with_reducible refine Run.drawX rfl (by decide +kernel) ?_); conv => whnf) | ((with_reducible refine Run.drawT rfl (by decide +kernel) ?_); conv => whnf) | ((with_reducible refine Run.drawW rfl (by decide +kernel) ?_); conv => whnf) | fail)
  refine Run.callBX (cell65_fn c) rfl rfl ⟨?_, trivial⟩ rfl rfl rfl ?_
  · refine Le.agg fun j hj => ?_
    match j, hj with
    | 0, _ => exact Le.refl _
    | 1, _ => exact Le.refl _
    | 2, _ => exact Le.refl _
    | 3, _ => exact Le.refl _
    | 4, _ => exact Le.refl _
  (conv => whnf); repeat' (first | ((with_reducible refine Know.mk fun _ => ?_); conv => whnf) | ((with_reducible refine Need.mk ?_ ?_); (first | omega | (dsimp only; omega) | decide | exact bytes_le (by rfl) (by omega) | exact ⟨rfl, by omega, bytes_le (by rfl) (by omega), by omega⟩ | (refine ⟨?_, ?_⟩ <;> (rw [wrap64 (by omega) (by omega)]; omega))); conv => whnf) | ((with_reducible refine Both.mk ?_ ?_) <;> conv => whnf) | ((with_reducible refine Any.mk fun b hb => ?_); conv => whnf) | ((with_reducible refine AskB.dec (fun hb => ?_) (fun hb => ?_)) <;> conv => whnf) | ((with_reducible refine AskB.ndec (fun hb => ?_) (fun hb => ?_)) <;> conv => whnf) | ((with_reducible refine AskB.mk (fun hb => ?_) (fun hb => ?_)) <;> conv => whnf) | ((with_reducible refine Run.drawX rfl (by decide +kernel) ?_); conv => whnf) | ((with_reducible refine Run.drawT rfl (by decide +kernel) ?_); conv => whnf) | ((with_reducible refine Run.drawW rfl (by decide +kernel) ?_); conv => whnf) | fail)
  all_goals refine Run.leave (ts := [2]) (.inr ⟨_, rfl⟩) rfl Tryd.func66 rfl ?_
  all_goals first
    | exact Le.tt.trans (Le.bool (decide_eq_true (by omega)).symm)
    | exact Le.bool (decide_eq_decide.mpr (by omega))
theorem knd_in {L : List Cel} {j : Nat} (h : j < L.length) : kCel (L.getD j cel0) = knd L j := by unfold knd; rw [if_pos h]
/-- The document's words, as it goes through them. -/
theorem word67_fn (L : List Cel) (i : Nat) (hi : i ≤ L.length) (hL : L.length ≤ 1048576) : Fn Tryd.prog 67 [tCel.L L, .int .i64 i] (.int .i64 (wordE L i : Nat)) := by
  refine Fn.of Tryd.f67 _ Tryd.func67 rfl (by decide) (by show 2 ≤ _; decide) tbOk 41 rfl fun S w0 gl => ?_
  refine Run.go ?_; (conv => whnf); repeat' (first | ((with_reducible refine Know.mk fun _ => ?_); conv => whnf) | ((with_reducible refine Need.mk ?_ ?_); (first | omega | (dsimp only; omega) | decide | exact bytes_le (by rfl) (by omega) | exact ⟨rfl, by omega, bytes_le (by rfl) (by omega), by omega⟩ | (refine ⟨?_, ?_⟩ <;> (rw [wrap64 (by omega) (by omega)]; omega))); conv => whnf) | ((with_reducible refine Both.mk ?_ ?_) <;> conv => whnf) | ((with_reducible refine Any.mk fun b hb => ?_); conv => whnf) | ((with_reducible refine AskB.dec (fun hb => ?_) (fun hb => ?_)) <;> conv => whnf) | ((with_reducible refine AskB.ndec (fun hb => ?_) (fun hb => ?_)) <;> conv => whnf) | ((with_reducible refine AskB.mk (fun hb => ?_) (fun hb => ?_)) <;> conv => whnf) | ((with_reducible refine Run.drawX rfl (by decide +kernel) ?_); conv => whnf) | ((with_reducible refine Run.drawT rfl (by decide +kernel) ?_); conv => whnf) | ((with_reducible refine Run.drawW rfl (by decide +kernel) ?_); conv => whnf) | fail)
  refine Run.loop [0] (fun (j : Nat) => [(1, .int .i64 (j : Int))]) (fun j => []) (fun j => i ≤ j ∧ j ≤ L.length ∧ wordE L j = wordE L i) (fun j => L.length - j) i ⟨Nat.le_refl _, hi, rfl⟩ ⟨Le.refl _, trivial⟩ trivial ?_
  intro j ⟨hj1, hj2, hj3⟩ IH
  have hw1 : IntKind.i64.wrap ((j : Int) + 1) = ((j + 1 : Nat) : Int) := wrap64 (by omega) (by omega)
  have hw2 : IntKind.i64.wrap ((j : Int) + 2) = ((j + 2 : Nat) : Int) := wrap64 (by omega) (by omega)
  have stop : j < L.length → ¬ wy L j → ¬ (knd L j = 4 ∧ wy L (j + 1)) → wordE L i = j := fun h1 h2 h3 => by rw [← hj3, wordE.eq_def L j, dif_pos h1, if_neg h2, if_neg h3]
  have hg1 : tCel.G L (IntKind.i64.wrap (↑j + 1)).toNat = tCel.enc (L.getD (j + 1) cel0) := by rw [hw1]; rfl
  refine Run.go ?_; (conv => whnf); repeat' (first | ((with_reducible refine Know.mk fun _ => ?_); conv => whnf) | ((with_reducible refine Need.mk ?_ ?_); (first | omega | (dsimp only; omega) | decide | exact bytes_le (by rfl) (by omega) | exact ⟨rfl, by omega, bytes_le (by rfl) (by omega), by omega⟩ | (refine ⟨?_, ?_⟩ <;> (rw [wrap64 (by omega) (by omega)]; omega))); conv => whnf) | ((with_reducible refine Both.mk ?_ ?_) <;> conv => whnf) | ((with_reducible refine Any.mk fun b hb => ?_); conv => whnf) | ((with_reducible refine AskB.dec (fun hb => ?_) (fun hb => ?_)) <;> conv => whnf) | ((with_reducible refine AskB.ndec (fun hb => ?_) (fun hb => ?_)) <;> conv => whnf) | ((with_reducible refine AskB.mk (fun hb => ?_) (fun hb => ?_)) <;> conv => whnf) | ((with_reducible refine Run.drawX rfl (by decide +kernel) ?_); conv => whnf) | ((with_reducible refine Run.drawT rfl (by decide +kernel) ?_); conv => whnf) | ((with_reducible refine Run.drawW rfl (by decide +kernel) ?_); conv => whnf) | fail)
  · have hlt : j < L.length := by omega
    refine Run.callBX (wordy66_fn (L.getD j cel0)) rfl rfl ⟨Le.refl _, trivial⟩ rfl rfl rfl ?_
    rw [knd_in hlt]
    (conv => whnf); repeat' (first | ((with_reducible refine Know.mk fun _ => ?_); conv => whnf) | ((with_reducible refine Need.mk ?_ ?_); (first | omega | (dsimp only; omega) | decide | exact bytes_le (by rfl) (by omega) | exact ⟨rfl, by omega, bytes_le (by rfl) (by omega), by omega⟩ | (refine ⟨?_, ?_⟩ <;> (rw [wrap64 (by omega) (by omega)]; omega))); conv => whnf) | ((with_reducible refine Both.mk ?_ ?_) <;> conv => whnf) | ((with_reducible refine Any.mk fun b hb => ?_); conv => whnf) | ((with_reducible refine AskB.dec (fun hb => ?_) (fun hb => ?_)) <;> conv => whnf) | ((with_reducible refine AskB.ndec (fun hb => ?_) (fun hb => ?_)) <;> conv => whnf) | ((with_reducible refine AskB.mk (fun hb => ?_) (fun hb => ?_)) <;> conv => whnf) | ((with_reducible refine Run.drawX rfl (by decide +kernel) ?_); conv => whnf) | ((with_reducible refine Run.drawT rfl (by decide +kernel) ?_); conv => whnf) | ((with_reducible refine Run.drawW rfl (by decide +kernel) ?_); conv => whnf) | fail)
    · refine Run.to _ _ ?_ ?_ (IH (j + 1) (by omega) ⟨by omega, by omega, ?_⟩)
      · exact ⟨Le.refl _, Le.int hw1, trivial⟩
      · exact trivial
      · rw [← hj3, wordE.eq_def L j, dif_pos hlt, if_pos hb]
    · have hnw : ¬ wy L j := nwy hb
      refine Run.callBX (cell65_fn (L.getD j cel0)) rfl rfl ⟨Le.refl _, trivial⟩ rfl rfl rfl ?_
      rw [knd_in hlt]
      (conv => whnf); repeat' (first | ((with_reducible refine Know.mk fun _ => ?_); conv => whnf) | ((with_reducible refine Need.mk ?_ ?_); (first | omega | (dsimp only; omega) | decide | exact bytes_le (by rfl) (by omega) | exact ⟨rfl, by omega, bytes_le (by rfl) (by omega), by omega⟩ | (refine ⟨?_, ?_⟩ <;> (rw [wrap64 (by omega) (by omega)]; omega))); conv => whnf) | ((with_reducible refine Both.mk ?_ ?_) <;> conv => whnf) | ((with_reducible refine Any.mk fun b hb => ?_); conv => whnf) | ((with_reducible refine AskB.dec (fun hb => ?_) (fun hb => ?_)) <;> conv => whnf) | ((with_reducible refine AskB.ndec (fun hb => ?_) (fun hb => ?_)) <;> conv => whnf) | ((with_reducible refine AskB.mk (fun hb => ?_) (fun hb => ?_)) <;> conv => whnf) | ((with_reducible refine Run.drawX rfl (by decide +kernel) ?_); conv => whnf) | ((with_reducible refine Run.drawT rfl (by decide +kernel) ?_); conv => whnf) | ((with_reducible refine Run.drawW rfl (by decide +kernel) ?_); conv => whnf) | fail)
      · have hlt1 : j + 1 < L.length := by rw [hw1] at hb; omega
        have hk4 : knd L j = 4 := by assumption
        refine Run.callBX (wordy66_fn (L.getD (j + 1) cel0)) rfl rfl ⟨?_, trivial⟩ rfl rfl rfl ?_
        · rw [← hg1]; exact Le.refl _
        rw [knd_in hlt1]
        (conv => whnf); repeat' (first | ((with_reducible refine Know.mk fun _ => ?_); conv => whnf) | ((with_reducible refine Need.mk ?_ ?_); (first | omega | (dsimp only; omega) | decide | exact bytes_le (by rfl) (by omega) | exact ⟨rfl, by omega, bytes_le (by rfl) (by omega), by omega⟩ | (refine ⟨?_, ?_⟩ <;> (rw [wrap64 (by omega) (by omega)]; omega))); conv => whnf) | ((with_reducible refine Both.mk ?_ ?_) <;> conv => whnf) | ((with_reducible refine Any.mk fun b hb => ?_); conv => whnf) | ((with_reducible refine AskB.dec (fun hb => ?_) (fun hb => ?_)) <;> conv => whnf) | ((with_reducible refine AskB.ndec (fun hb => ?_) (fun hb => ?_)) <;> conv => whnf) | ((with_reducible refine AskB.mk (fun hb => ?_) (fun hb => ?_)) <;> conv => whnf) | ((with_reducible refine Run.drawX rfl (by decide +kernel) ?_); conv => whnf) | ((with_reducible refine Run.drawT rfl (by decide +kernel) ?_); conv => whnf) | ((with_reducible refine Run.drawW rfl (by decide +kernel) ?_); conv => whnf) | fail)
        · refine Run.to _ _ ?_ ?_ (IH (j + 2) (by omega) ⟨by omega, by omega, ?_⟩)
          · exact ⟨Le.refl _, Le.int hw2, trivial⟩
          · exact trivial
          · rw [← hj3, wordE.eq_def L j, dif_pos hlt, if_neg hnw, if_pos ⟨hk4, hb⟩]
        · exact Run.leave (ts := [4]) (.inr ⟨_, rfl⟩) rfl Tryd.func67 rfl (Le.int (by rw [stop hlt hnw (fun h => absurd (hb.symm.trans h.2) (by decide))]))
      · exact Run.leave (ts := [4]) (.inr ⟨_, rfl⟩) rfl Tryd.func67 rfl (Le.int (by rw [stop hlt hnw (fun h => absurd (wy_lt h.2) (by rw [hw1] at hb; omega))]))
      · exact Run.leave (ts := [4]) (.inr ⟨_, rfl⟩) rfl Tryd.func67 rfl (Le.int (by rw [stop hlt hnw (fun h => absurd h.1 hb)]))
  · exact Run.leave (ts := [4]) (.inr ⟨_, rfl⟩) rfl Tryd.func67 rfl (Le.int (by rw [← hj3, wordE.eq_def L j, dif_neg (by omega)]))
end Go.Proofs.YtfodjmemdkibpaaDoor.V
