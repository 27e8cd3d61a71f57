/-
The texts BWf, BRt, BWd, BWg, BWh, BWi, BRw, BWj, BRq, BRv, BWk, BWq, BWr, BXp, BXr, BTa, BWt, BWu, BWv, BWx, BWy, BWz, BXa, BRx, of each what the law needs.
-/
import Derived.Test.YtnadacaoehpdnaaDoorQMo2
import Derived.Lib.MapLaws
import Derived.Lib.TrimUEq
namespace Go.Proofs.YtnadacaoehpdnaaDoor.V
set_option linter.unusedVariables false
set_option linter.unusedSimpArgs false
open Go Go.Proofs Go.RowKit
set_option maxRecDepth 100000
set_option maxHeartbeats 2000000
open Go Go.Proofs Go.Proofs.YtnadacaoehpdnaaDoor.V
theorem cell_fn (s : ByteArray) (i : Nat) (hi : i < s.size) (hs : s.size ≤ 134217728) : Fn Tryd.prog 58 [.str s, .int .i64 i] (.agg 5 (tCel.enc (cellAt s i))) := by
  refine Fn.of Tryd.f58 _ Tryd.func58 rfl (by decide) (by show 2 ≤ _; decide) tbOk 103 rfl fun S w0 gl => ?_
  refine Run.go ?_; (conv => whnf); repeat' (first | ((with_reducible refine Know.mk fun _ => ?_); conv => whnf) | ((with_reducible refine Need.mk ?_ ?_); exact nd; conv => whnf) | ((with_reducible first | refine Both.mk ?_ ?_ | refine Any.mk fun b hb => ?_ | refine AskB.dec (fun hb => ?_) (fun hb => ?_) | refine AskB.ndec (fun hb => ?_) (fun hb => ?_) | refine AskB.mk (fun hb => ?_) (fun hb => ?_)) <;> conv => whnf) | ((with_reducible first | refine Run.drawX rfl (by decide +kernel) ?_ | refine Run.drawT rfl (by decide +kernel) ?_ | refine Run.drawW rfl (by decide +kernel) ?_); conv => whnf))
  refine Run.callBX (wants_fn (bt s i)) rfl rfl ⟨Le.refl _, trivial⟩ rfl rfl rfl ?_
  (conv => whnf); repeat' (first | ((with_reducible refine Know.mk fun _ => ?_); conv => whnf) | ((with_reducible refine Need.mk ?_ ?_); exact nd; conv => whnf) | ((with_reducible first | refine Both.mk ?_ ?_ | refine Any.mk fun b hb => ?_ | refine AskB.dec (fun hb => ?_) (fun hb => ?_) | refine AskB.ndec (fun hb => ?_) (fun hb => ?_) | refine AskB.mk (fun hb => ?_) (fun hb => ?_)) <;> conv => whnf) | ((with_reducible first | refine Run.drawX rfl (by decide +kernel) ?_ | refine Run.drawT rfl (by decide +kernel) ?_ | refine Run.drawW rfl (by decide +kernel) ?_); conv => whnf))
  · have hd := dec_none s i (by omega)
    rw [cellAt_bad s i hd]
    refine Run.leaveC (.inr ⟨_, rfl⟩) rfl Tryd.func58 rfl rfl rfl (Nat.le_of_ble_eq_true rfl) (Le.agg fun j hj => ?_)
    match j, hj with
    | 0, _ => exact Le.refl _
    | 1, _ => exact Le.refl _
    | 2, _ => exact Le.refl _
    | 3, _ => exact Le.tt
    | 4, _ => exact Le.refl _
  have hne : wantsV (bt s i) ≠ 0 := by omega
  obtain ⟨hbad, hgood⟩ := dec_cases s i hi hne
  have hfv : fitsV s i = fitsE s i (wantsV (bt s i)) 1 := by unfold fitsV; rw [if_neg hne]
  rw [← hfv] at hbad hgood
  have hall := fitsE_all s i (wantsV (bt s i)) 1 (by omega)
  have hle := fitsE_le s i (wantsV (bt s i)) 1 (by omega)
  rw [← hfv] at hall hle
  have hin : ∀ j : Nat, ¬ ((fitsV s i : Nat) : Int) < (wantsV (bt s i) : Nat) → j < wantsV (bt s i) → i + j < s.size := fun j h1 h2 => by
    by_cases e : j = 0
    · subst e; exact hi
    · exact ((hall.mp (by omega)) j (by omega) h2).1
  have hin1 := hin 1
  have hin2 := hin 2
  have hin3 := hin 3
  have hw1 : IntKind.i64.wrap ((i : Int) + 1) = (i : Int) + 1 := wrap64 (by omega) (by omega)
  have hw2 : IntKind.i64.wrap ((i : Int) + 2) = (i : Int) + 2 := wrap64 (by omega) (by omega)
  have hw3 : IntKind.i64.wrap ((i : Int) + 3) = (i : Int) + 3 := wrap64 (by omega) (by omega)
  refine Run.callBX (fits_fn s i hi hs) rfl rfl ⟨Le.refl _, Le.refl _, trivial⟩ rfl rfl rfl ?_
  (conv => whnf); repeat' (first | ((with_reducible refine Know.mk fun _ => ?_); conv => whnf) | ((with_reducible refine Need.mk ?_ ?_); exact nd; conv => whnf) | ((with_reducible first | refine Both.mk ?_ ?_ | refine Any.mk fun b hb => ?_ | refine AskB.dec (fun hb => ?_) (fun hb => ?_) | refine AskB.ndec (fun hb => ?_) (fun hb => ?_) | refine AskB.mk (fun hb => ?_) (fun hb => ?_)) <;> conv => whnf) | ((with_reducible first | refine Run.drawX rfl (by decide +kernel) ?_ | refine Run.drawT rfl (by decide +kernel) ?_ | refine Run.drawW rfl (by decide +kernel) ?_); conv => whnf))
  · rw [cellAt_bad s i (hbad (by omega))]
    refine Run.leaveC (.inr ⟨_, rfl⟩) rfl Tryd.func58 rfl rfl rfl (Nat.le_of_ble_eq_true rfl) (Le.agg fun j hj => ?_)
    match j, hj with
    | 0, _ => exact Le.refl _
    | 1, _ => exact Le.refl _
    | 2, _ => exact Le.refl _
    | 3, _ => exact Le.tt
    | 4, _ => exact Le.refl _
  · have hW : wantsV (bt s i) = 2 := by omega
    obtain ⟨g1, g2, g3⟩ := hgood (by omega)
    rw [cellAt_good s i _ _ g1 (by omega)]
    refine Run.leaveC (.inr ⟨_, rfl⟩) rfl Tryd.func58 rfl rfl rfl (Nat.le_of_ble_eq_true rfl) (Le.agg fun j hj => ?_)
    match j, hj with
    | 0, _ => exact Le.refl _
    | 1, _ => exact Le.refl _
    | 2, _ =>
      refine Le.int ?_
      rw [Int.toNat_of_nonneg g2]
      rw [hW]
      exact (bits2 (bt s i) _ (bt_lt _ _) (bt_lt _ _)).trans (by rw [hw1]; rfl)
    | 3, _ => exact Le.ff
    | 4, _ => exact Le.refl _
  · have hW : wantsV (bt s i) = 3 := by omega
    obtain ⟨g1, g2, g3⟩ := hgood (by omega)
    rw [cellAt_good s i _ _ g1 (by omega)]
    refine Run.leaveC (.inr ⟨_, rfl⟩) rfl Tryd.func58 rfl rfl rfl (Nat.le_of_ble_eq_true rfl) (Le.agg fun j hj => ?_)
    match j, hj with
    | 0, _ => exact Le.refl _
    | 1, _ => exact Le.refl _
    | 2, _ =>
      refine Le.int ?_
      rw [Int.toNat_of_nonneg g2]
      rw [hW]
      exact (bits3 (bt s i) _ _ (bt_lt _ _) (bt_lt _ _) (bt_lt _ _)).trans (by rw [hw1, hw2]; rfl)
    | 3, _ => exact Le.ff
    | 4, _ => exact Le.refl _
  · have hW : wantsV (bt s i) = 4 := by omega
    obtain ⟨g1, g2, g3⟩ := hgood (by omega)
    rw [cellAt_good s i _ _ g1 (by omega)]
    refine Run.leaveC (.inr ⟨_, rfl⟩) rfl Tryd.func58 rfl rfl rfl (Nat.le_of_ble_eq_true rfl) (Le.agg fun j hj => ?_)
    match j, hj with
    | 0, _ => exact Le.refl _
    | 1, _ => exact Le.refl _
    | 2, _ =>
      refine Le.int ?_
      rw [Int.toNat_of_nonneg g2]
      rw [hW]
      exact (bits4 (bt s i) _ _ _ (bt_lt _ _) (bt_lt _ _) (bt_lt _ _) (bt_lt _ _)).trans (by rw [hw1, hw2, hw3]; rfl)
    | 3, _ => exact Le.ff
    | 4, _ => exact Le.refl _
  · have hW4 : wantsV (bt s i) ≤ 4 := by
      unfold wantsV
      repeat' split
      all_goals omega
    have hW : wantsV (bt s i) = 1 := by omega
    obtain ⟨g1, g2, g3⟩ := hgood (by omega)
    rw [cellAt_good s i _ _ g1 (by omega)]
    refine Run.leaveC (.inr ⟨_, rfl⟩) rfl Tryd.func58 rfl rfl rfl (Nat.le_of_ble_eq_true rfl) (Le.agg fun j hj => ?_)
    match j, hj with
    | 0, _ => exact Le.refl _
    | 1, _ => exact Le.refl _
    | 2, _ =>
      refine Le.int ?_
      rw [Int.toNat_of_nonneg g2]
      rw [hW]
      exact IntWalk.i32_in _ (by have := bt_lt s i; show _ ≤ bt s i ∧ bt s i ≤ _; omega)
    | 3, _ => exact Le.ff
    | 4, _ => exact Le.refl _
theorem cells36_fn (s : ByteArray) (hs : s.size ≤ 134217728) : Fn Tryd.prog 44 [.str s] (tCel.L (cells s 0)) := by
  refine Fn.of Tryd.f44 _ Tryd.func44 rfl (by decide) (by show 1 ≤ _; decide) tbOk 22 rfl fun S w0 gl => ?_
  refine Run.go ?_; (conv => whnf); repeat' (first | ((with_reducible refine Know.mk fun _ => ?_); conv => whnf) | ((with_reducible refine Need.mk ?_ ?_); exact nd; conv => whnf) | ((with_reducible first | refine Both.mk ?_ ?_ | refine Any.mk fun b hb => ?_ | refine AskB.dec (fun hb => ?_) (fun hb => ?_) | refine AskB.ndec (fun hb => ?_) (fun hb => ?_) | refine AskB.mk (fun hb => ?_) (fun hb => ?_)) <;> conv => whnf) | ((with_reducible first | refine Run.drawX rfl (by decide +kernel) ?_ | refine Run.drawT rfl (by decide +kernel) ?_ | refine Run.drawW rfl (by decide +kernel) ?_); conv => whnf))
  refine Run.holdNil 3 1000 87 5 (fun _ _ => .u) rfl ?_
  refine Run.loop [0] (fun (a : Nat × List Cel) => [(3, .row 1000), (4, .int .i64 (a.1 : Int))]) (fun a => [(1000, tCel.R 87 a.2)]) (fun a => a.1 ≤ s.size ∧ a.2.length ≤ a.1 ∧ a.2 ++ cells s a.1 = cells s 0) (fun a => s.size - a.1) (0, []) ⟨Nat.zero_le _, Nat.zero_le _, rfl⟩ ⟨Le.refl _, Le.refl _, trivial⟩ ⟨⟨rfl, rfl, rfl, fun i j hi => absurd hi (Nat.not_lt_zero _)⟩, trivial⟩ ?_
  intro ⟨p, l⟩ ⟨hp, hl, hc⟩ IH
  simp only at hp hl hc
  show Run _ _ (lst (_ ++ [(3, .row 1000), (4, .int .i64 (p : Int))])) (lstH [(1000, tCel.R 87 l)])
  refine Run.go ?_; (conv => whnf); repeat' (first | ((with_reducible refine Know.mk fun _ => ?_); conv => whnf) | ((with_reducible refine Need.mk ?_ ?_); exact nd; conv => whnf) | ((with_reducible first | refine Both.mk ?_ ?_ | refine Any.mk fun b hb => ?_ | refine AskB.dec (fun hb => ?_) (fun hb => ?_) | refine AskB.ndec (fun hb => ?_) (fun hb => ?_) | refine AskB.mk (fun hb => ?_) (fun hb => ?_)) <;> conv => whnf) | ((with_reducible first | refine Run.drawX rfl (by decide +kernel) ?_ | refine Run.drawT rfl (by decide +kernel) ?_ | refine Run.drawW rfl (by decide +kernel) ?_); conv => whnf))
  · have hw := Lib.width_pos s p
    have hle := decode_fit s p (by omega)
    have hnext : l ++ cells s p = (l ++ [cellAt s p]) ++ cells s (p + (Utf8.decode s p).2) := by rw [cells_in (by omega)]; simp
    have hwd : (cellAt s p).w = (Utf8.decode s p).2 := by unfold cellAt; split <;> simp_all
    refine Run.callBX (cell_fn s p (by omega) hs) rfl rfl ⟨Le.refl _, Le.refl _, trivial⟩ rfl rfl rfl ?_
    (conv => whnf); repeat' (first | ((with_reducible refine Know.mk fun _ => ?_); conv => whnf) | ((with_reducible refine Need.mk ?_ ?_); exact nd; conv => whnf) | ((with_reducible first | refine Both.mk ?_ ?_ | refine Any.mk fun b hb => ?_ | refine AskB.dec (fun hb => ?_) (fun hb => ?_) | refine AskB.ndec (fun hb => ?_) (fun hb => ?_) | refine AskB.mk (fun hb => ?_) (fun hb => ?_)) <;> conv => whnf) | ((with_reducible first | refine Run.drawX rfl (by decide +kernel) ?_ | refine Run.drawT rfl (by decide +kernel) ?_ | refine Run.drawW rfl (by decide +kernel) ?_); conv => whnf))
    refine Run.hold (z := 16) 3 1000 (by rfl) (by rfl) (by rfl) ?_
    refine Run.to _ _ ?_ ?_ (IH (p + (Utf8.decode s p).2, l ++ [cellAt s p]) (by simp only []; omega) ⟨by simp only []; omega, by simp only [List.length_append, List.length_singleton]; omega, by simp only []; rw [← hnext, hc]⟩)
    · exact ⟨Le.refl _, Le.refl _, Le.int ((congrArg IntKind.i64.wrap (by show (p : Int) + ((cellAt s p).w : Int) = ((p + (Utf8.decode s p).2 : Nat) : Int); rw [hwd, Int.natCast_add])).trans (wrap64 (x := ((p + (Utf8.decode s p).2 : Nat) : Int)) (by omega) (by omega))), trivial⟩
    · refine ⟨tCel.push 87 l (cellAt s p) _ (fun j hj => ?_), trivial⟩
      match j, hj with
      | 0, _ => exact Le.refl _
      | 1, _ => exact Le.refl _
      | 2, _ => exact Le.refl _
      | 3, _ => exact Le.refl _
      | 4, _ => exact Le.refl _
  have hpe : ¬ p < s.size := by omega
  rw [cells_out hpe, List.append_nil] at hc
  rw [← hc]
  exact Run.leave (ts := [2]) (.inr ⟨_, rfl⟩) rfl Tryd.func44 rfl (Le.refl _)
end Go.Proofs.YtnadacaoehpdnaaDoor.V

namespace Go.Proofs.YtnadacaoehpdnaaDoor.V
set_option linter.unusedVariables false
set_option linter.unusedSimpArgs false
open Go
structure Tok where
  kind : Int
  at' : Int
  text : ByteArray
def tTok : Ty Tok := ⟨3, fun t j => match j with | 0 => .int .i64 t.kind | 1 => .int .i64 t.at' | _ => .str t.text, ⟨0, 0, .empty⟩⟩
def cel0 : Cel := ⟨0, 0, 0, false, 0⟩
def knd (L : List Cel) (i : Nat) : Int := if i < L.length then kCel (L.getD i cel0) else -1
abbrev wy (L : List Cel) (i : Nat) : Prop := wordy (knd L i) = true
theorem wy_lt {L : List Cel} {i : Nat} (h : wy L i) : i < L.length := by
  unfold wy knd at h
  split at h
  · assumption
  · exact absurd h (by decide)
def wordE (L : List Cel) (i : Nat) : Nat := if h : i < L.length then (if wy L i then wordE L (i + 1) else if knd L i = 4 ∧ wy L (i + 1) then wordE L (i + 2) else i) else i
termination_by L.length - i
def blankE (L : List Cel) (i : Nat) : Nat := if h : i < L.length then (if knd L i = 5 then blankE L (i + 1) else i) else i
termination_by L.length - i
theorem wordE_ge (L : List Cel) (i : Nat) : i ≤ wordE L i ∧ (i ≤ L.length → wordE L i ≤ L.length) := by
  by_cases h : i < L.length
  · rw [wordE, dif_pos h]
    split
    · have := wordE_ge L (i + 1); omega
    · split
      · rename_i h2
        have h3 := wy_lt h2.2
        have := wordE_ge L (i + 2); omega
      · omega
  · rw [wordE, dif_neg h]; omega
termination_by L.length - i
theorem wordE_gt {L : List Cel} {i : Nat} (h : wy L i) : i < wordE L i := by
  rw [wordE, dif_pos (wy_lt h), if_pos h]
  have := wordE_ge L (i + 1); omega
theorem blankE_ge (L : List Cel) (i : Nat) : i ≤ blankE L i ∧ (i ≤ L.length → blankE L i ≤ L.length) := by
  by_cases h : i < L.length
  · rw [blankE, dif_pos h]
    split
    · have := blankE_ge L (i + 1); omega
    · omega
  · rw [blankE, dif_neg h]; omega
termination_by L.length - i
theorem knd_lt {L : List Cel} {i : Nat} (h : 0 ≤ knd L i) : i < L.length := by
  unfold knd at h
  split at h
  · assumption
  · omega
theorem blankE_gt {L : List Cel} {i : Nat} (h : knd L i = 5) : i < blankE L i := by
  rw [blankE, dif_pos (knd_lt (by omega)), if_pos h]
  have := blankE_ge L (i + 1); omega
/-- The kind of the token at i, and the cell behind it. -/
def tokE (L : List Cel) (i : Nat) : Int × Nat :=
  if wy L i then (1, wordE L i)
  else if knd L i = 5 then (2, blankE L i)
  else if knd L i = 6 then (3, if (L.getD i cel0).r = 13 ∧ i + 1 < L.length ∧ (L.getD (i + 1) cel0).r = 10 then i + 2 else i + 1)
  else if knd L i = 7 ∨ knd L i = 4 then (4, i + 1)
  else (5, i + 1)
theorem tokE_gt (L : List Cel) (i : Nat) (h : i < L.length) : i < (tokE L i).2 ∧ (tokE L i).2 ≤ L.length := by
  unfold tokE
  split
  · rename_i h1; exact ⟨wordE_gt h1, (wordE_ge L i).2 (by omega)⟩
  · split
    · rename_i h1; exact ⟨blankE_gt h1, (blankE_ge L i).2 (by omega)⟩
    · split
      · simp only []; split <;> omega
      · split <;> (simp only []; omega)
def posAt (s : ByteArray) (L : List Cel) (i : Nat) : Nat := if i < L.length then (L.getD i cel0).pos else s.size
def toks (s : ByteArray) (base : Int) (L : List Cel) (i : Nat) : List Tok :=
  if h : i < L.length then ⟨(tokE L i).1, base + posAt s L i, s.extract (posAt s L i) (posAt s L (tokE L i).2)⟩ :: toks s base L (tokE L i).2 else []
termination_by L.length - i
decreasing_by have := tokE_gt L i h; omega
theorem toks_in {s : ByteArray} {base : Int} {L : List Cel} {i : Nat} (h : i < L.length) : toks s base L i = ⟨(tokE L i).1, base + posAt s L i, s.extract (posAt s L i) (posAt s L (tokE L i).2)⟩ :: toks s base L (tokE L i).2 := by
  rw [toks, dif_pos h]
theorem toks_out {s : ByteArray} {base : Int} {L : List Cel} {i : Nat} (h : ¬ i < L.length) : toks s base L i = [] := by
  rw [toks, dif_neg h]
/-- The kinds, one by one, and the end's. -/
def kinds (L : List Cel) (i : Nat) : List Int := (L.take i).map kCel ++ List.replicate (L.length + 1 - i) 0
def kindsE (L : List Cel) : List Int := L.map kCel ++ [-1]
theorem kinds_len (L : List Cel) (i : Nat) (h : i ≤ L.length) : (kinds L i).length = L.length + 1 := by simp [kinds]; omega
theorem kindsE_len (L : List Cel) : (kindsE L).length = L.length + 1 := by simp [kindsE]
theorem kinds_set (L : List Cel) (i : Nat) (h : i < L.length) : (kinds L i).set i (kCel (L.getD i cel0)) = kinds L (i + 1) := by
  unfold kinds
  refine List.ext_getElem (by simp; omega) fun j h1 h2 => ?_
  rw [List.getElem_set]
  by_cases e : i = j
  · subst e
    rw [if_pos rfl, List.getElem_append_left (by simp; omega)]
    simp [List.getD, h]
  · rw [if_neg e]
    rcases Nat.lt_or_ge j i with h3 | h3
    · rw [List.getElem_append_left (by simp; omega), List.getElem_append_left (by simp; omega)]; simp
    · rw [List.getElem_append_right (by simp; omega), List.getElem_append_right (by simp; omega)]; simp
theorem kinds_end (L : List Cel) : (kinds L L.length).set L.length (-1) = kindsE L := by
  unfold kinds kindsE
  have : L.length + 1 - L.length = 1 := by omega
  rw [this, List.take_length]
  simp [List.set_append]
theorem kindsE_at (L : List Cel) (i : Nat) (h : i ≤ L.length) : (kindsE L).getD i 0 = knd L i := by
  unfold kindsE knd
  by_cases h1 : i < L.length
  · rw [if_pos h1]; simp [List.getD, List.getElem?_append_left (by simpa using h1 : i < (L.map kCel).length), h1]
  · rw [if_neg h1]
    have : i = L.length := by omega
    subst this
    simp [List.getD]
/-- Places grow. -/
theorem cells_pos (s : ByteArray) (p : Nat) : (∀ c ∈ cells s p, p ≤ c.pos ∧ c.pos < s.size) ∧ (cells s p).Pairwise (fun a b => a.pos < b.pos) := by
  by_cases h : p < s.size
  · have hw := Lib.width_pos s p
    obtain ⟨h1, h2⟩ := cells_pos s (p + (Utf8.decode s p).2)
    have hp : (cellAt s p).pos = p := by unfold cellAt; split <;> rfl
    rw [cells_in h]
    refine ⟨fun c hc => ?_, List.pairwise_cons.mpr ⟨fun c hc => ?_, h2⟩⟩
    · rcases List.mem_cons.mp hc with e | hc
      · rw [e, hp]; omega
      · have := h1 c hc; omega
    · rw [hp]; have := h1 c hc; omega
  · rw [cells_out h]; simp
termination_by s.size - p
theorem posAt_le (s : ByteArray) (i : Nat) : posAt s (cells s 0) i ≤ s.size := by
  unfold posAt
  split
  · rename_i h
    have : (cells s 0).getD i cel0 ∈ cells s 0 := by rw [List.getD, List.getElem?_eq_getElem h]; exact List.getElem_mem h
    exact Nat.le_of_lt ((cells_pos s 0).1 _ this).2
  · exact Nat.le_refl _
theorem posAt_mono (s : ByteArray) (i j : Nat) (h : i ≤ j) : posAt s (cells s 0) i ≤ posAt s (cells s 0) j := by
  by_cases hj : j < (cells s 0).length
  · rcases Nat.eq_or_lt_of_le h with e | e
    · subst e; exact Nat.le_refl _
    · unfold posAt
      rw [if_pos (by omega), if_pos hj]
      have := List.pairwise_iff_getElem.mp (cells_pos s 0).2 i j (by omega) hj e
      rw [List.getD, List.getElem?_eq_getElem (by omega : i < (cells s 0).length), List.getD, List.getElem?_eq_getElem hj]
      exact Nat.le_of_lt this
  · have : posAt s (cells s 0) j = s.size := by unfold posAt; rw [if_neg hj]
    rw [this]; exact posAt_le s i
end Go.Proofs.YtnadacaoehpdnaaDoor.V

namespace Go.Proofs.YtnadacaoehpdnaaDoor.V
set_option linter.unusedVariables false
set_option linter.unusedSimpArgs false
open Go Go.Proofs Go.RowKit
set_option maxRecDepth 100000
set_option maxHeartbeats 2000000
open Go Go.Proofs Go.Proofs.YtnadacaoehpdnaaDoor.V
theorem kcell_fn (c : Cel) : Fn Tryd.prog 108 [.agg 5 (tCel.enc c)] (.int .i64 (kCel c)) := by
  refine Fn.of Tryd.f108 _ Tryd.func108 rfl (by decide) (by show 1 ≤ _; decide) tbOk 8 rfl fun S w0 gl => ?_
  refine Run.go ?_; (conv => whnf); repeat' (first | ((with_reducible refine Know.mk fun _ => ?_); conv => whnf) | ((with_reducible refine Need.mk ?_ ?_); exact nd; conv => whnf) | ((with_reducible first | refine Both.mk ?_ ?_ | refine Any.mk fun b hb => ?_ | refine AskB.dec (fun hb => ?_) (fun hb => ?_) | refine AskB.ndec (fun hb => ?_) (fun hb => ?_) | refine AskB.mk (fun hb => ?_) (fun hb => ?_)) <;> conv => whnf) | ((with_reducible first | refine Run.drawX rfl (by decide +kernel) ?_ | refine Run.drawT rfl (by decide +kernel) ?_ | refine Run.drawW rfl (by decide +kernel) ?_); conv => whnf))
  · exact Run.leave (ts := [2]) (.inr ⟨_, rfl⟩) rfl Tryd.func108 rfl (Le.int (by unfold kCel; rw [if_pos hb]))
  · refine Run.callBX (of_fn c.r) rfl rfl ⟨Le.refl _, trivial⟩ rfl rfl rfl ?_
    (conv => whnf); repeat' (first | ((with_reducible refine Know.mk fun _ => ?_); conv => whnf) | ((with_reducible refine Need.mk ?_ ?_); exact nd; conv => whnf) | ((with_reducible first | refine Both.mk ?_ ?_ | refine Any.mk fun b hb => ?_ | refine AskB.dec (fun hb => ?_) (fun hb => ?_) | refine AskB.ndec (fun hb => ?_) (fun hb => ?_) | refine AskB.mk (fun hb => ?_) (fun hb => ?_)) <;> conv => whnf) | ((with_reducible first | refine Run.drawX rfl (by decide +kernel) ?_ | refine Run.drawT rfl (by decide +kernel) ?_ | refine Run.drawW rfl (by decide +kernel) ?_); conv => whnf))
    exact Run.leave (ts := [2]) (.inr ⟨_, rfl⟩) rfl Tryd.func108 rfl (Le.int (by unfold kCel; rw [if_neg (by simp [hb])]))
theorem wordy_fn (k : Int) : Fn Tryd.prog 109 [.int .i64 k] (.bool (wordy k)) := by
  refine Fn.of Tryd.f109 _ Tryd.func109 rfl (by decide) (by show 1 ≤ _; decide) tbOk 13 rfl fun S w0 gl => ?_
  refine Run.go ?_; (conv => whnf); repeat' (first | ((with_reducible refine Know.mk fun _ => ?_); conv => whnf) | ((with_reducible refine Need.mk ?_ ?_); exact nd; conv => whnf) | ((with_reducible first | refine Both.mk ?_ ?_ | refine Any.mk fun b hb => ?_ | refine AskB.dec (fun hb => ?_) (fun hb => ?_) | refine AskB.ndec (fun hb => ?_) (fun hb => ?_) | refine AskB.mk (fun hb => ?_) (fun hb => ?_)) <;> conv => whnf) | ((with_reducible first | refine Run.drawX rfl (by decide +kernel) ?_ | refine Run.drawT rfl (by decide +kernel) ?_ | refine Run.drawW rfl (by decide +kernel) ?_); conv => whnf))
  · exact Run.leave (ts := [2]) (.inr ⟨_, rfl⟩) rfl Tryd.func109 rfl (Le.tt.trans (Le.bool (by simp [wordy, hb])))
  · exact Run.leave (ts := [2]) (.inr ⟨_, rfl⟩) rfl Tryd.func109 rfl (Le.tt.trans (Le.bool (by simp [wordy, hb])))
  · rename_i h1
    exact Run.leave (ts := [2]) (.inr ⟨_, rfl⟩) rfl Tryd.func109 rfl (Le.bool (by simp [wordy, h1, hb]))
theorem nwy {L : List Cel} {i : Nat} (h : wordy (knd L i) = false) : ¬ wy L i := fun h2 => absurd (h.symm.trans h2) (by decide)
theorem tokens_fn (s : ByteArray) (base : Int) (hs : s.size ≤ 1048576) (hb0 : 0 ≤ base) (hb1 : base ≤ 1048576) : Fn Tryd.prog 95 [.str s, .int .i64 base] (tTok.L (toks s base (cells s 0) 0)) := by
  refine Fn.of Tryd.f95 _ Tryd.func95 rfl (by decide) (by show 2 ≤ _; decide) tbOk 156 rfl fun S w0 gl => ?_
  refine Run.go ?_; (conv => whnf); repeat' (first | ((with_reducible refine Know.mk fun _ => ?_); conv => whnf) | ((with_reducible refine Need.mk ?_ ?_); exact nd; conv => whnf) | ((with_reducible first | refine Both.mk ?_ ?_ | refine Any.mk fun b hb => ?_ | refine AskB.dec (fun hb => ?_) (fun hb => ?_) | refine AskB.ndec (fun hb => ?_) (fun hb => ?_) | refine AskB.mk (fun hb => ?_) (fun hb => ?_)) <;> conv => whnf) | ((with_reducible first | refine Run.drawX rfl (by decide +kernel) ?_ | refine Run.drawT rfl (by decide +kernel) ?_ | refine Run.drawW rfl (by decide +kernel) ?_); conv => whnf))
  refine Run.callBX (cells_fn s (by omega)) rfl rfl ⟨Le.refl _, trivial⟩ rfl rfl rfl ?_
  have hlen := cells_len s 0
  generalize hL : cells s 0 = L at *
  have hw : IntKind.i64.wrap (L.length + 1) = L.length + 1 := wrap64 (by omega) (by omega)
  (conv => whnf); repeat' (first | ((with_reducible refine Know.mk fun _ => ?_); conv => whnf) | ((with_reducible refine Need.mk ?_ ?_); exact nd; conv => whnf) | ((with_reducible first | refine Both.mk ?_ ?_ | refine Any.mk fun b hb => ?_ | refine AskB.dec (fun hb => ?_) (fun hb => ?_) | refine AskB.ndec (fun hb => ?_) (fun hb => ?_) | refine AskB.mk (fun hb => ?_) (fun hb => ?_)) <;> conv => whnf) | ((with_reducible first | refine Run.drawX rfl (by decide +kernel) ?_ | refine Run.drawT rfl (by decide +kernel) ?_ | refine Run.drawW rfl (by decide +kernel) ?_); conv => whnf))
  rw [hw]
  repeat' (first | ((with_reducible refine Know.mk fun _ => ?_); conv => whnf) | ((with_reducible refine Need.mk ?_ ?_); exact nd; conv => whnf) | ((with_reducible first | refine Both.mk ?_ ?_ | refine Any.mk fun b hb => ?_ | refine AskB.dec (fun hb => ?_) (fun hb => ?_) | refine AskB.ndec (fun hb => ?_) (fun hb => ?_) | refine AskB.mk (fun hb => ?_) (fun hb => ?_)) <;> conv => whnf) | ((with_reducible first | refine Run.drawX rfl (by decide +kernel) ?_ | refine Run.drawT rfl (by decide +kernel) ?_ | refine Run.drawW rfl (by decide +kernel) ?_); conv => whnf))
  refine Run.loop [0, 1, 5, 6, 21, 22] (fun i : Nat => [(23, .int .i64 (i : Int))]) (fun i => [(20, tI.R 3 (kinds L i))]) (fun i => i ≤ L.length) (fun i => L.length - i) 0 (Nat.zero_le _) ⟨Le.refl _, trivial⟩ ⟨?_, trivial⟩ ?_
  · refine ⟨rfl, rfl, by rw [kinds_len L 0 (Nat.zero_le _)]; omega, fun i j hi hj => ?_⟩
    have : j = 0 := by omega
    subst this
    refine Le.int ?_
    have hi' : i < L.length + 1 := by omega
    simp [kinds, List.getD, hi']
  intro i hi IH
  have hkl := kinds_len L i hi
  refine Run.go ?_; (conv => whnf); repeat' (first | ((with_reducible refine Know.mk fun _ => ?_); conv => whnf) | ((with_reducible refine Need.mk ?_ ?_); exact nd; conv => whnf) | ((with_reducible first | refine Both.mk ?_ ?_ | refine Any.mk fun b hb => ?_ | refine AskB.dec (fun hb => ?_) (fun hb => ?_) | refine AskB.ndec (fun hb => ?_) (fun hb => ?_) | refine AskB.mk (fun hb => ?_) (fun hb => ?_)) <;> conv => whnf) | ((with_reducible first | refine Run.drawX rfl (by decide +kernel) ?_ | refine Run.drawT rfl (by decide +kernel) ?_ | refine Run.drawW rfl (by decide +kernel) ?_); conv => whnf))
  · refine Run.callBX (kcell_fn (L.getD i cel0)) rfl rfl ⟨?_, trivial⟩ rfl rfl rfl ?_
    · refine Le.agg fun j hj => ?_
      match j, hj with
      | 0, _ => exact Le.refl _
      | 1, _ => exact Le.refl _
      | 2, _ => exact Le.refl _
      | 3, _ => exact Le.refl _
      | 4, _ => exact Le.refl _
    (conv => whnf); repeat' (first | ((with_reducible refine Know.mk fun _ => ?_); conv => whnf) | ((with_reducible refine Need.mk ?_ ?_); exact nd; conv => whnf) | ((with_reducible first | refine Both.mk ?_ ?_ | refine Any.mk fun b hb => ?_ | refine AskB.dec (fun hb => ?_) (fun hb => ?_) | refine AskB.ndec (fun hb => ?_) (fun hb => ?_) | refine AskB.mk (fun hb => ?_) (fun hb => ?_)) <;> conv => whnf) | ((with_reducible first | refine Run.drawX rfl (by decide +kernel) ?_ | refine Run.drawT rfl (by decide +kernel) ?_ | refine Run.drawW rfl (by decide +kernel) ?_); conv => whnf))
    refine Run.to _ _ ?_ ?_ (IH (i + 1) (by omega) (by omega))
    · exact ⟨Le.refl _, Le.refl _, Le.refl _, Le.refl _, Le.refl _, Le.refl _, Le.wrap64 (by omega) (by omega) (by omega), trivial⟩
    · refine ⟨?_, trivial⟩
      rw [← kinds_set L i (by omega)]
      exact tI.set 3 _ _ _ (by omega) _ rfl (Le.one (Le.refl _))
  have hil : i = L.length := by omega
  subst hil
  refine Run.holdNil 9 1000 128 3 (fun _ _ => .u) (by rfl) ?_
  refine Run.loop [0, 1, 5, 6] (fun (a : Nat × List Tok) => [(9, .row 1000), (10, .int .i64 (a.1 : Int))]) (fun a => [(20, tI.R 3 (kindsE L)), (1000, tTok.R 128 a.2)])
    (fun a => a.1 ≤ L.length ∧ a.2.length ≤ a.1 ∧ a.2 ++ toks s base L a.1 = toks s base L 0) (fun a => L.length - a.1) (0, []) ⟨Nat.zero_le _, Nat.zero_le _, rfl⟩ ⟨Le.refl _, Le.refl _, trivial⟩ ⟨?_, ⟨rfl, rfl, rfl, fun i j hi => absurd hi (Nat.not_lt_zero _)⟩, trivial⟩ ?_
  · rw [← kinds_end L]
    exact tI.set 3 _ _ _ (by omega) _ rfl (Le.one (Le.refl _))
  intro ⟨i, l⟩ ⟨hi, hl, hc⟩ IH
  simp only at hi hl hc
  show Run _ _ (lst (_ ++ [(9, .row 1000), (10, .int .i64 (i : Int))])) (lstH [(20, tI.R 3 (kindsE L)), (1000, tTok.R 128 l)])
  have hke := kindsE_len L
  by_cases hil : i < L.length
  · have hat : ∀ j, j ≤ L.length → (kindsE L).getD (↑j : Int).toNat tI.z = knd L j := fun j hj => kindsE_at L j hj
    have hw2 : ∀ j : Nat, j ≤ L.length → IntKind.i64.wrap ((j : Int) + 1) = (j : Int) + 1 := fun j hj => wrap64 (by omega) (by omega)
    have hw3 := hw2 i hi
    apply Run.cutAt (A := fun CC kk => ∀ (n : Nat) (k : Int), tokE L i = (k, n) → Run CC kk (lst [(0, .str s), (1, .int .i64 base), (5, tCel.L L), (6, .row 20), (9, .row 1000), (10, .int .i64 (n : Int)), (11, .int .i64 (i : Int)), (12, .int .i64 k)]) (lstH [(20, tI.R 3 (kindsE L)), (1000, tTok.R 128 l)]))
    case main =>
      intro put
      refine Run.go ?_; (conv => whnf); repeat' (first | ((with_reducible refine Know.mk fun _ => ?_); conv => whnf) | ((with_reducible refine Need.mk ?_ ?_); exact nd; conv => whnf) | ((with_reducible first | refine Both.mk ?_ ?_ | refine Any.mk fun b hb => ?_ | refine AskB.dec (fun hb => ?_) (fun hb => ?_) | refine AskB.ndec (fun hb => ?_) (fun hb => ?_) | refine AskB.mk (fun hb => ?_) (fun hb => ?_)) <;> conv => whnf) | ((with_reducible first | refine Run.drawX rfl (by decide +kernel) ?_ | refine Run.drawT rfl (by decide +kernel) ?_ | refine Run.drawW rfl (by decide +kernel) ?_); conv => whnf))
      · omega
      refine Run.callBX (wordy_fn (knd L i)) rfl rfl ⟨Le.int (hat i hi), trivial⟩ rfl rfl rfl ?_
      (conv => whnf); repeat' (first | ((with_reducible refine Know.mk fun _ => ?_); conv => whnf) | ((with_reducible refine Need.mk ?_ ?_); exact nd; conv => whnf) | ((with_reducible first | refine Both.mk ?_ ?_ | refine Any.mk fun b hb => ?_ | refine AskB.dec (fun hb => ?_) (fun hb => ?_) | refine AskB.ndec (fun hb => ?_) (fun hb => ?_) | refine AskB.mk (fun hb => ?_) (fun hb => ?_)) <;> conv => whnf) | ((with_reducible first | refine Run.drawX rfl (by decide +kernel) ?_ | refine Run.drawT rfl (by decide +kernel) ?_ | refine Run.drawW rfl (by decide +kernel) ?_); conv => whnf))
      · have hwy : wy L i := hb
        refine Run.loop [0, 1, 5, 6, 9, 11, 12] (fun (j : Nat) => [(10, .int .i64 (j : Int))]) (fun j => [(20, tI.R 3 (kindsE L)), (1000, tTok.R 128 l)])
          (fun j => i ≤ j ∧ j ≤ L.length ∧ wordE L j = wordE L i) (fun j => L.length - j) i ⟨Nat.le_refl _, hi, rfl⟩ ⟨Le.refl _, trivial⟩ ⟨MOle.refl _, MOle.refl _, trivial⟩ ?_
        intro j ⟨hj1, hj2, hj3⟩ IHj
        refine Run.go ?_; (conv => whnf); repeat' (first | ((with_reducible refine Know.mk fun _ => ?_); conv => whnf) | ((with_reducible refine Need.mk ?_ ?_); exact nd; conv => whnf) | ((with_reducible first | refine Both.mk ?_ ?_ | refine Any.mk fun b hb => ?_ | refine AskB.dec (fun hb => ?_) (fun hb => ?_) | refine AskB.ndec (fun hb => ?_) (fun hb => ?_) | refine AskB.mk (fun hb => ?_) (fun hb => ?_)) <;> conv => whnf) | ((with_reducible first | refine Run.drawX rfl (by decide +kernel) ?_ | refine Run.drawT rfl (by decide +kernel) ?_ | refine Run.drawW rfl (by decide +kernel) ?_); conv => whnf))
        -- for wordy
        refine Run.loop [0, 1, 5, 6, 9, 11, 12] (fun (j : Nat) => [(10, .int .i64 (j : Int))]) (fun j => [(20, tI.R 3 (kindsE L)), (1000, tTok.R 128 l)])
          (fun j' => j ≤ j' ∧ j' ≤ L.length ∧ wordE L j' = wordE L i) (fun j => L.length - j) j ⟨Nat.le_refl _, hj2, hj3⟩ ⟨Le.refl _, trivial⟩ ⟨MOle.refl _, MOle.refl _, trivial⟩ ?_
        intro j' ⟨hk1, hk2, hk3⟩ IHk
        have hw4 := hw2 j' hk2
        have hj4 : (kindsE L).getD (↑j' : Int).toNat tI.z = 4 → j' < L.length := fun h => knd_lt (by rw [← hat j' hk2, h]; decide)
        have hat1 : j' < L.length → (kindsE L).getD (IntKind.i64.wrap (↑j' + 1)).toNat tI.z = knd L (j' + 1) := fun h => by rw [hw4]; exact hat (j' + 1) (by omega)
        refine Run.go ?_; (conv => whnf); repeat' (first | ((with_reducible refine Know.mk fun _ => ?_); conv => whnf) | ((with_reducible refine Need.mk ?_ ?_); exact nd; conv => whnf) | ((with_reducible first | refine Both.mk ?_ ?_ | refine Any.mk fun b hb => ?_ | refine AskB.dec (fun hb => ?_) (fun hb => ?_) | refine AskB.ndec (fun hb => ?_) (fun hb => ?_) | refine AskB.mk (fun hb => ?_) (fun hb => ?_)) <;> conv => whnf) | ((with_reducible first | refine Run.drawX rfl (by decide +kernel) ?_ | refine Run.drawT rfl (by decide +kernel) ?_ | refine Run.drawW rfl (by decide +kernel) ?_); conv => whnf))
        refine Run.callBX (wordy_fn (knd L j')) rfl rfl ⟨Le.int (hat j' hk2), trivial⟩ rfl rfl rfl ?_
        (conv => whnf); repeat' (first | ((with_reducible refine Know.mk fun _ => ?_); conv => whnf) | ((with_reducible refine Need.mk ?_ ?_); exact nd; conv => whnf) | ((with_reducible first | refine Both.mk ?_ ?_ | refine Any.mk fun b hb => ?_ | refine AskB.dec (fun hb => ?_) (fun hb => ?_) | refine AskB.ndec (fun hb => ?_) (fun hb => ?_) | refine AskB.mk (fun hb => ?_) (fun hb => ?_)) <;> conv => whnf) | ((with_reducible first | refine Run.drawX rfl (by decide +kernel) ?_ | refine Run.drawT rfl (by decide +kernel) ?_ | refine Run.drawW rfl (by decide +kernel) ?_); conv => whnf))
        · have hwj : wy L j' := hb
          have hlt := wy_lt hwj
          refine Run.to _ _ ?_ ?_ (IHk (j' + 1) (by omega) ⟨by omega, by omega, ?_⟩)
          · exact ⟨Le.refl _, Le.refl _, Le.refl _, Le.refl _, Le.refl _, Le.refl _, Le.refl _, Le.int hw4, trivial⟩
          · exact ⟨MOle.refl _, MOle.refl _, trivial⟩
          · rw [← hk3]; rw [wordE.eq_def L j', dif_pos hlt, if_pos hwj]
        · -- a joiner
          have hlt := hj4 (by assumption)
          have hk4 : knd L j' = 4 := by rw [← hat j' hk2]; assumption
          have hnw : ¬ wy L j' := by
            have : wordy (knd L j') = false := by assumption
            exact fun h => absurd (this.symm.trans h) (by decide)
          refine Run.callBX (wordy_fn (knd L (j' + 1))) rfl rfl ⟨Le.int (hat1 hlt), trivial⟩ rfl rfl rfl ?_
          (conv => whnf); repeat' (first | ((with_reducible refine Know.mk fun _ => ?_); conv => whnf) | ((with_reducible refine Need.mk ?_ ?_); exact nd; conv => whnf) | ((with_reducible first | refine Both.mk ?_ ?_ | refine Any.mk fun b hb => ?_ | refine AskB.dec (fun hb => ?_) (fun hb => ?_) | refine AskB.ndec (fun hb => ?_) (fun hb => ?_) | refine AskB.mk (fun hb => ?_) (fun hb => ?_)) <;> conv => whnf) | ((with_reducible first | refine Run.drawX rfl (by decide +kernel) ?_ | refine Run.drawT rfl (by decide +kernel) ?_ | refine Run.drawW rfl (by decide +kernel) ?_); conv => whnf))
          · have hw5 : wy L (j' + 1) := hb
            refine Run.to _ _ ?_ ?_ (IHj (j' + 1) (by omega) ⟨by omega, by omega, ?_⟩)
            · exact ⟨Le.refl _, Le.refl _, Le.refl _, Le.refl _, Le.refl _, Le.refl _, Le.refl _, Le.int hw4, trivial⟩
            · exact ⟨MOle.refl _, MOle.refl _, trivial⟩
            · rw [← hk3, wordE.eq_def L j', dif_pos hlt, if_neg hnw, if_pos ⟨hk4, hw5⟩, wordE.eq_def L (j' + 1), dif_pos (wy_lt hw5), if_pos hw5]
          · refine Run.skipSeq (Run.to _ _ ?_ ?_ (put (j') 1 ?_))
            · exact ⟨Le.refl _, Le.refl _, Le.refl _, Le.refl _, Le.refl _, Le.refl _, Le.refl _, Le.refl _, trivial⟩
            · exact ⟨MOle.refl _, MOle.refl _, trivial⟩
            · have hw5 : ¬ wy L (j' + 1) := fun h => absurd (hb.symm.trans h) (by decide)
              unfold tokE
              rw [if_pos hwy, ← hk3, wordE.eq_def L j', dif_pos hlt, if_neg hnw, if_neg (fun h => hw5 h.2)]
        · refine Run.skipSeq (Run.to _ _ ?_ ?_ (put (j') 1 ?_))
          · exact ⟨Le.refl _, Le.refl _, Le.refl _, Le.refl _, Le.refl _, Le.refl _, Le.refl _, Le.refl _, trivial⟩
          · exact ⟨MOle.refl _, MOle.refl _, trivial⟩
          · have hnw : ¬ wy L j' := by
              have : wordy (knd L j') = false := by assumption
              exact fun h => absurd (this.symm.trans h) (by decide)
            have hk4 : ¬ knd L j' = 4 := by rw [← hat j' hk2]; assumption
            unfold tokE
            rw [if_pos hwy, ← hk3, wordE.eq_def L j']
            by_cases hlt : j' < L.length
            · rw [dif_pos hlt, if_neg hnw, if_neg (fun h => hk4 h.1)]
            · rw [dif_neg hlt]
      -- blank
      · have hkb : knd L i = 5 := by rw [← hat i hi]; exact hb
        have hnw : ¬ wy L i := nwy (by assumption)
        refine Run.go ?_; (conv => whnf); repeat' (first | ((with_reducible refine Know.mk fun _ => ?_); conv => whnf) | ((with_reducible refine Need.mk ?_ ?_); exact nd; conv => whnf) | ((with_reducible first | refine Both.mk ?_ ?_ | refine Any.mk fun b hb => ?_ | refine AskB.dec (fun hb => ?_) (fun hb => ?_) | refine AskB.ndec (fun hb => ?_) (fun hb => ?_) | refine AskB.mk (fun hb => ?_) (fun hb => ?_)) <;> conv => whnf) | ((with_reducible first | refine Run.drawX rfl (by decide +kernel) ?_ | refine Run.drawT rfl (by decide +kernel) ?_ | refine Run.drawW rfl (by decide +kernel) ?_); conv => whnf))
        refine Run.loop [0, 1, 5, 6, 9, 11, 12] (fun (j : Nat) => [(10, .int .i64 (j : Int))]) (fun j => [(20, tI.R 3 (kindsE L)), (1000, tTok.R 128 l)])
          (fun j => i ≤ j ∧ j ≤ L.length ∧ blankE L j = blankE L i) (fun j => L.length - j) i ⟨Nat.le_refl _, hi, rfl⟩ ⟨Le.refl _, trivial⟩ ⟨MOle.refl _, MOle.refl _, trivial⟩ ?_
        intro j ⟨hj1, hj2, hj3⟩ IHj
        have hw4 := hw2 j hj2
        have hj5 : (kindsE L).getD (↑j : Int).toNat tI.z = 5 → j < L.length := fun h => knd_lt (by rw [← hat j hj2, h]; decide)
        refine Run.go ?_; (conv => whnf); repeat' (first | ((with_reducible refine Know.mk fun _ => ?_); conv => whnf) | ((with_reducible refine Need.mk ?_ ?_); exact nd; conv => whnf) | ((with_reducible first | refine Both.mk ?_ ?_ | refine Any.mk fun b hb => ?_ | refine AskB.dec (fun hb => ?_) (fun hb => ?_) | refine AskB.ndec (fun hb => ?_) (fun hb => ?_) | refine AskB.mk (fun hb => ?_) (fun hb => ?_)) <;> conv => whnf) | ((with_reducible first | refine Run.drawX rfl (by decide +kernel) ?_ | refine Run.drawT rfl (by decide +kernel) ?_ | refine Run.drawW rfl (by decide +kernel) ?_); conv => whnf))
        · have hlt := hj5 hb
          refine Run.to _ _ ?_ ?_ (IHj (j + 1) (by omega) ⟨by omega, by omega, ?_⟩)
          · exact ⟨Le.refl _, Le.refl _, Le.refl _, Le.refl _, Le.refl _, Le.refl _, Le.refl _, Le.int hw4, trivial⟩
          · exact ⟨MOle.refl _, MOle.refl _, trivial⟩
          · rw [← hj3, blankE.eq_def L j, dif_pos hlt, if_pos (by rw [← hat j hj2]; exact hb)]
        · refine Run.to _ _ ?_ ?_ (put j 2 ?_)
          · exact ⟨Le.refl _, Le.refl _, Le.refl _, Le.refl _, Le.refl _, Le.refl _, Le.refl _, Le.refl _, trivial⟩
          · exact ⟨MOle.refl _, MOle.refl _, trivial⟩
          · have hk5 : ¬ knd L j = 5 := by rw [← hat j hj2]; exact hb
            unfold tokE
            rw [if_neg hnw, if_pos hkb, ← hj3, blankE.eq_def L j]
            by_cases hlt : j < L.length
            · rw [dif_pos hlt, if_neg hk5]
            · rw [dif_neg hlt]
      all_goals have hnw : ¬ wy L i := nwy (by assumption)
      all_goals have hk5 : ¬ knd L i = 5 := by rw [← hat i hi]; assumption
      all_goals (try rw [hw3] at *)
      · have hk6 : knd L i = 6 := by rw [← hat i hi]; assumption
        have hlt : i + 1 < L.length := by omega
        refine Run.skipSeq (Run.to _ _ ?_ ?_ (put (i + 2) 3 ?_))
        · exact ⟨Le.refl _, Le.refl _, Le.refl _, Le.refl _, Le.refl _, Le.int (hw2 (i + 1) (by omega)), Le.refl _, Le.refl _, trivial⟩
        · exact ⟨MOle.refl _, MOle.refl _, trivial⟩
        · unfold tokE
          rw [if_neg hnw, if_neg hk5, if_pos hk6, if_pos ⟨by assumption, hlt, hb⟩]
      · refine Run.skipSeq (Run.to _ _ ?_ ?_ (put (i + 1) 3 ?_))
        · exact ⟨Le.refl _, Le.refl _, Le.refl _, Le.refl _, Le.refl _, Le.refl _, Le.refl _, Le.refl _, trivial⟩
        · exact ⟨MOle.refl _, MOle.refl _, trivial⟩
        · unfold tokE
          have hk6 : knd L i = 6 := by rw [← hat i hi]; assumption
          rw [if_neg hnw, if_neg hk5, if_pos hk6, if_neg (fun h => absurd h.2.2 hb)]
      · refine Run.skipSeq (Run.to _ _ ?_ ?_ (put (i + 1) 3 ?_))
        · exact ⟨Le.refl _, Le.refl _, Le.refl _, Le.refl _, Le.refl _, Le.refl _, Le.refl _, Le.refl _, trivial⟩
        · exact ⟨MOle.refl _, MOle.refl _, trivial⟩
        · unfold tokE
          have hk6 : knd L i = 6 := by rw [← hat i hi]; assumption
          rw [if_neg hnw, if_neg hk5, if_pos hk6, if_neg (fun h => absurd h.2.1 (by omega))]
      · refine Run.skipSeq (Run.to _ _ ?_ ?_ (put (i + 1) 3 ?_))
        · exact ⟨Le.refl _, Le.refl _, Le.refl _, Le.refl _, Le.refl _, Le.refl _, Le.refl _, Le.refl _, trivial⟩
        · exact ⟨MOle.refl _, MOle.refl _, trivial⟩
        · unfold tokE
          have hk6 : knd L i = 6 := by rw [← hat i hi]; assumption
          rw [if_neg hnw, if_neg hk5, if_pos hk6, if_neg (fun h => absurd h.1 hb)]
      · refine Run.skipSeq (Run.to _ _ ?_ ?_ (put (i + 1) 4 ?_))
        · exact ⟨Le.refl _, Le.refl _, Le.refl _, Le.refl _, Le.refl _, Le.refl _, Le.refl _, Le.refl _, trivial⟩
        · exact ⟨MOle.refl _, MOle.refl _, trivial⟩
        · unfold tokE
          have hk6 : ¬ knd L i = 6 := by rw [← hat i hi]; assumption
          have hk7 : knd L i = 7 := by rw [← hat i hi]; assumption
          rw [if_neg hnw, if_neg hk5, if_neg hk6, if_pos (.inl hk7)]
      · refine Run.skipSeq (Run.to _ _ ?_ ?_ (put (i + 1) 4 ?_))
        · exact ⟨Le.refl _, Le.refl _, Le.refl _, Le.refl _, Le.refl _, Le.refl _, Le.refl _, Le.refl _, trivial⟩
        · exact ⟨MOle.refl _, MOle.refl _, trivial⟩
        · unfold tokE
          have hk6 : ¬ knd L i = 6 := by rw [← hat i hi]; assumption
          have hk4 : knd L i = 4 := by rw [← hat i hi]; assumption
          rw [if_neg hnw, if_neg hk5, if_neg hk6, if_pos (.inr hk4)]
      · refine Run.skipSeq (Run.to _ _ ?_ ?_ (put (i + 1) 5 ?_))
        · exact ⟨Le.refl _, Le.refl _, Le.refl _, Le.refl _, Le.refl _, Le.refl _, Le.refl _, Le.refl _, trivial⟩
        · exact ⟨MOle.refl _, MOle.refl _, trivial⟩
        · unfold tokE
          have hk6 : ¬ knd L i = 6 := by rw [← hat i hi]; assumption
          have hk7 : ¬ knd L i = 7 := by rw [← hat i hi]; assumption
          have hk4 : ¬ knd L i = 4 := by rw [← hat i hi]; assumption
          rw [if_neg hnw, if_neg hk5, if_neg hk6, if_neg (fun h => h.elim hk7 hk4)]
    case g =>
      intro n k hk
      have hge := tokE_gt L i hil
      rw [hk] at hge
      simp only at hge
      have p1 := posAt_mono s i n (by omega)
      have p2 := posAt_le s n
      have p3 := toks_in (s := s) (base := base) hil
      rw [hk] at p3
      rw [hL] at p1 p2
      unfold posAt at p1 p2 p3
      rw [if_pos hil] at p1 p3
      simp only at p3
      have pz : IntKind.i64.wrap (base + ((L.getD (↑i : Int).toNat tCel.z).pos : Int)) = base + ((L.getD i cel0).pos : Int) := wrap64 (by show -9223372036854775808 ≤ base + ((L.getD i cel0).pos : Int); omega) (by show base + ((L.getD i cel0).pos : Int) ≤ _; omega)
      have back : ∀ (t : Tok) (q : Nat), t = ⟨k, base + ((L.getD i cel0).pos : Int), s.extract (L.getD i cel0).pos q⟩ → q = (if n < L.length then (L.getD n cel0).pos else s.size) → (l ++ [t]).length ≤ n ∧ (l ++ [t]) ++ toks s base L n = toks s base L 0 := fun t q h1 h2 => by
        refine ⟨by simp; omega, ?_⟩
        rw [← hc, p3, h1, h2]; simp
      by_cases hn : n < L.length
      · rw [if_pos hn] at p1 p2
        have q1 : (L.getD (↑i : Int).toNat tCel.z).pos ≤ (L.getD (↑n : Int).toNat tCel.z).pos := p1
        have q2 : (L.getD (↑n : Int).toNat tCel.z).pos ≤ s.size := p2
        refine Run.go ?_; (conv => whnf); repeat' (first | ((with_reducible refine Know.mk fun _ => ?_); conv => whnf) | ((with_reducible refine Need.mk ?_ ?_); exact nd; conv => whnf) | ((with_reducible first | refine Both.mk ?_ ?_ | refine Any.mk fun b hb => ?_ | refine AskB.dec (fun hb => ?_) (fun hb => ?_) | refine AskB.ndec (fun hb => ?_) (fun hb => ?_) | refine AskB.mk (fun hb => ?_) (fun hb => ?_)) <;> conv => whnf) | ((with_reducible first | refine Run.drawX rfl (by decide +kernel) ?_ | refine Run.drawT rfl (by decide +kernel) ?_ | refine Run.drawW rfl (by decide +kernel) ?_); conv => whnf))
        · refine Run.hold (z := 155) 9 1000 (by rfl) (by rfl) (by rfl) ?_
          obtain ⟨b1, b2⟩ := back _ (L.getD n cel0).pos rfl (by rw [if_pos hn])
          refine Run.skipSeq (Run.to _ _ ?_ ?_ (IH (n, l ++ [⟨k, base + ((L.getD i cel0).pos : Int), s.extract (L.getD i cel0).pos (L.getD n cel0).pos⟩]) (by simp only []; omega) ⟨hge.2, b1, b2⟩))
          · exact ⟨Le.refl _, Le.refl _, Le.refl _, Le.refl _, Le.refl _, Le.refl _, trivial⟩
          · refine ⟨MOle.refl _, tTok.push 128 l ⟨k, base + ((L.getD i cel0).pos : Int), s.extract (L.getD i cel0).pos (L.getD n cel0).pos⟩ _ (fun j hj => ?_), trivial⟩
            match j, hj with
            | 0, _ => exact Le.refl _
            | 1, _ => exact Le.int pz
            | 2, _ => exact Le.refl _
        · exact absurd hn (by omega)
      · rw [if_neg hn] at p1 p2
        have q1 : (L.getD (↑i : Int).toNat tCel.z).pos ≤ s.size := p1
        refine Run.go ?_; (conv => whnf); repeat' (first | ((with_reducible refine Know.mk fun _ => ?_); conv => whnf) | ((with_reducible refine Need.mk ?_ ?_); exact nd; conv => whnf) | ((with_reducible first | refine Both.mk ?_ ?_ | refine Any.mk fun b hb => ?_ | refine AskB.dec (fun hb => ?_) (fun hb => ?_) | refine AskB.ndec (fun hb => ?_) (fun hb => ?_) | refine AskB.mk (fun hb => ?_) (fun hb => ?_)) <;> conv => whnf) | ((with_reducible first | refine Run.drawX rfl (by decide +kernel) ?_ | refine Run.drawT rfl (by decide +kernel) ?_ | refine Run.drawW rfl (by decide +kernel) ?_); conv => whnf))
        · exact absurd hn (by omega)
        · refine Run.hold (z := 155) 9 1000 (by rfl) (by rfl) (by rfl) ?_
          obtain ⟨b1, b2⟩ := back _ s.size rfl (by rw [if_neg hn])
          refine Run.skipSeq (Run.to _ _ ?_ ?_ (IH (n, l ++ [⟨k, base + ((L.getD i cel0).pos : Int), s.extract (L.getD i cel0).pos s.size⟩]) (by simp only []; omega) ⟨hge.2, b1, b2⟩))
          · exact ⟨Le.refl _, Le.refl _, Le.refl _, Le.refl _, Le.refl _, Le.refl _, trivial⟩
          · refine ⟨MOle.refl _, tTok.push 128 l ⟨k, base + ((L.getD i cel0).pos : Int), s.extract (L.getD i cel0).pos s.size⟩ _ (fun j hj => ?_), trivial⟩
            match j, hj with
            | 0, _ => exact Le.refl _
            | 1, _ => exact Le.int pz
            | 2, _ => exact Le.refl _
  · have hie : i = L.length := by omega
    subst hie
    refine Run.go ?_; (conv => whnf); repeat' (first | ((with_reducible refine Know.mk fun _ => ?_); conv => whnf) | ((with_reducible refine Need.mk ?_ ?_); exact nd; conv => whnf) | ((with_reducible first | refine Both.mk ?_ ?_ | refine Any.mk fun b hb => ?_ | refine AskB.dec (fun hb => ?_) (fun hb => ?_) | refine AskB.ndec (fun hb => ?_) (fun hb => ?_) | refine AskB.mk (fun hb => ?_) (fun hb => ?_)) <;> conv => whnf) | ((with_reducible first | refine Run.drawX rfl (by decide +kernel) ?_ | refine Run.drawT rfl (by decide +kernel) ?_ | refine Run.drawW rfl (by decide +kernel) ?_); conv => whnf))
    · rw [toks_out (Nat.lt_irrefl _), List.append_nil] at hc
      rw [← hc]
      exact Run.leave (ts := [4]) (.inr ⟨_, rfl⟩) rfl Tryd.func95 rfl (Le.refl _)
    · exact absurd rfl hb
end Go.Proofs.YtnadacaoehpdnaaDoor.V

namespace Go.Proofs.YtnadacaoehpdnaaDoor.V
set_option linter.unusedVariables false
set_option linter.unusedSimpArgs false
open Go Go.Proofs Go.RowKit
set_option maxRecDepth 100000
set_option maxHeartbeats 2000000
open Go Go.Proofs Go.Proofs.YtnadacaoehpdnaaDoor.V
def tR : Ty Int := ⟨1, fun x _ => .int .i32 x, 0⟩
def holdsE (L : List Int) (r : Int) (i : Nat) : Bool := if h : i + 1 < L.length then (if L.getD i 0 ≤ r ∧ r ≤ L.getD (i + 1) 0 then true else holdsE L r (i + 2)) else false
termination_by L.length - i
theorem holds_fn (L : List Int) (r : Int) (hL : L.length ≤ 1000) : Fn Tryd.prog 118 [tR.L L, .int .i32 r] (.bool (holdsE L r 0)) := by
  refine Fn.of Tryd.f118 _ Tryd.func118 rfl (by decide) (by show 2 ≤ _; decide) tbOk 28 rfl fun S w0 gl => ?_
  refine Run.go ?_; (conv => whnf); repeat' (first | ((with_reducible refine Know.mk fun _ => ?_); conv => whnf) | ((with_reducible refine Need.mk ?_ ?_); exact nd; conv => whnf) | ((with_reducible first | refine Both.mk ?_ ?_ | refine Any.mk fun b hb => ?_ | refine AskB.dec (fun hb => ?_) (fun hb => ?_) | refine AskB.ndec (fun hb => ?_) (fun hb => ?_) | refine AskB.mk (fun hb => ?_) (fun hb => ?_)) <;> conv => whnf) | ((with_reducible first | refine Run.drawX rfl (by decide +kernel) ?_ | refine Run.drawT rfl (by decide +kernel) ?_ | refine Run.drawW rfl (by decide +kernel) ?_); conv => whnf))
  refine Run.loop [0, 1] (fun (i : Nat) => [(5, .int .i64 (i : Int))]) (fun i => []) (fun i => i ≤ L.length + 1 ∧ holdsE L r i = holdsE L r 0) (fun i => L.length + 1 - i) 0 ⟨Nat.zero_le _, rfl⟩ ⟨Le.refl _, trivial⟩ trivial ?_
  intro i ⟨hi, hc⟩ IH
  have hw1 : IntKind.i64.wrap ((i : Int) + 1) = ((i + 1 : Nat) : Int) := wrap64 (by omega) (by omega)
  have hw2 : IntKind.i64.wrap ((i : Int) + 2) = ((i + 2 : Nat) : Int) := wrap64 (by omega) (by omega)
  have stp : i + 1 < L.length → ¬ (L.getD i 0 ≤ r ∧ r ≤ L.getD (i + 1) 0) → i + 2 ≤ L.length + 1 ∧ holdsE L r (i + 2) = holdsE L r 0 := fun h1 h2 => ⟨by omega, by rw [← hc, holdsE.eq_def L r i, dif_pos h1, if_neg h2]⟩
  have hg : L.getD (IntKind.i64.wrap (↑i + 1)).toNat tR.z = L.getD (i + 1) 0 := by rw [hw1]; rfl
  refine Run.go ?_; (conv => whnf); repeat' (first | ((with_reducible refine Know.mk fun _ => ?_); conv => whnf) | ((with_reducible refine Need.mk ?_ ?_); exact nd; conv => whnf) | ((with_reducible first | refine Both.mk ?_ ?_ | refine Any.mk fun b hb => ?_ | refine AskB.dec (fun hb => ?_) (fun hb => ?_) | refine AskB.ndec (fun hb => ?_) (fun hb => ?_) | refine AskB.mk (fun hb => ?_) (fun hb => ?_)) <;> conv => whnf) | ((with_reducible first | refine Run.drawX rfl (by decide +kernel) ?_ | refine Run.drawT rfl (by decide +kernel) ?_ | refine Run.drawW rfl (by decide +kernel) ?_); conv => whnf))
  · rw [hg] at *
    refine Run.leave (ts := [4]) (.inr ⟨_, rfl⟩) rfl Tryd.func118 rfl (Le.tt.trans (Le.bool ?_))
    rw [← hc, holdsE, dif_pos (by omega), if_pos ⟨by assumption, by assumption⟩]
  · rw [hg] at *
    obtain ⟨h1, h2⟩ := stp (by omega) (fun h => absurd h.2 (by assumption))
    refine Run.to _ _ ?_ ?_ (IH (i + 2) (by omega) ⟨h1, h2⟩)
    · exact ⟨Le.refl _, Le.refl _, Le.int hw2, trivial⟩
    · exact trivial
  · obtain ⟨h1, h2⟩ := stp (by omega) (fun h => absurd h.1 (by assumption))
    refine Run.to _ _ ?_ ?_ (IH (i + 2) (by omega) ⟨h1, h2⟩)
    · exact ⟨Le.refl _, Le.refl _, Le.int hw2, trivial⟩
    · exact trivial
  · refine Run.leave (ts := [4]) (.inr ⟨_, rfl⟩) rfl Tryd.func118 rfl (Le.ff.trans (Le.bool ?_))
    rw [← hc, holdsE, dif_neg (by omega)]
theorem Le.litL {α : Type} (T : Ty α) (L : List α) (cs : List (List AV)) (h : cs = L.map (fun x => (List.range T.sz).map (T.enc x))) : Le (.sl L.length T.sz (fun i j => (cs.getD i []).getD j .u)) (T.L L) := by
  refine Le.sl fun i j hi hj => ?_
  rw [h]
  simp only [Ty.G, List.getD, List.getElem?_map, List.getElem?_eq_getElem hi, Option.map_some, Option.getD_some, List.getElem?_range hj]
  exact Le.refl _
def holdsL (r : Int) : List Int → Bool
  | a :: b :: t => decide (a ≤ r ∧ r ≤ b) || holdsL r t
  | _ => false
theorem holdsE_L (L : List Int) (r : Int) (i : Nat) : holdsE L r i = holdsL r (L.drop i) := by
  by_cases h : i + 1 < L.length
  · rw [holdsE, dif_pos h, holdsE_L L r (i + 2), List.drop_eq_getElem_cons (by omega : i < L.length), List.drop_eq_getElem_cons h]
    simp only [holdsL, List.getD, List.getElem?_eq_getElem (by omega : i < L.length), List.getElem?_eq_getElem h, Option.getD_some]
    by_cases h2 : L[i] ≤ r ∧ r ≤ L[i + 1]
    · rw [if_pos h2, decide_eq_true h2]; rfl
    · rw [if_neg h2, decide_eq_false h2]; rfl
  · rw [holdsE, dif_neg h]
    rcases (by omega : L.length ≤ i ∨ L.length = i + 1) with h2 | h2
    · rw [List.drop_eq_nil_of_le h2]; rfl
    · rw [List.drop_eq_getElem_cons (by omega : i < L.length), List.drop_eq_nil_of_le (by omega)]; rfl
termination_by L.length - i
theorem holds_isJoiner (r : Int) : holdsE [39, 39, 45, 45, 173, 173, 8204, 8205, 8217, 8217] r 0 = decide (isJoiner r) := by
  rw [holdsE_L, List.drop_zero, Bool.eq_iff_iff]
  simp only [holdsL, Bool.or_eq_true, decide_eq_true_eq, Bool.false_eq_true, or_false]
  all_goals (unfold isJoiner; omega)
theorem holds_isDigit (r : Int) : holdsE [48, 57, 1632, 1641] r 0 = decide (isDigit r) := by
  rw [holdsE_L, List.drop_zero, Bool.eq_iff_iff]
  simp only [holdsL, Bool.or_eq_true, decide_eq_true_eq, Bool.false_eq_true, or_false]
  all_goals (unfold isDigit; omega)
theorem holds_isLetter (r : Int) : holdsE [65, 90, 97, 122, 170, 170, 181, 181, 186, 186, 192, 214, 216, 246, 248, 687, 880, 893, 895, 902, 904, 1153, 1162, 1327, 7680, 8191, 64256, 64262, 9676, 9676] r 0 = decide (isLetter r) := by
  rw [holdsE_L, List.drop_zero, Bool.eq_iff_iff]
  simp only [holdsL, Bool.or_eq_true, decide_eq_true_eq, Bool.false_eq_true, or_false]
  all_goals (unfold isLetter; omega)
theorem holds_isAccent (r : Int) : holdsE [768, 879, 1155, 1161, 7616, 7679, 8400, 8447] r 0 = decide (isAccent r) := by
  rw [holdsE_L, List.drop_zero, Bool.eq_iff_iff]
  simp only [holdsL, Bool.or_eq_true, decide_eq_true_eq, Bool.false_eq_true, or_false]
  all_goals (unfold isAccent; omega)
theorem holds_isLine (r : Int) : holdsE [10, 10, 13, 13, 133, 133, 8232, 8233] r 0 = decide (isLine r) := by
  rw [holdsE_L, List.drop_zero, Bool.eq_iff_iff]
  simp only [holdsL, Bool.or_eq_true, decide_eq_true_eq, Bool.false_eq_true, or_false]
  all_goals (unfold isLine; omega)
theorem holds_isBlank (r : Int) : holdsE [9, 9, 11, 12, 32, 32, 160, 160, 8194, 8202, 8239, 8239, 12288, 12288] r 0 = decide (isBlank r) := by
  rw [holdsE_L, List.drop_zero, Bool.eq_iff_iff]
  simp only [holdsL, Bool.or_eq_true, decide_eq_true_eq, Bool.false_eq_true, or_false]
  all_goals (unfold isBlank; omega)
theorem holds_isPoint (r : Int) : holdsE [33, 126, 161, 191, 903, 903, 8208, 8231, 8240, 8286] r 0 = decide (isPoint r) := by
  rw [holdsE_L, List.drop_zero, Bool.eq_iff_iff]
  simp only [holdsL, Bool.or_eq_true, decide_eq_true_eq, Bool.false_eq_true, or_false]
  all_goals (unfold isPoint; omega)
theorem of60_fn (r : Int) : Fn Tryd.prog 105 [.int .i32 r] (.int .i64 (kOf r)) := by
  refine Fn.of Tryd.f105 _ Tryd.func105 rfl (by decide) (by show 1 ≤ _; decide) tbOk 24 rfl fun S w0 gl => ?_
  refine Run.go ?_; (conv => whnf); repeat' (first | ((with_reducible refine Know.mk fun _ => ?_); conv => whnf) | ((with_reducible refine Need.mk ?_ ?_); exact nd; conv => whnf) | ((with_reducible first | refine Both.mk ?_ ?_ | refine Any.mk fun b hb => ?_ | refine AskB.dec (fun hb => ?_) (fun hb => ?_) | refine AskB.ndec (fun hb => ?_) (fun hb => ?_) | refine AskB.mk (fun hb => ?_) (fun hb => ?_)) <;> conv => whnf) | ((with_reducible first | refine Run.drawX rfl (by decide +kernel) ?_ | refine Run.drawT rfl (by decide +kernel) ?_ | refine Run.drawW rfl (by decide +kernel) ?_); conv => whnf))
  refine Run.callAX (holds_fn [39, 39, 45, 45, 173, 173, 8204, 8205, 8217, 8217] r (by decide)) rfl rfl ⟨Le.litL tR [39, 39, 45, 45, 173, 173, 8204, 8205, 8217, 8217] _ rfl, Le.refl _, trivial⟩ rfl rfl rfl ?_
  rw [holds_isJoiner]
  (conv => whnf); repeat' (first | ((with_reducible refine Know.mk fun _ => ?_); conv => whnf) | ((with_reducible refine Need.mk ?_ ?_); exact nd; conv => whnf) | ((with_reducible first | refine Both.mk ?_ ?_ | refine Any.mk fun b hb => ?_ | refine AskB.dec (fun hb => ?_) (fun hb => ?_) | refine AskB.ndec (fun hb => ?_) (fun hb => ?_) | refine AskB.mk (fun hb => ?_) (fun hb => ?_)) <;> conv => whnf) | ((with_reducible first | refine Run.drawX rfl (by decide +kernel) ?_ | refine Run.drawT rfl (by decide +kernel) ?_ | refine Run.drawW rfl (by decide +kernel) ?_); conv => whnf))
  · exact Run.leave (ts := [2]) (.inr ⟨_, rfl⟩) rfl Tryd.func105 rfl (Le.int (kOf_joiner hb).symm)
  refine Run.callAX (holds_fn [48, 57, 1632, 1641] r (by decide)) rfl rfl ⟨Le.litL tR [48, 57, 1632, 1641] _ rfl, Le.refl _, trivial⟩ rfl rfl rfl ?_
  rw [holds_isDigit]
  (conv => whnf); repeat' (first | ((with_reducible refine Know.mk fun _ => ?_); conv => whnf) | ((with_reducible refine Need.mk ?_ ?_); exact nd; conv => whnf) | ((with_reducible first | refine Both.mk ?_ ?_ | refine Any.mk fun b hb => ?_ | refine AskB.dec (fun hb => ?_) (fun hb => ?_) | refine AskB.ndec (fun hb => ?_) (fun hb => ?_) | refine AskB.mk (fun hb => ?_) (fun hb => ?_)) <;> conv => whnf) | ((with_reducible first | refine Run.drawX rfl (by decide +kernel) ?_ | refine Run.drawT rfl (by decide +kernel) ?_ | refine Run.drawW rfl (by decide +kernel) ?_); conv => whnf))
  · exact Run.leave (ts := [2]) (.inr ⟨_, rfl⟩) rfl Tryd.func105 rfl (Le.int (kOf_digit hb).symm)
  refine Run.callAX (holds_fn [65, 90, 97, 122, 170, 170, 181, 181, 186, 186, 192, 214, 216, 246, 248, 687, 880, 893, 895, 902, 904, 1153, 1162, 1327, 7680, 8191, 64256, 64262, 9676, 9676] r (by decide)) rfl rfl ⟨Le.litL tR [65, 90, 97, 122, 170, 170, 181, 181, 186, 186, 192, 214, 216, 246, 248, 687, 880, 893, 895, 902, 904, 1153, 1162, 1327, 7680, 8191, 64256, 64262, 9676, 9676] _ rfl, Le.refl _, trivial⟩ rfl rfl rfl ?_
  rw [holds_isLetter]
  (conv => whnf); repeat' (first | ((with_reducible refine Know.mk fun _ => ?_); conv => whnf) | ((with_reducible refine Need.mk ?_ ?_); exact nd; conv => whnf) | ((with_reducible first | refine Both.mk ?_ ?_ | refine Any.mk fun b hb => ?_ | refine AskB.dec (fun hb => ?_) (fun hb => ?_) | refine AskB.ndec (fun hb => ?_) (fun hb => ?_) | refine AskB.mk (fun hb => ?_) (fun hb => ?_)) <;> conv => whnf) | ((with_reducible first | refine Run.drawX rfl (by decide +kernel) ?_ | refine Run.drawT rfl (by decide +kernel) ?_ | refine Run.drawW rfl (by decide +kernel) ?_); conv => whnf))
  · exact Run.leave (ts := [2]) (.inr ⟨_, rfl⟩) rfl Tryd.func105 rfl (Le.int (kOf_letter hb).symm)
  refine Run.callAX (holds_fn [768, 879, 1155, 1161, 7616, 7679, 8400, 8447] r (by decide)) rfl rfl ⟨Le.litL tR [768, 879, 1155, 1161, 7616, 7679, 8400, 8447] _ rfl, Le.refl _, trivial⟩ rfl rfl rfl ?_
  rw [holds_isAccent]
  (conv => whnf); repeat' (first | ((with_reducible refine Know.mk fun _ => ?_); conv => whnf) | ((with_reducible refine Need.mk ?_ ?_); exact nd; conv => whnf) | ((with_reducible first | refine Both.mk ?_ ?_ | refine Any.mk fun b hb => ?_ | refine AskB.dec (fun hb => ?_) (fun hb => ?_) | refine AskB.ndec (fun hb => ?_) (fun hb => ?_) | refine AskB.mk (fun hb => ?_) (fun hb => ?_)) <;> conv => whnf) | ((with_reducible first | refine Run.drawX rfl (by decide +kernel) ?_ | refine Run.drawT rfl (by decide +kernel) ?_ | refine Run.drawW rfl (by decide +kernel) ?_); conv => whnf))
  · exact Run.leave (ts := [2]) (.inr ⟨_, rfl⟩) rfl Tryd.func105 rfl (Le.int (kOf_accent hb).symm)
  refine Run.callAX (holds_fn [10, 10, 13, 13, 133, 133, 8232, 8233] r (by decide)) rfl rfl ⟨Le.litL tR [10, 10, 13, 13, 133, 133, 8232, 8233] _ rfl, Le.refl _, trivial⟩ rfl rfl rfl ?_
  rw [holds_isLine]
  (conv => whnf); repeat' (first | ((with_reducible refine Know.mk fun _ => ?_); conv => whnf) | ((with_reducible refine Need.mk ?_ ?_); exact nd; conv => whnf) | ((with_reducible first | refine Both.mk ?_ ?_ | refine Any.mk fun b hb => ?_ | refine AskB.dec (fun hb => ?_) (fun hb => ?_) | refine AskB.ndec (fun hb => ?_) (fun hb => ?_) | refine AskB.mk (fun hb => ?_) (fun hb => ?_)) <;> conv => whnf) | ((with_reducible first | refine Run.drawX rfl (by decide +kernel) ?_ | refine Run.drawT rfl (by decide +kernel) ?_ | refine Run.drawW rfl (by decide +kernel) ?_); conv => whnf))
  · exact Run.leave (ts := [2]) (.inr ⟨_, rfl⟩) rfl Tryd.func105 rfl (Le.int (kOf_line hb).symm)
  refine Run.callAX (holds_fn [9, 9, 11, 12, 32, 32, 160, 160, 8194, 8202, 8239, 8239, 12288, 12288] r (by decide)) rfl rfl ⟨Le.litL tR [9, 9, 11, 12, 32, 32, 160, 160, 8194, 8202, 8239, 8239, 12288, 12288] _ rfl, Le.refl _, trivial⟩ rfl rfl rfl ?_
  rw [holds_isBlank]
  (conv => whnf); repeat' (first | ((with_reducible refine Know.mk fun _ => ?_); conv => whnf) | ((with_reducible refine Need.mk ?_ ?_); exact nd; conv => whnf) | ((with_reducible first | refine Both.mk ?_ ?_ | refine Any.mk fun b hb => ?_ | refine AskB.dec (fun hb => ?_) (fun hb => ?_) | refine AskB.ndec (fun hb => ?_) (fun hb => ?_) | refine AskB.mk (fun hb => ?_) (fun hb => ?_)) <;> conv => whnf) | ((with_reducible first | refine Run.drawX rfl (by decide +kernel) ?_ | refine Run.drawT rfl (by decide +kernel) ?_ | refine Run.drawW rfl (by decide +kernel) ?_); conv => whnf))
  · exact Run.leave (ts := [2]) (.inr ⟨_, rfl⟩) rfl Tryd.func105 rfl (Le.int (kOf_blank hb).symm)
  refine Run.callAX (holds_fn [33, 126, 161, 191, 903, 903, 8208, 8231, 8240, 8286] r (by decide)) rfl rfl ⟨Le.litL tR [33, 126, 161, 191, 903, 903, 8208, 8231, 8240, 8286] _ rfl, Le.refl _, trivial⟩ rfl rfl rfl ?_
  rw [holds_isPoint]
  (conv => whnf); repeat' (first | ((with_reducible refine Know.mk fun _ => ?_); conv => whnf) | ((with_reducible refine Need.mk ?_ ?_); exact nd; conv => whnf) | ((with_reducible first | refine Both.mk ?_ ?_ | refine Any.mk fun b hb => ?_ | refine AskB.dec (fun hb => ?_) (fun hb => ?_) | refine AskB.ndec (fun hb => ?_) (fun hb => ?_) | refine AskB.mk (fun hb => ?_) (fun hb => ?_)) <;> conv => whnf) | ((with_reducible first | refine Run.drawX rfl (by decide +kernel) ?_ | refine Run.drawT rfl (by decide +kernel) ?_ | refine Run.drawW rfl (by decide +kernel) ?_); conv => whnf))
  · exact Run.leave (ts := [2]) (.inr ⟨_, rfl⟩) rfl Tryd.func105 rfl (Le.int (kOf_point hb (by assumption) (by assumption) (by assumption)).symm)
  exact Run.leave (ts := [2]) (.inr ⟨_, rfl⟩) rfl Tryd.func105 rfl (Le.int (kOf_other (by assumption) (by assumption) (by assumption) (by assumption) (by assumption) (by assumption) (by assumption)).symm)
theorem cell65_fn (c : Cel) : Fn Tryd.prog 115 [.agg 5 (tCel.enc c)] (.int .i64 (kCel c)) := by
  refine Fn.of Tryd.f115 _ Tryd.func115 rfl (by decide) (by show 1 ≤ _; decide) tbOk 8 rfl fun S w0 gl => ?_
  refine Run.go ?_; (conv => whnf); repeat' (first | ((with_reducible refine Know.mk fun _ => ?_); conv => whnf) | ((with_reducible refine Need.mk ?_ ?_); exact nd; conv => whnf) | ((with_reducible first | refine Both.mk ?_ ?_ | refine Any.mk fun b hb => ?_ | refine AskB.dec (fun hb => ?_) (fun hb => ?_) | refine AskB.ndec (fun hb => ?_) (fun hb => ?_) | refine AskB.mk (fun hb => ?_) (fun hb => ?_)) <;> conv => whnf) | ((with_reducible first | refine Run.drawX rfl (by decide +kernel) ?_ | refine Run.drawT rfl (by decide +kernel) ?_ | refine Run.drawW rfl (by decide +kernel) ?_); conv => whnf))
  · exact Run.leave (ts := [2]) (.inr ⟨_, rfl⟩) rfl Tryd.func115 rfl (Le.int (by unfold kCel; rw [if_pos hb]))
  · refine Run.callBX (of60_fn c.r) rfl rfl ⟨Le.refl _, trivial⟩ rfl rfl rfl ?_
    (conv => whnf); repeat' (first | ((with_reducible refine Know.mk fun _ => ?_); conv => whnf) | ((with_reducible refine Need.mk ?_ ?_); exact nd; conv => whnf) | ((with_reducible first | refine Both.mk ?_ ?_ | refine Any.mk fun b hb => ?_ | refine AskB.dec (fun hb => ?_) (fun hb => ?_) | refine AskB.ndec (fun hb => ?_) (fun hb => ?_) | refine AskB.mk (fun hb => ?_) (fun hb => ?_)) <;> conv => whnf) | ((with_reducible first | refine Run.drawX rfl (by decide +kernel) ?_ | refine Run.drawT rfl (by decide +kernel) ?_ | refine Run.drawW rfl (by decide +kernel) ?_); conv => whnf))
    exact Run.leave (ts := [2]) (.inr ⟨_, rfl⟩) rfl Tryd.func115 rfl (Le.int (by unfold kCel; rw [if_neg (by simp [hb])]))
theorem wordy66_fn (c : Cel) : Fn Tryd.prog 116 [.agg 5 (tCel.enc c)] (.bool (wordy (kCel c))) := by
  refine Fn.of Tryd.f116 _ Tryd.func116 rfl (by decide) (by show 1 ≤ _; decide) tbOk 16 rfl fun S w0 gl => ?_
  refine Run.go ?_; (conv => whnf); repeat' (first | ((with_reducible refine Know.mk fun _ => ?_); conv => whnf) | ((with_reducible refine Need.mk ?_ ?_); exact nd; conv => whnf) | ((with_reducible first | refine Both.mk ?_ ?_ | refine Any.mk fun b hb => ?_ | refine AskB.dec (fun hb => ?_) (fun hb => ?_) | refine AskB.ndec (fun hb => ?_) (fun hb => ?_) | refine AskB.mk (fun hb => ?_) (fun hb => ?_)) <;> conv => whnf) | ((with_reducible first | refine Run.drawX rfl (by decide +kernel) ?_ | refine Run.drawT rfl (by decide +kernel) ?_ | refine Run.drawW rfl (by decide +kernel) ?_); conv => whnf))
  refine Run.callBX (cell65_fn c) rfl rfl ⟨?_, trivial⟩ rfl rfl rfl ?_
  · refine Le.agg fun j hj => ?_
    match j, hj with
    | 0, _ => exact Le.refl _
    | 1, _ => exact Le.refl _
    | 2, _ => exact Le.refl _
    | 3, _ => exact Le.refl _
    | 4, _ => exact Le.refl _
  (conv => whnf); repeat' (first | ((with_reducible refine Know.mk fun _ => ?_); conv => whnf) | ((with_reducible refine Need.mk ?_ ?_); exact nd; conv => whnf) | ((with_reducible first | refine Both.mk ?_ ?_ | refine Any.mk fun b hb => ?_ | refine AskB.dec (fun hb => ?_) (fun hb => ?_) | refine AskB.ndec (fun hb => ?_) (fun hb => ?_) | refine AskB.mk (fun hb => ?_) (fun hb => ?_)) <;> conv => whnf) | ((with_reducible first | refine Run.drawX rfl (by decide +kernel) ?_ | refine Run.drawT rfl (by decide +kernel) ?_ | refine Run.drawW rfl (by decide +kernel) ?_); conv => whnf))
  all_goals refine Run.leave (ts := [2]) (.inr ⟨_, rfl⟩) rfl Tryd.func116 rfl ?_
  all_goals first
    | exact Le.tt.trans (Le.bool (decide_eq_true (by omega)).symm)
    | exact Le.bool (decide_eq_decide.mpr (by omega))
theorem knd_in {L : List Cel} {j : Nat} (h : j < L.length) : kCel (L.getD j cel0) = knd L j := by unfold knd; rw [if_pos h]
/-- The document's words, as it goes through them. -/
theorem word67_fn (L : List Cel) (i : Nat) (hi : i ≤ L.length) (hL : L.length ≤ 1048576) : Fn Tryd.prog 117 [tCel.L L, .int .i64 i] (.int .i64 (wordE L i : Nat)) := by
  refine Fn.of Tryd.f117 _ Tryd.func117 rfl (by decide) (by show 2 ≤ _; decide) tbOk 41 rfl fun S w0 gl => ?_
  refine Run.go ?_; (conv => whnf); repeat' (first | ((with_reducible refine Know.mk fun _ => ?_); conv => whnf) | ((with_reducible refine Need.mk ?_ ?_); exact nd; conv => whnf) | ((with_reducible first | refine Both.mk ?_ ?_ | refine Any.mk fun b hb => ?_ | refine AskB.dec (fun hb => ?_) (fun hb => ?_) | refine AskB.ndec (fun hb => ?_) (fun hb => ?_) | refine AskB.mk (fun hb => ?_) (fun hb => ?_)) <;> conv => whnf) | ((with_reducible first | refine Run.drawX rfl (by decide +kernel) ?_ | refine Run.drawT rfl (by decide +kernel) ?_ | refine Run.drawW rfl (by decide +kernel) ?_); conv => whnf))
  refine Run.loop [0] (fun (j : Nat) => [(1, .int .i64 (j : Int))]) (fun j => []) (fun j => i ≤ j ∧ j ≤ L.length ∧ wordE L j = wordE L i) (fun j => L.length - j) i ⟨Nat.le_refl _, hi, rfl⟩ ⟨Le.refl _, trivial⟩ trivial ?_
  intro j ⟨hj1, hj2, hj3⟩ IH
  have hw1 : IntKind.i64.wrap ((j : Int) + 1) = ((j + 1 : Nat) : Int) := wrap64 (by omega) (by omega)
  have hw2 : IntKind.i64.wrap ((j : Int) + 2) = ((j + 2 : Nat) : Int) := wrap64 (by omega) (by omega)
  have stop : j < L.length → ¬ wy L j → ¬ (knd L j = 4 ∧ wy L (j + 1)) → wordE L i = j := fun h1 h2 h3 => by rw [← hj3, wordE.eq_def L j, dif_pos h1, if_neg h2, if_neg h3]
  have hg1 : tCel.G L (IntKind.i64.wrap (↑j + 1)).toNat = tCel.enc (L.getD (j + 1) cel0) := by rw [hw1]; rfl
  refine Run.go ?_; (conv => whnf); repeat' (first | ((with_reducible refine Know.mk fun _ => ?_); conv => whnf) | ((with_reducible refine Need.mk ?_ ?_); exact nd; conv => whnf) | ((with_reducible first | refine Both.mk ?_ ?_ | refine Any.mk fun b hb => ?_ | refine AskB.dec (fun hb => ?_) (fun hb => ?_) | refine AskB.ndec (fun hb => ?_) (fun hb => ?_) | refine AskB.mk (fun hb => ?_) (fun hb => ?_)) <;> conv => whnf) | ((with_reducible first | refine Run.drawX rfl (by decide +kernel) ?_ | refine Run.drawT rfl (by decide +kernel) ?_ | refine Run.drawW rfl (by decide +kernel) ?_); conv => whnf))
  · have hlt : j < L.length := by omega
    refine Run.callBX (wordy66_fn (L.getD j cel0)) rfl rfl ⟨Le.refl _, trivial⟩ rfl rfl rfl ?_
    rw [knd_in hlt]
    (conv => whnf); repeat' (first | ((with_reducible refine Know.mk fun _ => ?_); conv => whnf) | ((with_reducible refine Need.mk ?_ ?_); exact nd; conv => whnf) | ((with_reducible first | refine Both.mk ?_ ?_ | refine Any.mk fun b hb => ?_ | refine AskB.dec (fun hb => ?_) (fun hb => ?_) | refine AskB.ndec (fun hb => ?_) (fun hb => ?_) | refine AskB.mk (fun hb => ?_) (fun hb => ?_)) <;> conv => whnf) | ((with_reducible first | refine Run.drawX rfl (by decide +kernel) ?_ | refine Run.drawT rfl (by decide +kernel) ?_ | refine Run.drawW rfl (by decide +kernel) ?_); conv => whnf))
    · refine Run.to _ _ ?_ ?_ (IH (j + 1) (by omega) ⟨by omega, by omega, ?_⟩)
      · exact ⟨Le.refl _, Le.int hw1, trivial⟩
      · exact trivial
      · rw [← hj3, wordE.eq_def L j, dif_pos hlt, if_pos hb]
    · have hnw : ¬ wy L j := nwy hb
      refine Run.callBX (cell65_fn (L.getD j cel0)) rfl rfl ⟨Le.refl _, trivial⟩ rfl rfl rfl ?_
      rw [knd_in hlt]
      (conv => whnf); repeat' (first | ((with_reducible refine Know.mk fun _ => ?_); conv => whnf) | ((with_reducible refine Need.mk ?_ ?_); exact nd; conv => whnf) | ((with_reducible first | refine Both.mk ?_ ?_ | refine Any.mk fun b hb => ?_ | refine AskB.dec (fun hb => ?_) (fun hb => ?_) | refine AskB.ndec (fun hb => ?_) (fun hb => ?_) | refine AskB.mk (fun hb => ?_) (fun hb => ?_)) <;> conv => whnf) | ((with_reducible first | refine Run.drawX rfl (by decide +kernel) ?_ | refine Run.drawT rfl (by decide +kernel) ?_ | refine Run.drawW rfl (by decide +kernel) ?_); conv => whnf))
      · have hlt1 : j + 1 < L.length := by rw [hw1] at hb; omega
        have hk4 : knd L j = 4 := by assumption
        refine Run.callBX (wordy66_fn (L.getD (j + 1) cel0)) rfl rfl ⟨?_, trivial⟩ rfl rfl rfl ?_
        · rw [← hg1]; exact Le.refl _
        rw [knd_in hlt1]
        (conv => whnf); repeat' (first | ((with_reducible refine Know.mk fun _ => ?_); conv => whnf) | ((with_reducible refine Need.mk ?_ ?_); exact nd; conv => whnf) | ((with_reducible first | refine Both.mk ?_ ?_ | refine Any.mk fun b hb => ?_ | refine AskB.dec (fun hb => ?_) (fun hb => ?_) | refine AskB.ndec (fun hb => ?_) (fun hb => ?_) | refine AskB.mk (fun hb => ?_) (fun hb => ?_)) <;> conv => whnf) | ((with_reducible first | refine Run.drawX rfl (by decide +kernel) ?_ | refine Run.drawT rfl (by decide +kernel) ?_ | refine Run.drawW rfl (by decide +kernel) ?_); conv => whnf))
        · refine Run.to _ _ ?_ ?_ (IH (j + 2) (by omega) ⟨by omega, by omega, ?_⟩)
          · exact ⟨Le.refl _, Le.int hw2, trivial⟩
          · exact trivial
          · rw [← hj3, wordE.eq_def L j, dif_pos hlt, if_neg hnw, if_pos ⟨hk4, hb⟩]
        · exact Run.leave (ts := [4]) (.inr ⟨_, rfl⟩) rfl Tryd.func117 rfl (Le.int (by rw [stop hlt hnw (fun h => absurd (hb.symm.trans h.2) (by decide))]))
      · exact Run.leave (ts := [4]) (.inr ⟨_, rfl⟩) rfl Tryd.func117 rfl (Le.int (by rw [stop hlt hnw (fun h => absurd (wy_lt h.2) (by rw [hw1] at hb; omega))]))
      · exact Run.leave (ts := [4]) (.inr ⟨_, rfl⟩) rfl Tryd.func117 rfl (Le.int (by rw [stop hlt hnw (fun h => absurd h.1 hb)]))
  · exact Run.leave (ts := [4]) (.inr ⟨_, rfl⟩) rfl Tryd.func117 rfl (Le.int (by rw [← hj3, wordE.eq_def L j, dif_neg (by omega)]))
end Go.Proofs.YtnadacaoehpdnaaDoor.V

namespace Go.Proofs.YtnadacaoehpdnaaDoor.V
set_option linter.unusedVariables false
set_option linter.unusedSimpArgs false
open Go Go.Proofs Go.RowKit
set_option maxRecDepth 100000
set_option maxHeartbeats 2000000
open Go Go.Proofs Go.Proofs.YtnadacaoehpdnaaDoor.V
theorem token49_fn (L : List Cel) (i : Nat) (hi : i < L.length) (hL : L.length ≤ 1048576) : Fn Tryd.prog 104 [tCel.L L, .int .i64 i] (tupL [.int .i64 (tokE L i).1, .int .i64 (tokE L i).2]) := by
  refine Fn.of Tryd.f104 _ Tryd.func104 rfl (by decide) (by show 2 ≤ _; decide) tbOk 81 rfl fun S w0 gl => ?_
  have hw1 : IntKind.i64.wrap ((i : Int) + 1) = ((i + 1 : Nat) : Int) := wrap64 (by omega) (by omega)
  have hw2 : IntKind.i64.wrap ((i : Int) + 2) = ((i + 2 : Nat) : Int) := wrap64 (by omega) (by omega)
  have hg1 : L.getD (IntKind.i64.wrap (↑i + 1)).toNat tCel.z = L.getD (i + 1) cel0 := by rw [hw1]; rfl
  have ret : ∀ (k : Int) (n : Nat) (m : Int), tokE L i = (k, n) → m = n → ArgsLe [.int .i64 k, .int .i64 m] [.int .i64 (tokE L i).1, .int .i64 (tokE L i).2] := fun k n m h e => by rw [h, e]; exact ⟨Le.refl _, Le.refl _, trivial⟩
  refine Run.go ?_; (conv => whnf); repeat' (first | ((with_reducible refine Know.mk fun _ => ?_); conv => whnf) | ((with_reducible refine Need.mk ?_ ?_); exact nd; conv => whnf) | ((with_reducible first | refine Both.mk ?_ ?_ | refine Any.mk fun b hb => ?_ | refine AskB.dec (fun hb => ?_) (fun hb => ?_) | refine AskB.ndec (fun hb => ?_) (fun hb => ?_) | refine AskB.mk (fun hb => ?_) (fun hb => ?_)) <;> conv => whnf) | ((with_reducible first | refine Run.drawX rfl (by decide +kernel) ?_ | refine Run.drawT rfl (by decide +kernel) ?_ | refine Run.drawW rfl (by decide +kernel) ?_); conv => whnf))
  refine Run.callBX (cell65_fn (L.getD i cel0)) rfl rfl ⟨Le.refl _, trivial⟩ rfl rfl rfl ?_
  rw [knd_in hi]
  (conv => whnf); repeat' (first | ((with_reducible refine Know.mk fun _ => ?_); conv => whnf) | ((with_reducible refine Need.mk ?_ ?_); exact nd; conv => whnf) | ((with_reducible first | refine Both.mk ?_ ?_ | refine Any.mk fun b hb => ?_ | refine AskB.dec (fun hb => ?_) (fun hb => ?_) | refine AskB.ndec (fun hb => ?_) (fun hb => ?_) | refine AskB.mk (fun hb => ?_) (fun hb => ?_)) <;> conv => whnf) | ((with_reducible first | refine Run.drawX rfl (by decide +kernel) ?_ | refine Run.drawT rfl (by decide +kernel) ?_ | refine Run.drawW rfl (by decide +kernel) ?_); conv => whnf))
  refine Run.callBX (wordy66_fn (L.getD i cel0)) rfl rfl ⟨Le.refl _, trivial⟩ rfl rfl rfl ?_
  rw [knd_in hi]
  (conv => whnf); repeat' (first | ((with_reducible refine Know.mk fun _ => ?_); conv => whnf) | ((with_reducible refine Need.mk ?_ ?_); exact nd; conv => whnf) | ((with_reducible first | refine Both.mk ?_ ?_ | refine Any.mk fun b hb => ?_ | refine AskB.dec (fun hb => ?_) (fun hb => ?_) | refine AskB.ndec (fun hb => ?_) (fun hb => ?_) | refine AskB.mk (fun hb => ?_) (fun hb => ?_)) <;> conv => whnf) | ((with_reducible first | refine Run.drawX rfl (by decide +kernel) ?_ | refine Run.drawT rfl (by decide +kernel) ?_ | refine Run.drawW rfl (by decide +kernel) ?_); conv => whnf))
  · refine Run.callBX (word67_fn L i (by omega) hL) rfl rfl ⟨Le.refl _, Le.refl _, trivial⟩ rfl rfl rfl ?_
    (conv => whnf); repeat' (first | ((with_reducible refine Know.mk fun _ => ?_); conv => whnf) | ((with_reducible refine Need.mk ?_ ?_); exact nd; conv => whnf) | ((with_reducible first | refine Both.mk ?_ ?_ | refine Any.mk fun b hb => ?_ | refine AskB.dec (fun hb => ?_) (fun hb => ?_) | refine AskB.ndec (fun hb => ?_) (fun hb => ?_) | refine AskB.mk (fun hb => ?_) (fun hb => ?_)) <;> conv => whnf) | ((with_reducible first | refine Run.drawX rfl (by decide +kernel) ?_ | refine Run.drawT rfl (by decide +kernel) ?_ | refine Run.drawW rfl (by decide +kernel) ?_); conv => whnf))
    exact Run.leave (ts := [4,5]) (.inr ⟨_, rfl⟩) rfl Tryd.func104 rfl (resT (ret 1 (wordE L i) _ (by unfold tokE; rw [if_pos hb]) rfl))
  all_goals have hnw : ¬ wy L i := nwy (by assumption)
  · have hk5 : knd L i = 5 := hb
    refine Run.loop [0] (fun (j : Nat) => [(7, .int .i64 (j : Int))]) (fun j => []) (fun j => i ≤ j ∧ j ≤ L.length ∧ blankE L j = blankE L i) (fun j => L.length - j) i ⟨Nat.le_refl _, by omega, rfl⟩ ⟨Le.refl _, trivial⟩ trivial ?_
    intro j ⟨hj1, hj2, hj3⟩ IH
    have hw3 : IntKind.i64.wrap ((j : Int) + 1) = ((j + 1 : Nat) : Int) := wrap64 (by omega) (by omega)
    refine Run.go ?_; (conv => whnf); repeat' (first | ((with_reducible refine Know.mk fun _ => ?_); conv => whnf) | ((with_reducible refine Need.mk ?_ ?_); exact nd; conv => whnf) | ((with_reducible first | refine Both.mk ?_ ?_ | refine Any.mk fun b hb => ?_ | refine AskB.dec (fun hb => ?_) (fun hb => ?_) | refine AskB.ndec (fun hb => ?_) (fun hb => ?_) | refine AskB.mk (fun hb => ?_) (fun hb => ?_)) <;> conv => whnf) | ((with_reducible first | refine Run.drawX rfl (by decide +kernel) ?_ | refine Run.drawT rfl (by decide +kernel) ?_ | refine Run.drawW rfl (by decide +kernel) ?_); conv => whnf))
    · have hlt : j < L.length := by omega
      refine Run.callBX (cell65_fn (L.getD j cel0)) rfl rfl ⟨Le.refl _, trivial⟩ rfl rfl rfl ?_
      rw [knd_in hlt]
      (conv => whnf); repeat' (first | ((with_reducible refine Know.mk fun _ => ?_); conv => whnf) | ((with_reducible refine Need.mk ?_ ?_); exact nd; conv => whnf) | ((with_reducible first | refine Both.mk ?_ ?_ | refine Any.mk fun b hb => ?_ | refine AskB.dec (fun hb => ?_) (fun hb => ?_) | refine AskB.ndec (fun hb => ?_) (fun hb => ?_) | refine AskB.mk (fun hb => ?_) (fun hb => ?_)) <;> conv => whnf) | ((with_reducible first | refine Run.drawX rfl (by decide +kernel) ?_ | refine Run.drawT rfl (by decide +kernel) ?_ | refine Run.drawW rfl (by decide +kernel) ?_); conv => whnf))
      · refine Run.to _ _ ?_ ?_ (IH (j + 1) (by omega) ⟨by omega, by omega, ?_⟩)
        · exact ⟨Le.refl _, Le.int hw3, trivial⟩
        · exact trivial
        · rw [← hj3, blankE.eq_def L j, dif_pos hlt, if_pos hb]
      · refine Run.leave (ts := [4,5]) (.inr ⟨_, rfl⟩) rfl Tryd.func104 rfl (resT (ret 2 j _ ?_ rfl))
        unfold tokE
        rw [if_neg hnw, if_pos hk5, ← hj3, blankE.eq_def L j, dif_pos hlt, if_neg hb]
    · refine Run.leave (ts := [4,5]) (.inr ⟨_, rfl⟩) rfl Tryd.func104 rfl (resT (ret 2 j _ ?_ rfl))
      unfold tokE
      rw [if_neg hnw, if_pos hk5, ← hj3, blankE.eq_def L j, dif_neg (by omega)]
  all_goals have hk5 : ¬ knd L i = 5 := by assumption
  · rw [hg1] at hb
    exact Run.leave (ts := [4,5]) (.inr ⟨_, rfl⟩) rfl Tryd.func104 rfl (resT (ret 3 (i + 2) _ (by unfold tokE; rw [if_neg hnw, if_neg hk5, if_pos (by assumption), if_pos ⟨by assumption, by omega, hb⟩]) hw2))
  · rw [hg1] at hb
    exact Run.leave (ts := [4,5]) (.inr ⟨_, rfl⟩) rfl Tryd.func104 rfl (resT (ret 3 (i + 1) _ (by unfold tokE; rw [if_neg hnw, if_neg hk5, if_pos (by assumption), if_neg (fun h => absurd h.2.2 hb)]) hw1))
  · exact Run.leave (ts := [4,5]) (.inr ⟨_, rfl⟩) rfl Tryd.func104 rfl (resT (ret 3 (i + 1) _ (by unfold tokE; rw [if_neg hnw, if_neg hk5, if_pos (by assumption), if_neg (fun h => absurd h.2.1 (by omega))]) hw1))
  · exact Run.leave (ts := [4,5]) (.inr ⟨_, rfl⟩) rfl Tryd.func104 rfl (resT (ret 3 (i + 1) _ (by unfold tokE; rw [if_neg hnw, if_neg hk5, if_pos (by assumption), if_neg (fun h => absurd h.1 hb)]) hw1))
  all_goals have hk6 : ¬ knd L i = 6 := by assumption
  · exact Run.leave (ts := [4,5]) (.inr ⟨_, rfl⟩) rfl Tryd.func104 rfl (resT (ret 4 (i + 1) _ (by unfold tokE; rw [if_neg hnw, if_neg hk5, if_neg hk6, if_pos (.inl hb)]) hw1))
  · exact Run.leave (ts := [4,5]) (.inr ⟨_, rfl⟩) rfl Tryd.func104 rfl (resT (ret 4 (i + 1) _ (by unfold tokE; rw [if_neg hnw, if_neg hk5, if_neg hk6, if_pos (.inr hb)]) hw1))
  · exact Run.leave (ts := [4,5]) (.inr ⟨_, rfl⟩) rfl Tryd.func104 rfl (resT (ret 5 (i + 1) _ (by unfold tokE; rw [if_neg hnw, if_neg hk5, if_neg hk6, if_neg (fun h => h.elim (by assumption) hb)]) hw1))
end Go.Proofs.YtnadacaoehpdnaaDoor.V

namespace Go.Proofs.YtnadacaoehpdnaaDoor.V
set_option linter.unusedVariables false
set_option linter.unusedSimpArgs false
open Go Go.Proofs Go.RowKit
set_option maxRecDepth 100000
set_option maxHeartbeats 2000000
open Go Go.Proofs Go.Proofs.YtnadacaoehpdnaaDoor.V
noncomputable def toksOf (s : ByteArray) : List Tok := if 65536 < s.size then [] else toks s 0 (cells s 0) 0
def codeT (s : ByteArray) : Int := if 65536 < s.size then 1 else 0
theorem tokens32_fn (s : ByteArray) : Fn Tryd.prog 88 [.str s] (tupL [tTok.L (toksOf s), .int .i64 (codeT s)]) := by
  refine Fn.of Tryd.f88 _ Tryd.func88 rfl (by decide) (by show 1 ≤ _; decide) tbOk 56 rfl fun S w0 gl => ?_
  refine Run.go ?_; (conv => whnf); repeat' (first | ((with_reducible refine Know.mk fun _ => ?_); conv => whnf) | ((with_reducible refine Need.mk ?_ ?_); exact nd; conv => whnf) | ((with_reducible first | refine Both.mk ?_ ?_ | refine Any.mk fun b hb => ?_ | refine AskB.dec (fun hb => ?_) (fun hb => ?_) | refine AskB.ndec (fun hb => ?_) (fun hb => ?_) | refine AskB.mk (fun hb => ?_) (fun hb => ?_)) <;> conv => whnf) | ((with_reducible first | refine Run.drawX rfl (by decide +kernel) ?_ | refine Run.drawT rfl (by decide +kernel) ?_ | refine Run.drawW rfl (by decide +kernel) ?_); conv => whnf))
  · refine Run.leave (ts := [2,3]) (.inr ⟨_, rfl⟩) rfl Tryd.func88 rfl (resT ⟨?_, Le.int ?_, trivial⟩)
    · unfold toksOf; rw [if_pos (by omega)]; exact Le.nils _ _
    · unfold codeT; rw [if_pos (by omega)]
  have hs : s.size ≤ 65536 := by omega
  have he : toksOf s = toks s 0 (cells s 0) 0 := by unfold toksOf; rw [if_neg (by omega)]
  have hc0 : codeT s = 0 := by unfold codeT; rw [if_neg (by omega)]
  rw [he, hc0]
  refine Run.callBX (cells36_fn s (by omega)) rfl rfl ⟨Le.refl _, trivial⟩ rfl rfl rfl ?_
  have hlen := cells_len s 0
  have hpm := posAt_mono s
  have hpl := posAt_le s
  generalize hL : cells s 0 = L at *
  (conv => whnf); repeat' (first | ((with_reducible refine Know.mk fun _ => ?_); conv => whnf) | ((with_reducible refine Need.mk ?_ ?_); exact nd; conv => whnf) | ((with_reducible first | refine Both.mk ?_ ?_ | refine Any.mk fun b hb => ?_ | refine AskB.dec (fun hb => ?_) (fun hb => ?_) | refine AskB.ndec (fun hb => ?_) (fun hb => ?_) | refine AskB.mk (fun hb => ?_) (fun hb => ?_)) <;> conv => whnf) | ((with_reducible first | refine Run.drawX rfl (by decide +kernel) ?_ | refine Run.drawT rfl (by decide +kernel) ?_ | refine Run.drawW rfl (by decide +kernel) ?_); conv => whnf))
  refine Run.holdNil 5 1000 128 3 (fun _ _ => .u) (by rfl) ?_
  refine Run.loop [0, 4] (fun (a : Nat × List Tok) => [(5, .row 1000), (6, .int .i64 (a.1 : Int))]) (fun a => [(1000, tTok.R 128 a.2)])
    (fun a => a.1 ≤ L.length ∧ a.2.length ≤ a.1 ∧ a.2 ++ toks s 0 L a.1 = toks s 0 L 0) (fun a => L.length - a.1) (0, []) ⟨Nat.zero_le _, Nat.zero_le _, rfl⟩ ⟨Le.refl _, Le.refl _, trivial⟩ ⟨⟨rfl, rfl, rfl, fun i j hi => absurd hi (Nat.not_lt_zero _)⟩, trivial⟩ ?_
  intro ⟨i, l⟩ ⟨hi, hl, hc⟩ IH
  simp only at hi hl hc
  show Run _ _ (lst (_ ++ [(5, .row 1000), (6, .int .i64 (i : Int))])) (lstH [(1000, tTok.R 128 l)])
  have hge := tokE_gt L i
  have p3 := fun h => toks_in (s := s) (base := 0) (L := L) (i := i) h
  generalize hk : tokE L i = kn at *
  obtain ⟨k, n⟩ := kn
  simp only at hge p3
  have p1 := hpm i n
  have p2 := hpl n
  refine Run.go ?_; (conv => whnf); repeat' (first | ((with_reducible refine Know.mk fun _ => ?_); conv => whnf) | ((with_reducible refine Need.mk ?_ ?_); exact nd; conv => whnf) | ((with_reducible first | refine Both.mk ?_ ?_ | refine Any.mk fun b hb => ?_ | refine AskB.dec (fun hb => ?_) (fun hb => ?_) | refine AskB.ndec (fun hb => ?_) (fun hb => ?_) | refine AskB.mk (fun hb => ?_) (fun hb => ?_)) <;> conv => whnf) | ((with_reducible first | refine Run.drawX rfl (by decide +kernel) ?_ | refine Run.drawT rfl (by decide +kernel) ?_ | refine Run.drawW rfl (by decide +kernel) ?_); conv => whnf))
  · have hil : i < L.length := by omega
    have hge := hge hil
    have p3 := p3 hil
    have p1 := p1 (by omega)
    unfold posAt at p1 p2 p3
    rw [if_pos hil] at p1 p3
    have back : ∀ (t : Tok) (q : Nat), t = ⟨k, 0 + ((L.getD i cel0).pos : Int), s.extract (L.getD i cel0).pos q⟩ → q = (if n < L.length then (L.getD n cel0).pos else s.size) → (l ++ [t]).length ≤ n ∧ (l ++ [t]) ++ toks s 0 L n = toks s 0 L 0 := fun t q h1 h2 => by
      refine ⟨by simp; omega, ?_⟩
      rw [← hc, p3, h1, h2]; simp
    refine Run.callBX (token49_fn L i hil (by omega)) rfl rfl ⟨Le.refl _, Le.refl _, trivial⟩ rfl rfl rfl ?_
    rw [hk]
    by_cases hn : n < L.length
    · rw [if_pos hn] at p1 p2
      have q1 : (L.getD (↑i : Int).toNat tCel.z).pos ≤ (L.getD (↑n : Int).toNat tCel.z).pos := p1
      have q2 : (L.getD (↑n : Int).toNat tCel.z).pos ≤ s.size := p2
      (conv => whnf); repeat' (first | ((with_reducible refine Know.mk fun _ => ?_); conv => whnf) | ((with_reducible refine Need.mk ?_ ?_); exact nd; conv => whnf) | ((with_reducible first | refine Both.mk ?_ ?_ | refine Any.mk fun b hb => ?_ | refine AskB.dec (fun hb => ?_) (fun hb => ?_) | refine AskB.ndec (fun hb => ?_) (fun hb => ?_) | refine AskB.mk (fun hb => ?_) (fun hb => ?_)) <;> conv => whnf) | ((with_reducible first | refine Run.drawX rfl (by decide +kernel) ?_ | refine Run.drawT rfl (by decide +kernel) ?_ | refine Run.drawW rfl (by decide +kernel) ?_); conv => whnf))
      · refine Run.drawL 16 0 36 rfl (by decide) (by decide +kernel) rfl rfl rfl rfl rfl rfl rfl ?_
        (conv => whnf); repeat' (first | ((with_reducible refine Know.mk fun _ => ?_); conv => whnf) | ((with_reducible refine Need.mk ?_ ?_); exact nd; conv => whnf) | ((with_reducible first | refine Both.mk ?_ ?_ | refine Any.mk fun b hb => ?_ | refine AskB.dec (fun hb => ?_) (fun hb => ?_) | refine AskB.ndec (fun hb => ?_) (fun hb => ?_) | refine AskB.mk (fun hb => ?_) (fun hb => ?_)) <;> conv => whnf) | ((with_reducible first | refine Run.drawX rfl (by decide +kernel) ?_ | refine Run.drawT rfl (by decide +kernel) ?_ | refine Run.drawW rfl (by decide +kernel) ?_); conv => whnf))
        all_goals refine Run.hold (z := 53) 5 1000 (by rfl) (by rfl) (by rfl) ?_
        all_goals obtain ⟨b1, b2⟩ := back _ (L.getD n cel0).pos rfl (by rw [if_pos hn])
        all_goals refine Run.to _ _ ?_ ?_ (IH (n, l ++ [⟨k, 0 + ((L.getD i cel0).pos : Int), s.extract (L.getD i cel0).pos (L.getD n cel0).pos⟩]) (by simp only []; omega) ⟨hge.2, b1, b2⟩)
        all_goals (try (case refine_1 => exact ⟨Le.refl _, Le.refl _, Le.refl _, Le.refl _, trivial⟩))
        all_goals refine ⟨tTok.push 128 l ⟨k, 0 + ((L.getD i cel0).pos : Int), s.extract (L.getD i cel0).pos (L.getD n cel0).pos⟩ _ (fun j hj => ?_), trivial⟩
        all_goals (match j, hj with
          | 0, _ => exact Le.refl _
          | 1, _ => exact Le.int (by rw [Int.zero_add]; rfl)
          | 2, _ => exact Le.refl _)
      · exact absurd hn (by omega)
    · rw [if_neg hn] at p1 p2
      have q1 : (L.getD (↑i : Int).toNat tCel.z).pos ≤ s.size := p1
      (conv => whnf); repeat' (first | ((with_reducible refine Know.mk fun _ => ?_); conv => whnf) | ((with_reducible refine Need.mk ?_ ?_); exact nd; conv => whnf) | ((with_reducible first | refine Both.mk ?_ ?_ | refine Any.mk fun b hb => ?_ | refine AskB.dec (fun hb => ?_) (fun hb => ?_) | refine AskB.ndec (fun hb => ?_) (fun hb => ?_) | refine AskB.mk (fun hb => ?_) (fun hb => ?_)) <;> conv => whnf) | ((with_reducible first | refine Run.drawX rfl (by decide +kernel) ?_ | refine Run.drawT rfl (by decide +kernel) ?_ | refine Run.drawW rfl (by decide +kernel) ?_); conv => whnf))
      · exact absurd hn (by omega)
      · refine Run.drawL 16 0 36 rfl (by decide) (by decide +kernel) rfl rfl rfl rfl rfl rfl rfl ?_
        (conv => whnf); repeat' (first | ((with_reducible refine Know.mk fun _ => ?_); conv => whnf) | ((with_reducible refine Need.mk ?_ ?_); exact nd; conv => whnf) | ((with_reducible first | refine Both.mk ?_ ?_ | refine Any.mk fun b hb => ?_ | refine AskB.dec (fun hb => ?_) (fun hb => ?_) | refine AskB.ndec (fun hb => ?_) (fun hb => ?_) | refine AskB.mk (fun hb => ?_) (fun hb => ?_)) <;> conv => whnf) | ((with_reducible first | refine Run.drawX rfl (by decide +kernel) ?_ | refine Run.drawT rfl (by decide +kernel) ?_ | refine Run.drawW rfl (by decide +kernel) ?_); conv => whnf))
        all_goals refine Run.hold (z := 53) 5 1000 (by rfl) (by rfl) (by rfl) ?_
        all_goals obtain ⟨b1, b2⟩ := back _ s.size rfl (by rw [if_neg hn])
        all_goals refine Run.to _ _ ?_ ?_ (IH (n, l ++ [⟨k, 0 + ((L.getD i cel0).pos : Int), s.extract (L.getD i cel0).pos s.size⟩]) (by simp only []; omega) ⟨hge.2, b1, b2⟩)
        all_goals (try (case refine_1 => exact ⟨Le.refl _, Le.refl _, Le.refl _, Le.refl _, trivial⟩))
        all_goals refine ⟨tTok.push 128 l ⟨k, 0 + ((L.getD i cel0).pos : Int), s.extract (L.getD i cel0).pos s.size⟩ _ (fun j hj => ?_), trivial⟩
        all_goals (match j, hj with
          | 0, _ => exact Le.refl _
          | 1, _ => exact Le.int (by rw [Int.zero_add]; rfl)
          | 2, _ => exact Le.refl _)
  · rw [toks_out (by omega), List.append_nil] at hc
    rw [← hc]
    exact Run.leave (ts := [2,3]) (.inr ⟨_, rfl⟩) rfl Tryd.func88 rfl (resT ⟨Le.refl _, Le.refl _, trivial⟩)
theorem tokens31_fn (s : ByteArray) : Fn Tryd.prog 71 [.str s] (tupL [tTok.L (toksOf s), .int .i64 (codeT s)]) := by
  refine Fn.of Tryd.f71 _ Tryd.func71 rfl (by decide) (by show 1 ≤ _; decide) tbOk 9 rfl fun S w0 gl => ?_
  refine Run.go ?_; (conv => whnf); repeat' (first | ((with_reducible refine Know.mk fun _ => ?_); conv => whnf) | ((with_reducible refine Need.mk ?_ ?_); exact nd; conv => whnf) | ((with_reducible first | refine Both.mk ?_ ?_ | refine Any.mk fun b hb => ?_ | refine AskB.dec (fun hb => ?_) (fun hb => ?_) | refine AskB.ndec (fun hb => ?_) (fun hb => ?_) | refine AskB.mk (fun hb => ?_) (fun hb => ?_)) <;> conv => whnf) | ((with_reducible first | refine Run.drawX rfl (by decide +kernel) ?_ | refine Run.drawT rfl (by decide +kernel) ?_ | refine Run.drawW rfl (by decide +kernel) ?_); conv => whnf))
  · refine Run.leave (ts := [2,3]) (.inr ⟨_, rfl⟩) rfl Tryd.func71 rfl (resT ⟨?_, Le.int ?_, trivial⟩)
    · unfold toksOf; rw [if_pos (by omega)]; exact Le.nils _ _
    · unfold codeT; rw [if_pos (by omega)]
  refine Run.callBX (tokens_fn s 0 (by omega) (by omega) (by omega)) rfl rfl ⟨Le.refl _, Le.refl _, trivial⟩ rfl rfl rfl ?_
  (conv => whnf); repeat' (first | ((with_reducible refine Know.mk fun _ => ?_); conv => whnf) | ((with_reducible refine Need.mk ?_ ?_); exact nd; conv => whnf) | ((with_reducible first | refine Both.mk ?_ ?_ | refine Any.mk fun b hb => ?_ | refine AskB.dec (fun hb => ?_) (fun hb => ?_) | refine AskB.ndec (fun hb => ?_) (fun hb => ?_) | refine AskB.mk (fun hb => ?_) (fun hb => ?_)) <;> conv => whnf) | ((with_reducible first | refine Run.drawX rfl (by decide +kernel) ?_ | refine Run.drawT rfl (by decide +kernel) ?_ | refine Run.drawW rfl (by decide +kernel) ?_); conv => whnf))
  refine Run.leave (ts := [2,3]) (.inr ⟨_, rfl⟩) rfl Tryd.func71 rfl (resT ⟨?_, Le.int ?_, trivial⟩)
  · unfold toksOf; rw [if_neg (by omega)]; exact Le.refl _
  · unfold codeT; rw [if_neg (by omega)]
end Go.Proofs.YtnadacaoehpdnaaDoor.V

namespace Go.Proofs.YtnadacaoehpdnaaDoor.V
set_option linter.unusedVariables false
set_option linter.unusedSimpArgs false
open Go
structure Wrd where
  text : ByteArray
  tail : ByteArray
deriving DecidableEq
def tWrd : Ty Wrd := ⟨2, fun w j => match j with | 0 => .str w.text | _ => .str w.tail, ⟨.empty, .empty⟩⟩
def isW (t : Tok) : Bool := decide (t.kind = 1)
/-- What stands ahead of the first word, and the words. -/
def specW : List Tok → ByteArray × List Wrd
  | [] => (.empty, [])
  | t :: ts => if t.kind = 1 then (.empty, ⟨t.text, (specW ts).1⟩ :: (specW ts).2) else (t.text ++ (specW ts).1, (specW ts).2)
/-- Token by token a text is gone through whole. -/
def Contig (s : ByteArray) : Nat → List Tok → Prop
  | p, [] => p = s.size
  | p, t :: ts => t.at' = p ∧ t.text = s.extract p (p + t.text.size) ∧ p + t.text.size ≤ s.size ∧ Contig s (p + t.text.size) ts
def startsI (ts : List Tok) : List Int := (ts.filter isW).map (·.at')
def endsI (ts : List Tok) : List Int := (ts.filter isW).map (fun t => t.at' + (t.text.size : Int))
/-- Where the first word begins. -/
def nextS (s : ByteArray) (ts : List Tok) : Int := (startsI ts).headD s.size
theorem Contig.next {s : ByteArray} : ∀ {ts : List Tok} {p : Nat}, Contig s p ts → (p : Int) ≤ nextS s ts ∧ nextS s ts ≤ s.size
  | [], p, h => by have : p = s.size := h; simp [nextS, startsI]; omega
  | t :: ts, p, h => by
    obtain ⟨h1, h2, h3, h4⟩ := h
    have ih := Contig.next h4
    unfold nextS startsI at *
    by_cases hk : isW t
    · rw [List.filter_cons_of_pos hk]
      simp only [List.map_cons, List.headD_cons]
      omega
    · rw [List.filter_cons_of_neg hk]
      omega
theorem extract_join (s : ByteArray) (a b c : Nat) (h1 : a ≤ b) (h2 : b ≤ c) : s.extract a b ++ s.extract b c = s.extract a c := by
  rw [ByteArray.extract_append_extract]
  congr 1 <;> omega
theorem extract_nil (s : ByteArray) (a : Nat) : s.extract a a = ByteArray.empty := by
  apply ByteArray.ext
  simp
/-- The words as the program cuts them. -/
def cutW (s : ByteArray) : List Int → List Int → List Wrd
  | a :: st, e :: en => ⟨s.extract a.toNat e.toNat, s.extract e.toNat (st.headD s.size).toNat⟩ :: cutW s st en
  | _, _ => []
theorem specW_cut {s : ByteArray} : ∀ {ts : List Tok} {p : Nat}, Contig s p ts → specW ts = (s.extract p (nextS s ts).toNat, cutW s (startsI ts) (endsI ts))
  | [], p, h => by
    have : p = s.size := h
    simp only [specW, nextS, startsI, endsI, cutW, List.filter_nil, List.map_nil, List.headD_nil]
    rw [this]
    congr 1
    exact (extract_nil s _).symm
  | t :: ts, p, h => by
    obtain ⟨h1, h2, h3, h4⟩ := h
    have ih := specW_cut h4
    have hn := Contig.next h4
    unfold specW
    by_cases hk : t.kind = 1
    · have hw : isW t = true := decide_eq_true hk
      rw [if_pos hk, ih]
      have e1 : nextS s (t :: ts) = t.at' := by unfold nextS startsI; rw [List.filter_cons_of_pos hw]; rfl
      have e2 : startsI (t :: ts) = t.at' :: startsI ts := by unfold startsI; rw [List.filter_cons_of_pos hw]; rfl
      have e3 : endsI (t :: ts) = (t.at' + (t.text.size : Int)) :: endsI ts := by unfold endsI; rw [List.filter_cons_of_pos hw]; rfl
      rw [e1, e2, e3, h1]
      have e4 : ((p : Int)).toNat = p := rfl
      have e5 : ((p : Int) + (t.text.size : Int)).toNat = p + t.text.size := by omega
      simp only [cutW, e4, e5, extract_nil]
      congr 2
      rw [← h2]; rfl
    · have hw : ¬ isW t = true := by unfold isW; simpa using hk
      rw [if_neg hk, ih]
      have e2 : startsI (t :: ts) = startsI ts := by unfold startsI; rw [List.filter_cons_of_neg hw]
      have e3 : endsI (t :: ts) = endsI ts := by unfold endsI; rw [List.filter_cons_of_neg hw]
      have e1 : nextS s (t :: ts) = nextS s ts := by unfold nextS; rw [e2]
      rw [e1, e2, e3]
      congr 1
      show t.text ++ s.extract (p + t.text.size) (nextS s ts).toNat = _
      conv => lhs; arg 1; rw [h2]
      exact extract_join s _ _ _ (by omega) (by omega)
theorem toks_contig (s : ByteArray) (i : Nat) : Contig s (posAt s (cells s 0) i) (toks s 0 (cells s 0) i) := by
  by_cases h : i < (cells s 0).length
  · rw [toks_in h]
    have hg := tokE_gt (cells s 0) i h
    have hm := posAt_mono s i (tokE (cells s 0) i).2 (by omega)
    have hrec := toks_contig s (tokE (cells s 0) i).2
    have hl := posAt_le s (tokE (cells s 0) i).2
    have hsz : (s.extract (posAt s (cells s 0) i) (posAt s (cells s 0) (tokE (cells s 0) i).2)).size = posAt s (cells s 0) (tokE (cells s 0) i).2 - posAt s (cells s 0) i := by simp; omega
    have hq : posAt s (cells s 0) i + (s.extract (posAt s (cells s 0) i) (posAt s (cells s 0) (tokE (cells s 0) i).2)).size = posAt s (cells s 0) (tokE (cells s 0) i).2 := by rw [hsz]; omega
    refine ⟨by simp, ?_, ?_, ?_⟩
    · simp only [hq]
    · simp only [hq]; omega
    · simp only [hq]; exact hrec
  · rw [toks_out h]
    unfold posAt
    rw [if_neg h]; rfl
termination_by (cells s 0).length - i
theorem posAt_zero (s : ByteArray) : posAt s (cells s 0) 0 = 0 := by
  unfold posAt
  by_cases h : 0 < s.size
  · have hp : (cellAt s 0).pos = 0 := by unfold cellAt; split <;> rfl
    rw [cells_in h]; simp [hp]
  · rw [cells_out h]; simp; exact Classical.byContradiction fun hc => h (Nat.pos_of_ne_zero (fun e => hc (by apply ByteArray.ext; apply Array.ext (by simpa using e); intro i h1 h2; simp at h2)))
/-- The document's way: token by token, what is no word is hung to the last word. -/
def absorb : ByteArray × List Wrd → List Tok → ByteArray × List Wrd
  | st, [] => st
  | (ld, ws), t :: ts => if t.kind = 1 then absorb (ld, ws ++ [⟨t.text, .empty⟩]) ts
    else if ws.length = 0 then absorb (ld ++ t.text, ws) ts
    else absorb (ld, ws.set (ws.length - 1) ⟨(ws.getD (ws.length - 1) tWrd.z).text, (ws.getD (ws.length - 1) tWrd.z).tail ++ t.text⟩) ts
theorem absorb_some : ∀ (ts : List Tok) (ld : ByteArray) (ws : List Wrd) (w : Wrd), absorb (ld, ws ++ [w]) ts = (ld, ws ++ ⟨w.text, w.tail ++ (specW ts).1⟩ :: (specW ts).2)
  | [], ld, ws, w => by simp [absorb, specW]
  | t :: ts, ld, ws, w => by
    unfold absorb specW
    by_cases hk : t.kind = 1
    · rw [if_pos hk, if_pos hk, absorb_some ts ld (ws ++ [w])]
      simp
    · rw [if_neg hk, if_neg hk, if_neg (by simp)]
      have e : (ws ++ [w]).length - 1 = ws.length := by simp
      rw [e]
      have e2 : (ws ++ [w]).getD ws.length tWrd.z = w := by simp [List.getD]
      rw [e2, List.set_append_right _ _ (Nat.le_refl _), Nat.sub_self]
      show absorb (ld, ws ++ [⟨w.text, w.tail ++ t.text⟩]) ts = _
      rw [absorb_some ts ld ws]
      simp [ByteArray.append_assoc]
theorem absorb_none : ∀ (ts : List Tok) (ld : ByteArray), absorb (ld, []) ts = (ld ++ (specW ts).1, (specW ts).2)
  | [], ld => by simp [absorb, specW]
  | t :: ts, ld => by
    unfold absorb specW
    by_cases hk : t.kind = 1
    · rw [if_pos hk, if_pos hk]
      have := absorb_some ts ld [] ⟨t.text, .empty⟩
      rw [this]; simp
    · rw [if_neg hk, if_neg hk, if_pos (show ([] : List Wrd).length = 0 from rfl), absorb_none ts]
      simp [ByteArray.append_assoc]
theorem absorb_spec (ts : List Tok) : absorb (.empty, []) ts = specW ts := by rw [absorb_none]; simp
theorem toks_small (s : ByteArray) (L : List Cel) (i : Nat) : (toks s 0 L i).length ≤ L.length - i ∧ ∀ t ∈ toks s 0 L i, t.text.size ≤ s.size := by
  by_cases h : i < L.length
  · have hg := tokE_gt L i h
    obtain ⟨h1, h2⟩ := toks_small s L (tokE L i).2
    rw [toks_in h]
    refine ⟨by rw [List.length_cons]; omega, fun t ht => ?_⟩
    rcases List.mem_cons.mp ht with e | ht
    · rw [e]; simp; omega
    · exact h2 t ht
  · rw [toks_out h]; simp
termination_by L.length - i
theorem startsI_len (ts : List Tok) : (startsI ts).length ≤ ts.length ∧ (endsI ts).length = (startsI ts).length := by
  unfold startsI endsI
  exact ⟨by rw [List.length_map]; exact List.length_filter_le _ _, by simp⟩
theorem startsI_take (T : List Tok) (i : Nat) (h : i < T.length) :
    startsI (T.take (i + 1)) = startsI (T.take i) ++ (if (T.getD i tTok.z).kind = 1 then [(T.getD i tTok.z).at'] else []) ∧
    endsI (T.take (i + 1)) = endsI (T.take i) ++ (if (T.getD i tTok.z).kind = 1 then [(T.getD i tTok.z).at' + ((T.getD i tTok.z).text.size : Int)] else []) := by
  have e : T.getD i tTok.z = T[i] := by rw [List.getD, List.getElem?_eq_getElem h, Option.getD_some]
  rw [e, List.take_succ_eq_append_getElem h]
  unfold startsI endsI
  rw [List.filter_append, List.map_append, List.map_append]
  by_cases hk : T[i].kind = 1
  · have hw : isW T[i] = true := decide_eq_true hk
    rw [if_pos hk, if_pos hk, List.filter_cons_of_pos hw]; exact ⟨rfl, rfl⟩
  · have hw : ¬ isW T[i] = true := by unfold isW; simpa using hk
    rw [if_neg hk, if_neg hk, List.filter_cons_of_neg hw]; exact ⟨rfl, rfl⟩
theorem Contig.mem {s : ByteArray} : ∀ {ts : List Tok} {p : Nat}, Contig s p ts → ∀ t ∈ ts, (p : Int) ≤ t.at' ∧ t.at' + (t.text.size : Int) ≤ s.size
  | [], p, h, t, ht => absurd ht (by simp)
  | u :: ts, p, h, t, ht => by
    obtain ⟨h1, h2, h3, h4⟩ := h
    rcases List.mem_cons.mp ht with e | ht
    · rw [e]; omega
    · have := Contig.mem h4 t ht; omega
theorem Contig.sorted {s : ByteArray} : ∀ {ts : List Tok} {p : Nat}, Contig s p ts → ∀ i, i < (startsI ts).length →
    (p : Int) ≤ (startsI ts).getD i 0 ∧ (startsI ts).getD i 0 ≤ (endsI ts).getD i 0 ∧ (endsI ts).getD i 0 ≤ (startsI ts ++ [(s.size : Int)]).getD (i + 1) 0 ∧ (startsI ts ++ [(s.size : Int)]).getD (i + 1) 0 ≤ s.size
  | [], p, h, i, hi => absurd hi (by simp [startsI])
  | t :: ts, p, h, i, hi => by
    obtain ⟨h1, h2, h3, h4⟩ := h
    have hn := Contig.next h4
    by_cases hk : t.kind = 1
    · have hw : isW t = true := decide_eq_true hk
      have e2 : startsI (t :: ts) = t.at' :: startsI ts := by unfold startsI; rw [List.filter_cons_of_pos hw]; rfl
      have e3 : endsI (t :: ts) = (t.at' + (t.text.size : Int)) :: endsI ts := by unfold endsI; rw [List.filter_cons_of_pos hw]; rfl
      rw [e2] at hi ⊢
      rw [e3]
      cases i with
      | zero =>
        have : (t.at' :: startsI ts ++ [(s.size : Int)]).getD (0 + 1) 0 = nextS s ts := by
          unfold nextS
          cases startsI ts <;> rfl
        rw [this]
        simp only [List.getD_cons_zero]
        omega
      | succ i =>
        have ih := Contig.sorted h4 i (by simpa using hi)
        simp only [List.cons_append, List.getD_cons_succ]
        omega
    · have hw : ¬ isW t = true := by unfold isW; simpa using hk
      have e2 : startsI (t :: ts) = startsI ts := by unfold startsI; rw [List.filter_cons_of_neg hw]
      have e3 : endsI (t :: ts) = endsI ts := by unfold endsI; rw [List.filter_cons_of_neg hw]
      rw [e2] at hi ⊢
      rw [e3]
      have ih := Contig.sorted h4 i hi
      omega
theorem cutW_len (s : ByteArray) : ∀ (st en : List Int), en.length = st.length → (cutW s st en).length = st.length
  | [], _, _ => by unfold cutW; rfl
  | a :: st, [], h => absurd h (by simp)
  | a :: st, e :: en, h => by unfold cutW; rw [List.length_cons, cutW_len s st en (by simpa using h), List.length_cons]
theorem cutW_get (s : ByteArray) : ∀ (st en : List Int) (i : Nat), en.length = st.length → i < st.length →
    (cutW s st en).getD i tWrd.z = ⟨s.extract (st.getD i 0).toNat (en.getD i 0).toNat, s.extract (en.getD i 0).toNat ((st ++ [(s.size : Int)]).getD (i + 1) 0).toNat⟩
  | [], _, _, _, h => absurd h (by simp)
  | a :: st, [], _, h, _ => absurd h (by simp)
  | a :: st, e :: en, 0, h, hi => by
    unfold cutW
    simp only [List.getD_cons_zero]
    congr 2
    cases st <;> rfl
  | a :: st, e :: en, i + 1, h, hi => by
    unfold cutW
    simp only [List.getD_cons_succ, List.cons_append]
    exact cutW_get s st en i (by simpa using h) (by simpa using hi)
/-- The first i of a list, the others still empty. -/
def part {α : Type} (l : List α) (z : α) (i : Nat) : List α := l.take i ++ List.replicate (l.length - i) z
theorem part_len {α : Type} (l : List α) (z : α) (i : Nat) (h : i ≤ l.length) : (part l z i).length = l.length := by simp [part]; omega
theorem part_set {α : Type} (l : List α) (z : α) (i : Nat) (h : i < l.length) : (part l z i).set i (l.getD i z) = part l z (i + 1) := by
  unfold part
  refine List.ext_getElem (by simp; omega) fun j h1 h2 => ?_
  rw [List.getElem_set]
  by_cases e : i = j
  · subst e
    rw [if_pos rfl, List.getElem_append_left (by simp; omega)]
    simp [List.getD, h]
  · rw [if_neg e]
    rcases Nat.lt_or_ge j i with h3 | h3
    · rw [List.getElem_append_left (by simp; omega), List.getElem_append_left (by simp; omega)]; simp
    · rw [List.getElem_append_right (by simp; omega), List.getElem_append_right (by simp; omega)]; simp
theorem part_all {α : Type} (l : List α) (z : α) : part l z l.length = l := by simp [part]
theorem part_none {α : Type} (l : List α) (z : α) : part l z 0 = List.replicate l.length z := by simp [part]
end Go.Proofs.YtnadacaoehpdnaaDoor.V

namespace Go.Proofs.YtnadacaoehpdnaaDoor.V
set_option linter.unusedVariables false
set_option linter.unusedSimpArgs false
open Go Go.Proofs Go.RowKit
set_option maxRecDepth 100000
set_option maxHeartbeats 2000000
open Go Go.Proofs Go.Proofs.YtnadacaoehpdnaaDoor.V
/-- What stands ahead, the words, the refusal. -/
noncomputable def wordsOf (s : ByteArray) : (ByteArray × List Wrd) × Int := if 65536 < s.size then ((.empty, []), 1) else if 1024 < (specW (toksOf s)).2.length then ((.empty, []), 1) else (specW (toksOf s), 0)
noncomputable def wordsL (s : ByteArray) : AV := tupL [.str (wordsOf s).1.1, tWrd.L (wordsOf s).1.2, .int .i64 (wordsOf s).2]
theorem wordsOf_long {s : ByteArray} (h : 65536 < s.size) : wordsOf s = ((.empty, []), 1) := by unfold wordsOf; rw [if_pos h]
theorem wordsOf_many {s : ByteArray} (h : ¬ 65536 < s.size) (h2 : 1024 < (specW (toksOf s)).2.length) : wordsOf s = ((.empty, []), 1) := by unfold wordsOf; rw [if_neg h, if_pos h2]
theorem wordsOf_fit {s : ByteArray} (h : ¬ 65536 < s.size) (h2 : ¬ 1024 < (specW (toksOf s)).2.length) : wordsOf s = (specW (toksOf s), 0) := by unfold wordsOf; rw [if_neg h, if_neg h2]
theorem words16_fn (s : ByteArray) : Fn Tryd.prog 67 [.str s] (wordsL s) := by
  refine Fn.of Tryd.f67 _ Tryd.func67 rfl (by decide) (by show 1 ≤ _; decide) tbOk 71 rfl fun S w0 gl => ?_
  refine Run.go ?_; (conv => whnf); repeat' (first | ((with_reducible refine Know.mk fun _ => ?_); conv => whnf) | ((with_reducible refine Need.mk ?_ ?_); exact nd; conv => whnf) | ((with_reducible first | refine Both.mk ?_ ?_ | refine Any.mk fun b hb => ?_ | refine AskB.dec (fun hb => ?_) (fun hb => ?_) | refine AskB.ndec (fun hb => ?_) (fun hb => ?_) | refine AskB.mk (fun hb => ?_) (fun hb => ?_)) <;> conv => whnf) | ((with_reducible first | refine Run.drawX rfl (by decide +kernel) ?_ | refine Run.drawT rfl (by decide +kernel) ?_ | refine Run.drawW rfl (by decide +kernel) ?_); conv => whnf))
  refine Run.callBX (tokens32_fn s) rfl rfl ⟨Le.refl _, trivial⟩ rfl rfl rfl ?_
  by_cases hbig : 65536 < s.size
  · have hc : codeT s = 1 := by unfold codeT; rw [if_pos hbig]
    rw [hc]
    (conv => whnf); repeat' (first | ((with_reducible refine Know.mk fun _ => ?_); conv => whnf) | ((with_reducible refine Need.mk ?_ ?_); exact nd; conv => whnf) | ((with_reducible first | refine Both.mk ?_ ?_ | refine Any.mk fun b hb => ?_ | refine AskB.dec (fun hb => ?_) (fun hb => ?_) | refine AskB.ndec (fun hb => ?_) (fun hb => ?_) | refine AskB.mk (fun hb => ?_) (fun hb => ?_)) <;> conv => whnf) | ((with_reducible first | refine Run.drawX rfl (by decide +kernel) ?_ | refine Run.drawT rfl (by decide +kernel) ?_ | refine Run.drawW rfl (by decide +kernel) ?_); conv => whnf))
    · exact absurd hb (by decide)
    · rw [show wordsL s = tupL [.str .empty, tWrd.L [], .int .i64 1] by unfold wordsL; rw [wordsOf_long hbig]]
      exact Run.leave (ts := [2,3,4]) (.inr ⟨_, rfl⟩) rfl Tryd.func67 rfl (resT ⟨Le.refl _, Le.nils _ _, Le.refl _, trivial⟩)
  have hc : codeT s = 0 := by unfold codeT; rw [if_neg hbig]
  have hT0 : toksOf s = toks s 0 (cells s 0) 0 := by unfold toksOf; rw [if_neg hbig]
  obtain ⟨hTl, hTs⟩ := toks_small s (cells s 0) 0
  rw [← hT0] at hTl hTs
  have hcl := cells_len s 0
  have hf := wordsOf_fit (s := s) hbig
  have hm := wordsOf_many (s := s) hbig
  rw [hc]
  generalize hT : toksOf s = T at *
  rw [← absorb_spec] at hf hm
  (conv => whnf); repeat' (first | ((with_reducible refine Know.mk fun _ => ?_); conv => whnf) | ((with_reducible refine Need.mk ?_ ?_); exact nd; conv => whnf) | ((with_reducible first | refine Both.mk ?_ ?_ | refine Any.mk fun b hb => ?_ | refine AskB.dec (fun hb => ?_) (fun hb => ?_) | refine AskB.ndec (fun hb => ?_) (fun hb => ?_) | refine AskB.mk (fun hb => ?_) (fun hb => ?_)) <;> conv => whnf) | ((with_reducible first | refine Run.drawX rfl (by decide +kernel) ?_ | refine Run.drawT rfl (by decide +kernel) ?_ | refine Run.drawW rfl (by decide +kernel) ?_); conv => whnf))
  · refine Run.holdNil 8 1000 40 2 (fun _ _ => .u) (by rfl) ?_
    refine Run.loop [5] (fun (a : Nat × ByteArray × List Wrd) => [(7, .str a.2.1), (8, .row 1000), (9, .int .i64 (a.1 : Int))]) (fun a => [(1000, tWrd.R 40 a.2.2)])
      (fun a => a.1 ≤ T.length ∧ a.2.2.length ≤ a.1 ∧ a.2.1.size ≤ 65536 * a.1 ∧ (∀ w ∈ a.2.2, w.tail.size ≤ 65536 * a.1) ∧ absorb a.2 (T.drop a.1) = absorb (.empty, []) T) (fun a => T.length - a.1) (0, .empty, []) ⟨Nat.zero_le _, Nat.zero_le _, by simp, by simp, rfl⟩ ⟨Le.refl _, Le.refl _, Le.refl _, trivial⟩ ⟨⟨rfl, rfl, rfl, fun i j hi => absurd hi (Nat.not_lt_zero _)⟩, trivial⟩ ?_
    intro ⟨i, ld, ws⟩ ⟨hi, hw, hld, htl, hab⟩ IH
    simp only at hi hw hld htl hab
    show Run _ _ (lst (_ ++ [(7, .str ld), (8, .row 1000), (9, .int .i64 (i : Int))])) (lstH [(1000, tWrd.R 40 ws)])
    have gm : ∀ {α : Type} (l : List α) (j : Nat) (z : α), j < l.length → l.getD j z ∈ l := fun l j z h => by rw [List.getD, List.getElem?_eq_getElem h]; exact List.getElem_mem h
    have hts : i < T.length → (T.getD (↑i : Int).toNat tTok.z).text.size ≤ s.size := fun h => hTs _ (gm T i _ h)
    have hwl : 0 < ws.length → IntKind.i64.wrap (↑ws.length - 1) = ((ws.length - 1 : Nat) : Int) := fun h => (wrap64 (by omega) (by omega)).trans (by omega)
    have hlast : 0 < ws.length → (ws.getD (IntKind.i64.wrap (↑ws.length - 1)).toNat tWrd.z).tail.size ≤ 65536 * i := fun h => by
      rw [hwl h]
      exact htl _ (gm ws (ws.length - 1) _ (by omega))
    have hdrop : i < T.length → T.drop i = T.getD i tTok.z :: T.drop (i + 1) := fun h => by rw [List.drop_eq_getElem_cons h, List.getD, List.getElem?_eq_getElem h, Option.getD_some]
    have hw1 : IntKind.i64.wrap ((i : Int) + 1) = ((i + 1 : Nat) : Int) := wrap64 (by omega) (by omega)
    refine Run.go ?_; (conv => whnf); repeat' (first | ((with_reducible refine Know.mk fun _ => ?_); conv => whnf) | ((with_reducible refine Need.mk ?_ ?_); exact nd; conv => whnf) | ((with_reducible first | refine Both.mk ?_ ?_ | refine Any.mk fun b hb => ?_ | refine AskB.dec (fun hb => ?_) (fun hb => ?_) | refine AskB.ndec (fun hb => ?_) (fun hb => ?_) | refine AskB.mk (fun hb => ?_) (fun hb => ?_)) <;> conv => whnf) | ((with_reducible first | refine Run.drawX rfl (by decide +kernel) ?_ | refine Run.drawT rfl (by decide +kernel) ?_ | refine Run.drawW rfl (by decide +kernel) ?_); conv => whnf))
    · have hil : i < T.length := by omega
      have hk : (T.getD i tTok.z).kind = 1 := by assumption
      refine Run.hold (z := 54) 8 1000 (by rfl) (by rfl) (by rfl) ?_
      refine Run.to _ _ ?_ ?_ (IH (i + 1, ld, ws ++ [⟨(T.getD i tTok.z).text, .empty⟩]) (by simp only []; omega) ⟨by simp only []; omega, by simp; omega, by simp only []; omega, ?_, ?_⟩)
      · exact ⟨Le.refl _, Le.refl _, Le.refl _, Le.int hw1, trivial⟩
      · refine ⟨tWrd.push 40 ws ⟨(T.getD i tTok.z).text, .empty⟩ _ (fun j hj => ?_), trivial⟩
        match j, hj with
        | 0, _ => exact Le.refl _
        | 1, _ => exact Le.refl _
      · intro w hwm
        rcases List.mem_append.mp hwm with h | h
        · have := htl w h; simp only []; omega
        · rw [List.mem_singleton.mp h]; simp
      · rw [← hab, hdrop hil]
        simp only []
        rw [absorb, if_pos hk]
    · have hil : i < T.length := by omega
      have hk : ¬ (T.getD i tTok.z).kind = 1 := by assumption
      have hw0 : ws.length = 0 := by omega
      have ht1 := hts hil
      refine Run.to _ _ ?_ ?_ (IH (i + 1, ld ++ (T.getD i tTok.z).text, ws) (by simp only []; omega) ⟨by simp only []; omega, by simp only []; omega, ?_, ?_, ?_⟩)
      · exact ⟨Le.refl _, Le.refl _, Le.refl _, Le.int hw1, trivial⟩
      · exact ⟨MOle.refl _, trivial⟩
      · simp only [ByteArray.size_append]
        show ld.size + (T.getD (↑i : Int).toNat tTok.z).text.size ≤ _
        omega
      · intro w hwm
        have := htl w hwm; simp only []; omega
      · rw [← hab, hdrop hil]
        simp only []
        rw [absorb, if_neg hk, if_pos hw0]
    · have hil : i < T.length := by omega
      have hk : ¬ (T.getD i tTok.z).kind = 1 := by assumption
      have hw0 : ¬ ws.length = 0 := by omega
      have ht1 := hts hil
      have hw2 := hwl (by omega)
      have hl2 := hlast (by omega)
      refine Run.to _ _ ?_ ?_ (IH (i + 1, ld, ws.set (ws.length - 1) ⟨(ws.getD (ws.length - 1) tWrd.z).text, (ws.getD (ws.length - 1) tWrd.z).tail ++ (T.getD i tTok.z).text⟩) (by simp only []; omega) ⟨by simp only []; omega, by simp only [List.length_set]; omega, by simp only []; omega, ?_, ?_⟩)
      · exact ⟨Le.refl _, Le.refl _, Le.refl _, Le.int hw1, trivial⟩
      · refine ⟨tWrd.setAt 40 ws (ws.length - 1) _ 1 _ ⟨(ws.getD (ws.length - 1) tWrd.z).text, (ws.getD (ws.length - 1) tWrd.z).tail ++ (T.getD i tTok.z).text⟩ (by omega) (by rw [hw2]; rfl) rfl _ (fun j y hy => ?_) (fun j hj ho => ?_), trivial⟩
        · match j, hy with
          | 0, hy =>
            injection hy with hy
            rw [← hy, hw2]; exact Le.refl _
        · match j, hj with
          | 0, _ => exact Le.refl _
          | 1, _ => exact absurd ho (by simp)
      · intro w hwm
        rcases List.mem_or_eq_of_mem_set hwm with h | h
        · have := htl w h; simp only []; omega
        · rw [h]
          simp only [ByteArray.size_append]
          rw [hw2] at hl2
          have hl3 : (ws.getD (ws.length - 1) tWrd.z).tail.size ≤ 65536 * i := hl2
          have ht3 : (T.getD i tTok.z).text.size ≤ s.size := ht1
          omega
      · rw [← hab, hdrop hil]
        simp only []
        rw [absorb, if_neg hk, if_neg hw0]
    all_goals have hie : i = T.length := by omega
    all_goals subst hie
    all_goals rw [List.drop_length] at hab
    all_goals have hab : (ld, ws) = absorb (.empty, []) T := by rw [← hab]; rfl
    all_goals rw [← hab] at hf hm
    · rw [show wordsL s = tupL [.str .empty, tWrd.L [], .int .i64 1] by unfold wordsL; rw [hm (by simp only []; omega)]]
      exact Run.leave (ts := [2,3,4]) (.inr ⟨_, rfl⟩) rfl Tryd.func67 rfl (resT ⟨Le.refl _, Le.nils _ _, Le.refl _, trivial⟩)
    · rw [show wordsL s = tupL [.str ld, tWrd.L ws, .int .i64 0] by unfold wordsL; rw [hf (by simp only []; omega)]]
      exact Run.leave (ts := [2,3,4]) (.inr ⟨_, rfl⟩) rfl Tryd.func67 rfl (resT ⟨Le.refl _, Le.refl _, Le.refl _, trivial⟩)
  · exact absurd rfl hb
theorem words15_fn (s : ByteArray) : Fn Tryd.prog 55 [.str s] (wordsL s) := by
  refine Fn.of Tryd.f55 _ Tryd.func55 rfl (by decide) (by show 1 ≤ _; decide) tbOk 93 rfl fun S w0 gl => ?_
  refine Run.go ?_; (conv => whnf); repeat' (first | ((with_reducible refine Know.mk fun _ => ?_); conv => whnf) | ((with_reducible refine Need.mk ?_ ?_); exact nd; conv => whnf) | ((with_reducible first | refine Both.mk ?_ ?_ | refine Any.mk fun b hb => ?_ | refine AskB.dec (fun hb => ?_) (fun hb => ?_) | refine AskB.ndec (fun hb => ?_) (fun hb => ?_) | refine AskB.mk (fun hb => ?_) (fun hb => ?_)) <;> conv => whnf) | ((with_reducible first | refine Run.drawX rfl (by decide +kernel) ?_ | refine Run.drawT rfl (by decide +kernel) ?_ | refine Run.drawW rfl (by decide +kernel) ?_); conv => whnf))
  refine Run.callBX (tokens31_fn s) rfl rfl ⟨Le.refl _, trivial⟩ rfl rfl rfl ?_
  by_cases hbig : 65536 < s.size
  · have hc : codeT s = 1 := by unfold codeT; rw [if_pos hbig]
    rw [hc]
    (conv => whnf); repeat' (first | ((with_reducible refine Know.mk fun _ => ?_); conv => whnf) | ((with_reducible refine Need.mk ?_ ?_); exact nd; conv => whnf) | ((with_reducible first | refine Both.mk ?_ ?_ | refine Any.mk fun b hb => ?_ | refine AskB.dec (fun hb => ?_) (fun hb => ?_) | refine AskB.ndec (fun hb => ?_) (fun hb => ?_) | refine AskB.mk (fun hb => ?_) (fun hb => ?_)) <;> conv => whnf) | ((with_reducible first | refine Run.drawX rfl (by decide +kernel) ?_ | refine Run.drawT rfl (by decide +kernel) ?_ | refine Run.drawW rfl (by decide +kernel) ?_); conv => whnf))
    · exact absurd hb (by decide)
    · rw [show wordsL s = tupL [.str .empty, tWrd.L [], .int .i64 1] by unfold wordsL; rw [wordsOf_long hbig]]
      exact Run.leave (ts := [2,3,4]) (.inr ⟨_, rfl⟩) rfl Tryd.func55 rfl (resT ⟨Le.refl _, Le.nils _ _, Le.refl _, trivial⟩)
  have hc : codeT s = 0 := by unfold codeT; rw [if_neg hbig]
  have hT0 : toksOf s = toks s 0 (cells s 0) 0 := by unfold toksOf; rw [if_neg hbig]
  obtain ⟨hTl, hTs⟩ := toks_small s (cells s 0) 0
  have hcg := toks_contig s 0
  rw [← hT0] at hTl hTs hcg
  rw [posAt_zero] at hcg
  have hcl := cells_len s 0
  have hf := wordsOf_fit (s := s) hbig
  have hm := wordsOf_many (s := s) hbig
  rw [hc]
  generalize hT : toksOf s = T at *
  rw [specW_cut hcg] at hf hm
  (conv => whnf); repeat' (first | ((with_reducible refine Know.mk fun _ => ?_); conv => whnf) | ((with_reducible refine Need.mk ?_ ?_); exact nd; conv => whnf) | ((with_reducible first | refine Both.mk ?_ ?_ | refine Any.mk fun b hb => ?_ | refine AskB.dec (fun hb => ?_) (fun hb => ?_) | refine AskB.ndec (fun hb => ?_) (fun hb => ?_) | refine AskB.mk (fun hb => ?_) (fun hb => ?_)) <;> conv => whnf) | ((with_reducible first | refine Run.drawX rfl (by decide +kernel) ?_ | refine Run.drawT rfl (by decide +kernel) ?_ | refine Run.drawW rfl (by decide +kernel) ?_); conv => whnf))
  · refine Run.holdNil 7 1000 3 1 (fun _ _ => .u) (by rfl) ?_
    refine Run.holdNil 8 1001 3 1 (fun _ _ => .u) (by rfl) ?_
    refine Run.loop [0, 21, 22] (fun (i : Nat) => [(7, .row 1000), (8, .row 1001), (23, .int .i64 (i : Int))]) (fun i => [(1000, tI.R 3 (startsI (T.take i))), (1001, tI.R 3 (endsI (T.take i)))])
      (fun i => i ≤ T.length) (fun i => T.length - i) 0 (Nat.zero_le _) ⟨Le.refl _, Le.refl _, Le.refl _, trivial⟩ ⟨⟨rfl, rfl, rfl, fun i j hi => absurd hi (Nat.not_lt_zero _)⟩, ⟨rfl, rfl, rfl, fun i j hi => absurd hi (Nat.not_lt_zero _)⟩, trivial⟩ ?_
    intro i hi IH
    have hle := startsI_len (T.take i)
    rw [List.length_take] at hle
    have hat : i < T.length → (T.getD (↑i : Int).toNat tTok.z).at' = (T.getD i tTok.z).at' ∧ 0 ≤ (T.getD i tTok.z).at' ∧ (T.getD i tTok.z).at' + ((T.getD i tTok.z).text.size : Int) ≤ s.size := fun h => ⟨rfl, by
      have := hcg.mem (T.getD i tTok.z) (by rw [List.getD, List.getElem?_eq_getElem h]; exact List.getElem_mem h)
      omega⟩
    have hstk := fun h => startsI_take T i h
    have hw1 : IntKind.i64.wrap ((i : Int) + 1) = ((i + 1 : Nat) : Int) := wrap64 (by omega) (by omega)
    refine Run.go ?_; (conv => whnf); repeat' (first | ((with_reducible refine Know.mk fun _ => ?_); conv => whnf) | ((with_reducible refine Need.mk ?_ ?_); exact nd; conv => whnf) | ((with_reducible first | refine Both.mk ?_ ?_ | refine Any.mk fun b hb => ?_ | refine AskB.dec (fun hb => ?_) (fun hb => ?_) | refine AskB.ndec (fun hb => ?_) (fun hb => ?_) | refine AskB.mk (fun hb => ?_) (fun hb => ?_)) <;> conv => whnf) | ((with_reducible first | refine Run.drawX rfl (by decide +kernel) ?_ | refine Run.drawT rfl (by decide +kernel) ?_ | refine Run.drawW rfl (by decide +kernel) ?_); conv => whnf))
    · have hil : i < T.length := by omega
      have hk : (T.getD i tTok.z).kind = 1 := by assumption
      obtain ⟨a1, a2, a3⟩ := hat hil
      obtain ⟨t1, t2⟩ := hstk hil
      rw [if_pos hk] at t1 t2
      refine Run.hold (z := 34) 7 1000 (by rfl) (by rfl) (by rfl) ?_
      refine Run.hold (z := 43) 8 1001 (by rfl) (by rfl) (by rfl) ?_
      refine Run.to _ _ ?_ ?_ (IH (i + 1) (by omega) (by omega))
      · exact ⟨Le.refl _, Le.refl _, Le.refl _, Le.refl _, Le.refl _, Le.int hw1, trivial⟩
      · refine ⟨?_, ?_, trivial⟩
        · rw [t1]
          refine tI.push 3 _ _ _ (fun j hj => ?_)
          match j, hj with
          | 0, _ => exact Le.refl _
        · rw [t2]
          refine tI.push 3 _ _ _ (fun j hj => ?_)
          match j, hj with
          | 0, _ => exact Le.int (wrap64 (x := (T.getD i tTok.z).at' + ((T.getD i tTok.z).text.size : Int)) (by omega) (by omega))
    · have hil : i < T.length := by omega
      have hk : ¬ (T.getD i tTok.z).kind = 1 := by assumption
      obtain ⟨t1, t2⟩ := hstk hil
      rw [if_neg hk, List.append_nil] at t1 t2
      refine Run.to _ _ ?_ ?_ (IH (i + 1) (by omega) (by omega))
      · exact ⟨Le.refl _, Le.refl _, Le.refl _, Le.refl _, Le.refl _, Le.int hw1, trivial⟩
      · refine ⟨?_, ?_, trivial⟩
        · rw [t1]; exact MOle.refl _
        · rw [t2]; exact MOle.refl _
    all_goals have hie : i = T.length := by omega
    all_goals subst hie
    all_goals rw [List.take_length] at *
    all_goals have hcw := cutW_len s (startsI T) (endsI T) hle.2
    · rw [show wordsL s = tupL [.str .empty, tWrd.L [], .int .i64 1] by unfold wordsL; rw [hm (by simp only []; omega)]]
      exact Run.leave (ts := [2,3,4]) (.inr ⟨_, rfl⟩) rfl Tryd.func55 rfl (resT ⟨Le.refl _, Le.nils _ _, Le.refl _, trivial⟩)
    rw [show wordsL s = tupL [.str (s.extract 0 (nextS s T).toNat), tWrd.L (cutW s (startsI T) (endsI T)), .int .i64 0] by unfold wordsL; rw [hf (by simp only []; omega)]]
    have hso := hcg.sorted
    have hnx := hcg.next
    have hnx0 : (startsI T ++ [(s.size : Int)]).getD 0 0 = nextS s T := by unfold nextS; cases startsI T <;> rfl
    have hcg2 := cutW_get s (startsI T) (endsI T)
    have hnx1 : 0 ≤ (startsI T ++ [(s.size : Int)]).getD (Int.toNat 0) tI.z ∧ (startsI T ++ [(s.size : Int)]).getD (Int.toNat 0) tI.z ≤ s.size := by
      rw [show (startsI T ++ [(s.size : Int)]).getD (Int.toNat 0) tI.z = nextS s T from hnx0]; omega
    generalize startsI T = st at *
    generalize endsI T = en at *
    generalize cutW s st en = W at *
    clear hf hm hstk
    refine Run.hold (z := 52) 7 1000 (by rfl) (by rfl) (by rfl) ?_
    refine Run.loop [0, 7, 8, 11, 57] (fun (i : Nat) => [(58, .int .i64 (i : Int))]) (fun i => [(55, tWrd.R 40 (part W tWrd.z i)), (1000, tI.R 3 (st ++ [(s.size : Int)])), (1001, tI.R 3 en)])
      (fun i => i ≤ st.length) (fun i => st.length - i) 0 (Nat.zero_le _) ⟨Le.refl _, trivial⟩ ⟨?_, ?_, MOle.refl _, trivial⟩ ?_
    · refine ⟨rfl, rfl, by rw [part_len _ _ _ (Nat.zero_le _)]; omega, fun i j hi hj => ?_⟩
      unfold Ty.G
      have hiW : i < W.length := by omega
      rw [part_none, show (List.replicate W.length tWrd.z).getD i tWrd.z = tWrd.z by simp [List.getD, hiW]]
      match j, hj with
      | 0, _ => exact Le.refl _
      | 1, _ => exact Le.refl _
    · refine tI.push 3 _ _ _ (fun j hj => ?_)
      match j, hj with
      | 0, _ => exact Le.refl _
    intro i hi2 IH2
    have hpl := part_len W tWrd.z i (by omega)
    have hw2 : IntKind.i64.wrap ((i : Int) + 1) = ((i + 1 : Nat) : Int) := wrap64 (by omega) (by omega)
    have ha1 : i < st.length → (st ++ [(s.size : Int)]).getD i 0 = st.getD i 0 := fun h => by simp [List.getD, List.getElem?_append_left h]
    have hb1 : i < st.length → 0 ≤ (st ++ [(s.size : Int)]).getD (↑i : Int).toNat tI.z ∧ (st ++ [(s.size : Int)]).getD (↑i : Int).toNat tI.z ≤ en.getD (↑i : Int).toNat tI.z ∧ en.getD (↑i : Int).toNat tI.z ≤ (st ++ [(s.size : Int)]).getD (IntKind.i64.wrap (↑i + 1)).toNat tI.z ∧ (st ++ [(s.size : Int)]).getD (IntKind.i64.wrap (↑i + 1)).toNat tI.z ≤ s.size := fun h => by
      obtain ⟨q1, q2, q3, q4⟩ := hso i h
      rw [hw2]
      refine ⟨?_, ?_, q3, q4⟩
      · show 0 ≤ (st ++ [(s.size : Int)]).getD i 0
        rw [ha1 h]; exact q1
      · show (st ++ [(s.size : Int)]).getD i 0 ≤ _
        rw [ha1 h]; exact q2
    have hsl : (st ++ [(s.size : Int)]).length = st.length + 1 := by simp
    refine Run.go ?_; (conv => whnf); repeat' (first | ((with_reducible refine Know.mk fun _ => ?_); conv => whnf) | ((with_reducible refine Need.mk ?_ ?_); exact nd; conv => whnf) | ((with_reducible first | refine Both.mk ?_ ?_ | refine Any.mk fun b hb => ?_ | refine AskB.dec (fun hb => ?_) (fun hb => ?_) | refine AskB.ndec (fun hb => ?_) (fun hb => ?_) | refine AskB.mk (fun hb => ?_) (fun hb => ?_)) <;> conv => whnf) | ((with_reducible first | refine Run.drawX rfl (by decide +kernel) ?_ | refine Run.drawT rfl (by decide +kernel) ?_ | refine Run.drawW rfl (by decide +kernel) ?_); conv => whnf))
    · have hil : i < st.length := by omega
      refine Run.to _ _ ?_ ?_ (IH2 (i + 1) (by omega) (by omega))
      · exact ⟨Le.refl _, Le.refl _, Le.refl _, Le.refl _, Le.refl _, Le.int hw2, trivial⟩
      · refine ⟨?_, MOle.refl _, MOle.refl _, trivial⟩
        rw [← part_set W tWrd.z i (by omega)]
        refine tWrd.set 40 (part W tWrd.z i) i (W.getD i tWrd.z) (by omega) _ rfl (fun j y hy => ?_)
        rw [hcg2 i hle.2 hil]
        match j, hy with
        | 0, hy =>
          injection hy with hy
          rw [← hy]
          exact Le.str (by
            show s.extract ((st ++ [(s.size : Int)]).getD i 0).toNat (en.getD i 0).toNat = _
            rw [ha1 hil])
        | 1, hy =>
          injection hy with hy
          rw [← hy]
          exact Le.str (by
            show s.extract (en.getD i 0).toNat ((st ++ [(s.size : Int)]).getD (IntKind.i64.wrap (↑i + 1)).toNat 0).toNat = _
            rw [hw2]; rfl)
    · have hie : i = W.length := by omega
      rw [hie, part_all]
      exact Run.leave (ts := [2,3,4]) (.inr ⟨_, rfl⟩) rfl Tryd.func55 rfl (resT ⟨Le.str (by show s.extract 0 ((st ++ [(s.size : Int)]).getD 0 0).toNat = _; rw [hnx0]), Le.refl _, Le.refl _, trivial⟩)
  · exact absurd rfl hb
end Go.Proofs.YtnadacaoehpdnaaDoor.V

namespace Go.Proofs.YtnadacaoehpdnaaDoor.V
set_option linter.unusedVariables false
set_option linter.unusedSimpArgs false
open Go
/-- A list's words and what stands between, on end. -/
def catW : List Wrd → ByteArray
  | [] => .empty
  | w :: l => w.text ++ (w.tail ++ catW l)
theorem catW_mem {l : List Wrd} {w : Wrd} (h : w ∈ l) : w.text.size + w.tail.size ≤ (catW l).size := by
  induction l with
  | nil => cases h
  | cons v l ih =>
    simp only [catW, ByteArray.size_append]
    rcases List.mem_cons.mp h with rfl | h
    · omega
    · have := ih h; omega
end Go.Proofs.YtnadacaoehpdnaaDoor.V

namespace Go.Proofs.YtnadacaoehpdnaaDoor.V
set_option linter.unusedVariables false
set_option linter.unusedSimpArgs false
open Go
set_option maxRecDepth 100000
deriving instance DecidableEq for Tok
end Go.Proofs.YtnadacaoehpdnaaDoor.V

namespace Go.Proofs.YtnadacaoehpdnaaDoor.V
set_option linter.unusedVariables false
set_option linter.unusedSimpArgs false
open Go Go.Proofs Go.RowKit
set_option maxRecDepth 100000
set_option maxHeartbeats 2000000
open Go Go.Proofs Go.Proofs.YtnadacaoehpdnaaDoor.V
theorem same17_fn (a b : List Wrd) (ha : a.length ≤ 100000) : Fn Tryd.prog 69 [tWrd.L a, tWrd.L b] (.bool (decide (a = b))) := by
  refine Fn.of Tryd.f69 _ Tryd.func69 rfl (by decide) (by show 2 ≤ _; decide) tbOk 26 rfl fun S w0 gl => ?_
  refine Run.go ?_; (conv => whnf); repeat' (first | ((with_reducible refine Know.mk fun _ => ?_); conv => whnf) | ((with_reducible refine Need.mk ?_ ?_); exact nd; conv => whnf) | ((with_reducible first | refine Both.mk ?_ ?_ | refine Any.mk fun b hb => ?_ | refine AskB.dec (fun hb => ?_) (fun hb => ?_) | refine AskB.ndec (fun hb => ?_) (fun hb => ?_) | refine AskB.mk (fun hb => ?_) (fun hb => ?_)) <;> conv => whnf) | ((with_reducible first | refine Run.drawX rfl (by decide +kernel) ?_ | refine Run.drawT rfl (by decide +kernel) ?_ | refine Run.drawW rfl (by decide +kernel) ?_); conv => whnf))
  · have hab : a.length = b.length := by omega
    refine Run.loop [0, 1] (fun (i : Nat) => [(5, .int .i64 (i : Int))]) (fun i => []) (fun i => i ≤ a.length ∧ a.take i = b.take i) (fun i => a.length - i) 0 ⟨Nat.zero_le _, rfl⟩ ⟨Le.refl _, trivial⟩ trivial ?_
    intro i ⟨hi, hc⟩ IH
    have hw : IntKind.i64.wrap ((i : Int) + 1) = ((i + 1 : Nat) : Int) := wrap64 (by omega) (by omega)
    have hat : i < a.length → a.take (i + 1) = a.take i ++ [a.getD i tWrd.z] ∧ b.take (i + 1) = b.take i ++ [b.getD i tWrd.z] := fun h => by
      rw [List.take_succ_eq_append_getElem h, List.take_succ_eq_append_getElem (hab ▸ h), List.getD, List.getD, List.getElem?_eq_getElem h, List.getElem?_eq_getElem (hab ▸ h)]
      exact ⟨rfl, rfl⟩
    refine Run.go ?_; (conv => whnf); repeat' (first | ((with_reducible refine Know.mk fun _ => ?_); conv => whnf) | ((with_reducible refine Need.mk ?_ ?_); exact nd; conv => whnf) | ((with_reducible first | refine Both.mk ?_ ?_ | refine Any.mk fun b hb => ?_ | refine AskB.dec (fun hb => ?_) (fun hb => ?_) | refine AskB.ndec (fun hb => ?_) (fun hb => ?_) | refine AskB.mk (fun hb => ?_) (fun hb => ?_)) <;> conv => whnf) | ((with_reducible first | refine Run.drawX rfl (by decide +kernel) ?_ | refine Run.drawT rfl (by decide +kernel) ?_ | refine Run.drawW rfl (by decide +kernel) ?_); conv => whnf))
    · refine Run.leave (ts := [4]) (.inr ⟨_, rfl⟩) rfl Tryd.func69 rfl (Le.ff.trans (Le.bool (decide_eq_false (fun h => ?_)).symm))
      subst h
      simp at hb
    · have hil : i < a.length := by omega
      obtain ⟨t1, t2⟩ := hat hil
      have he : a.getD i tWrd.z = b.getD i tWrd.z := by
        have hb2 : (decide ((a.getD i tWrd.z).text = (b.getD i tWrd.z).text) && (decide ((a.getD i tWrd.z).tail = (b.getD i tWrd.z).tail) && true)) = true := by simpa using hb
        simp only [Bool.and_eq_true, decide_eq_true_eq] at hb2
        generalize a.getD i tWrd.z = x at *
        generalize b.getD i tWrd.z = y at *
        obtain ⟨x1, x2⟩ := x
        obtain ⟨y1, y2⟩ := y
        simp only at hb2
        rw [hb2.1, hb2.2.1]
      refine Run.to _ _ ?_ ?_ (IH (i + 1) (by omega) ⟨by omega, ?_⟩)
      · exact ⟨Le.refl _, Le.refl _, Le.int hw, trivial⟩
      · exact trivial
      · rw [t1, t2, hc, he]
    · have hie : i = a.length := by omega
      refine Run.leave (ts := [4]) (.inr ⟨_, rfl⟩) rfl Tryd.func69 rfl (Le.tt.trans (Le.bool (decide_eq_true ?_).symm))
      rw [hie, List.take_length, hab, List.take_length] at hc
      exact hc
  · refine Run.leave (ts := [4]) (.inr ⟨_, rfl⟩) rfl Tryd.func69 rfl (Le.ff.trans (Le.bool (decide_eq_false (fun h => ?_)).symm))
    rw [h] at hb; exact hb rfl
theorem wordsOf_few (s : ByteArray) : (wordsOf s).1.2.length ≤ 1024 := by
  by_cases h : 65536 < s.size
  · rw [wordsOf_long h]; simp
  · by_cases h2 : 1024 < (specW (toksOf s)).2.length
    · rw [wordsOf_many h h2]; simp
    · rw [wordsOf_fit h h2]; simp only []; omega
end Go.Proofs.YtnadacaoehpdnaaDoor.V

namespace Go.Proofs.YtnadacaoehpdnaaDoor.V
set_option linter.unusedVariables false
set_option linter.unusedSimpArgs false
open Go Go.Proofs Go.RowKit
set_option maxRecDepth 100000
set_option maxHeartbeats 2000000
open Go Go.Proofs Go.Proofs.YtnadacaoehpdnaaDoor.V
theorem ws5 {N : Nat} {w0 : World} {S : Nat → Prop} {gl : GlobOk S w0} {f : FuncId} {R : Ending → World → Prop} {ops : Array Oper} {i : Nat} {rest : List Nat} {k : List Item} {env : Env} {h : Heap} {o : Oper} {x y : Operand}
    (p : AV) (t s : ByteArray) (ho : ops.toList[i]? = some o) (hc : calls? o = some (72, [x, y])) (hd : okD N o.dst = true) (hr : ready env ops o = true) (hx : ev (scrubE 900 env) x = .box 5 0) (hy : ev (scrubE 900 env) y = .str s)
    (hs : t.size + s.size ≤ 140737488355328) (hp : p = .nilp ∨ p = .box 5 0)
    (next : Run ⟨Tryd.prog, TB, tbOk, N, w0, S, gl, f, R⟩ (.inRegion ops rest :: k) (putE (envW 90 env) o.dst .u) (bldr 95 5 5 90 (heapW 90 h) (.box 5 0) (t ++ s))) :
    Run ⟨Tryd.prog, TB, tbOk, N, w0, S, gl, f, R⟩ (.inRegion ops (i :: rest) :: k) env (bldr 95 5 5 90 h p t) := by
  refine Run.inline 900 Tryd.f72 _ 19 ho hc Tryd.func72 rfl (by decide) rfl (by show 2 ≤ 19; decide) hd hr (fun a hsz hdf => ?_)
  simp only [List.map, hx, hy]
  have fin : ∀ (E : Env) (H : Heap) (X : AV), (∀ i, E i = scrub 14 (scrub 901 (scrub 900 (env i)))) → (∀ id, Nat.beq id 5 = false → Nat.beq id 90 = false → Nat.beq id 14 = false → Nat.beq id 901 = false → Nat.beq id 900 = false → H id = scrubM 90 (scrubM 14 (scrubM 901 (scrubM 900 (h id))))) →
      MOle (H 5) (.box 95 [.box 5 0, .row 90]) → MOle (H 90) (.row 5 1 (t ++ s).size (bytesG (t ++ s))) → Run ⟨Tryd.prog, TB, tbOk, N, w0, S, gl, f, R⟩ (.inRegion ops rest :: k) (scrubE 90 (putE E o.dst X)) H := by
    intro E H X hE hH h5 h90
    refine Run.weaken (fun i => ?_) (fun id => ?_) next
    · cases hdst : o.dst with
      | none => show Le (scrub 90 (E i)) _; rw [hE]; exact Le.refl _
      | some d =>
        show Le (scrub 90 (upd E d X i)) (upd (envW 90 env) d .u i)
        by_cases e : i = d
        · subst e; rw [upd_same, upd_same]; exact Le.u _
        · rw [upd_other _ _ e, upd_other _ _ e, hE]; exact Le.refl _
    · unfold bldr heapW
      cases e5 : Nat.beq id 5 with
      | true => have := Nat.eq_of_beq_eq_true e5; subst this; exact h5
      | false =>
      cases e90 : Nat.beq id 90 with
      | true => have := Nat.eq_of_beq_eq_true e90; subst this; exact h90
      | false =>
      cases e900 : Nat.beq id 900 with
      | true => simp only [upd, e5, e90, e900, cond_true, cond_false]; exact mole_dead _
      | false =>
      cases e901 : Nat.beq id 901 with
      | true => simp only [upd, e5, e90, e900, e901, cond_true, cond_false]; exact mole_dead _
      | false =>
      cases e14 : Nat.beq id 14 with
      | true => simp only [upd, e5, e90, e900, e901, e14, cond_true, cond_false]; exact mole_dead _
      | false =>
        rw [hH id e5 e90 e14 e901 e900]
        simp only [upd, e5, e90, e900, e901, e14, cond_true, cond_false]
        exact MOle.refl _
  rcases hp with rfl | rfl
  · refine Run.go ?_; (conv => whnf); repeat' (first | ((with_reducible refine Know.mk fun _ => ?_); conv => whnf) | ((with_reducible refine Need.mk ?_ ?_); exact nd; conv => whnf) | ((with_reducible first | refine Both.mk ?_ ?_ | refine Any.mk fun b hb => ?_ | refine AskB.dec (fun hb => ?_) (fun hb => ?_) | refine AskB.ndec (fun hb => ?_) (fun hb => ?_) | refine AskB.mk (fun hb => ?_) (fun hb => ?_)) <;> conv => whnf) | ((with_reducible first | refine Run.drawX rfl (by decide +kernel) ?_ | refine Run.drawT rfl (by decide +kernel) ?_ | refine Run.drawW rfl (by decide +kernel) ?_); conv => whnf))
    refine Run.inline 901 Tryd.f61 _ 20 rfl rfl Tryd.func61 rfl (by decide) rfl (by decide) rfl rfl (fun a2 hsz2 hdf2 => ?_)
    refine Run.go ?_; (conv => whnf); repeat' (first | ((with_reducible refine Know.mk fun _ => ?_); conv => whnf) | ((with_reducible refine Need.mk ?_ ?_); exact nd; conv => whnf) | ((with_reducible first | refine Both.mk ?_ ?_ | refine Any.mk fun b hb => ?_ | refine AskB.dec (fun hb => ?_) (fun hb => ?_) | refine AskB.ndec (fun hb => ?_) (fun hb => ?_) | refine AskB.mk (fun hb => ?_) (fun hb => ?_)) <;> conv => whnf) | ((with_reducible first | refine Run.drawX rfl (by decide +kernel) ?_ | refine Run.drawT rfl (by decide +kernel) ?_ | refine Run.drawW rfl (by decide +kernel) ?_); conv => whnf))
    refine Run.toUnsafe (id := 5) (l := [.nilp, .row 90]) (e := 95) (t := 95) (src := 92) (dst := 136) (x := .tmp 8) rfl rfl rfl rfl rfl rfl (by decide) (by kernel_rfl) (by kernel_rfl) (j := (Tryd.prog.info? 95).get (by kernel_rfl)) (by kernel_rfl) (by decide +kernel) ?_
    refine Run.noEscape (f := 79) (x := .tmp 9) rfl rfl rfl rfl Tryd.func79 (by kernel_rfl) (by kernel_rfl) (by kernel_rfl) (by kernel_rfl) ?_
    refine Run.fromUnsafe (id := 5) (l := [.nilp, .row 90]) (e := 95) (u := 95) (src := 136) (dst := 92) (x := .tmp 10) rfl rfl rfl rfl rfl rfl (by kernel_rfl) (by kernel_rfl) (j := (Tryd.prog.info? 95).get (by kernel_rfl)) (by kernel_rfl) (by kernel_rfl) ?_
    refine Run.go ?_; (conv => whnf); repeat' (first | ((with_reducible refine Know.mk fun _ => ?_); conv => whnf) | ((with_reducible refine Need.mk ?_ ?_); exact nd; conv => whnf) | ((with_reducible first | refine Both.mk ?_ ?_ | refine Any.mk fun b hb => ?_ | refine AskB.dec (fun hb => ?_) (fun hb => ?_) | refine AskB.ndec (fun hb => ?_) (fun hb => ?_) | refine AskB.mk (fun hb => ?_) (fun hb => ?_)) <;> conv => whnf) | ((with_reducible first | refine Run.drawX rfl (by decide +kernel) ?_ | refine Run.drawT rfl (by decide +kernel) ?_ | refine Run.drawW rfl (by decide +kernel) ?_); conv => whnf))
    refine Run.back 901 (ts := []) hsz2 hdf2 (.inl rfl) (by rfl) Tryd.func61 rfl ?_
    refine Run.go ?_; (conv => whnf); repeat' (first | ((with_reducible refine Know.mk fun _ => ?_); conv => whnf) | ((with_reducible refine Need.mk ?_ ?_); exact nd; conv => whnf) | ((with_reducible first | refine Both.mk ?_ ?_ | refine Any.mk fun b hb => ?_ | refine AskB.dec (fun hb => ?_) (fun hb => ?_) | refine AskB.ndec (fun hb => ?_) (fun hb => ?_) | refine AskB.mk (fun hb => ?_) (fun hb => ?_)) <;> conv => whnf) | ((with_reducible first | refine Run.drawX rfl (by decide +kernel) ?_ | refine Run.drawT rfl (by decide +kernel) ?_ | refine Run.drawW rfl (by decide +kernel) ?_); conv => whnf))
    refine Run.back 900 (ts := [4, 5]) hsz hdf (.inr ⟨_, rfl⟩) (by rfl) Tryd.func72 rfl ?_
    refine Run.holdBoxRow 5 1 90 14 (by rfl) (by rfl) (by rfl) rfl rfl rfl ?_
    refine fin _ _ _ (fun i => rfl) (fun id e5 e90 e14 e901 e900 => ?_) (MOle.refl _) (bytesG_join 5 t s)
    simp only [upd, scrubH, scrubM, bldr, e5, e90, e14, e901, e900, cond_false]
  · refine Run.go ?_; (conv => whnf); repeat' (first | ((with_reducible refine Know.mk fun _ => ?_); conv => whnf) | ((with_reducible refine Need.mk ?_ ?_); exact nd; conv => whnf) | ((with_reducible first | refine Both.mk ?_ ?_ | refine Any.mk fun b hb => ?_ | refine AskB.dec (fun hb => ?_) (fun hb => ?_) | refine AskB.ndec (fun hb => ?_) (fun hb => ?_) | refine AskB.mk (fun hb => ?_) (fun hb => ?_)) <;> conv => whnf) | ((with_reducible first | refine Run.drawX rfl (by decide +kernel) ?_ | refine Run.drawT rfl (by decide +kernel) ?_ | refine Run.drawW rfl (by decide +kernel) ?_); conv => whnf))
    refine Run.inline 901 Tryd.f61 _ 20 rfl rfl Tryd.func61 rfl (by decide) rfl (by decide) rfl rfl (fun a2 hsz2 hdf2 => ?_)
    refine Run.go ?_; (conv => whnf); repeat' (first | ((with_reducible refine Know.mk fun _ => ?_); conv => whnf) | ((with_reducible refine Need.mk ?_ ?_); exact nd; conv => whnf) | ((with_reducible first | refine Both.mk ?_ ?_ | refine Any.mk fun b hb => ?_ | refine AskB.dec (fun hb => ?_) (fun hb => ?_) | refine AskB.ndec (fun hb => ?_) (fun hb => ?_) | refine AskB.mk (fun hb => ?_) (fun hb => ?_)) <;> conv => whnf) | ((with_reducible first | refine Run.drawX rfl (by decide +kernel) ?_ | refine Run.drawT rfl (by decide +kernel) ?_ | refine Run.drawW rfl (by decide +kernel) ?_); conv => whnf))
    refine Run.back 901 (ts := []) hsz2 hdf2 (.inl rfl) (by rfl) Tryd.func61 rfl ?_
    refine Run.go ?_; (conv => whnf); repeat' (first | ((with_reducible refine Know.mk fun _ => ?_); conv => whnf) | ((with_reducible refine Need.mk ?_ ?_); exact nd; conv => whnf) | ((with_reducible first | refine Both.mk ?_ ?_ | refine Any.mk fun b hb => ?_ | refine AskB.dec (fun hb => ?_) (fun hb => ?_) | refine AskB.ndec (fun hb => ?_) (fun hb => ?_) | refine AskB.mk (fun hb => ?_) (fun hb => ?_)) <;> conv => whnf) | ((with_reducible first | refine Run.drawX rfl (by decide +kernel) ?_ | refine Run.drawT rfl (by decide +kernel) ?_ | refine Run.drawW rfl (by decide +kernel) ?_); conv => whnf))
    refine Run.back 900 (ts := [4, 5]) hsz hdf (.inr ⟨_, rfl⟩) (by rfl) Tryd.func72 rfl ?_
    refine Run.holdBoxRow 5 1 90 14 (by rfl) (by rfl) (by rfl) rfl rfl rfl ?_
    refine fin _ _ _ (fun i => rfl) (fun id e5 e90 e14 e901 e900 => ?_) (MOle.refl _) (bytesG_join 5 t s)
    simp only [upd, scrubH, scrubM, bldr, e5, e90, e14, e901, e900, cond_false]
theorem bs5 {N : Nat} {w0 : World} {S : Nat → Prop} {gl : GlobOk S w0} {f : FuncId} {R : Ending → World → Prop} {ops : Array Oper} {i : Nat} {rest : List Nat} {k : List Item} {env : Env} {h : Heap} {o : Oper} {x : Operand}
    (p : AV) (t : ByteArray) (ho : ops.toList[i]? = some o) (hc : calls? o = some (49, [x])) (hd : okD N o.dst = true) (hr : ready env ops o = true) (hx : ev (scrubE 900 env) x = .box 5 0)
    (next : Run ⟨Tryd.prog, TB, tbOk, N, w0, S, gl, f, R⟩ (.inRegion ops rest :: k) (putE (scrubE 900 env) o.dst (.str t)) (upd (upd (upd (scrubH 900 h) 900 .dead) 5 .dead) 90 .dead)) :
    Run ⟨Tryd.prog, TB, tbOk, N, w0, S, gl, f, R⟩ (.inRegion ops (i :: rest) :: k) env (bldr 95 5 5 90 h p t) := by
  refine Run.inline 900 Tryd.f49 _ 14 ho hc Tryd.func49 rfl (by decide) rfl (by show 1 ≤ 14; decide) hd hr (fun a hsz hdf => ?_)
  simp only [List.map, hx]
  have fin : ∀ (H : Heap), (∀ id, Nat.beq id 5 = false → Nat.beq id 90 = false → Nat.beq id 900 = false → H id = scrubM 900 (h id)) →
      Run ⟨Tryd.prog, TB, tbOk, N, w0, S, gl, f, R⟩ (.inRegion ops rest :: k) (putE (scrubE 900 env) o.dst (.str t)) H := by
    intro H hH
    refine Run.weaken (fun i => Le.refl _) (fun id => ?_) next
    cases e5 : Nat.beq id 5 with
    | true => simp only [upd, e5, cond_true, cond_false]; cases Nat.beq id 90 <;> exact mole_dead _
    | false =>
    cases e90 : Nat.beq id 90 with
    | true => simp only [upd, e5, e90, cond_true, cond_false]; exact mole_dead _
    | false =>
    cases e900 : Nat.beq id 900 with
    | true => simp only [upd, e5, e90, e900, cond_true, cond_false]; exact mole_dead _
    | false =>
      rw [hH id e5 e90 e900]
      simp only [upd, e5, e90, e900, cond_true, cond_false]
      exact MOle.refl _
  refine Run.go ?_; (conv => whnf); repeat' (first | ((with_reducible refine Know.mk fun _ => ?_); conv => whnf) | ((with_reducible refine Need.mk ?_ ?_); exact nd; conv => whnf) | ((with_reducible first | refine Both.mk ?_ ?_ | refine Any.mk fun b hb => ?_ | refine AskB.dec (fun hb => ?_) (fun hb => ?_) | refine AskB.ndec (fun hb => ?_) (fun hb => ?_) | refine AskB.mk (fun hb => ?_) (fun hb => ?_)) <;> conv => whnf) | ((with_reducible first | refine Run.drawX rfl (by decide +kernel) ?_ | refine Run.drawT rfl (by decide +kernel) ?_ | refine Run.drawW rfl (by decide +kernel) ?_); conv => whnf))
  · refine Run.unsafeString0 (i := 10) (rest := [11]) (k := [.code .ret]) (x := .tmp 7) (y := .tmp 12) (c := ⟨.builtin .unsafeString, #[.tmp 7, .tmp 12], #[113, 3]⟩) rfl rfl rfl rfl rfl rfl rfl (.inl rfl) (by show AV.int .i64 (t.size : Int) = _; rw [hb]; rfl) ?_
    have ht : t = .empty := by simpa using hb
    refine Run.go ?_; (conv => whnf); repeat' (first | ((with_reducible refine Know.mk fun _ => ?_); conv => whnf) | ((with_reducible refine Need.mk ?_ ?_); exact nd; conv => whnf) | ((with_reducible first | refine Both.mk ?_ ?_ | refine Any.mk fun b hb => ?_ | refine AskB.dec (fun hb => ?_) (fun hb => ?_) | refine AskB.ndec (fun hb => ?_) (fun hb => ?_) | refine AskB.mk (fun hb => ?_) (fun hb => ?_)) <;> conv => whnf) | ((with_reducible first | refine Run.drawX rfl (by decide +kernel) ?_ | refine Run.drawT rfl (by decide +kernel) ?_ | refine Run.drawW rfl (by decide +kernel) ?_); conv => whnf))
    refine Run.back 900 (ts := [2]) hsz hdf (.inr ⟨_, rfl⟩) (by rfl) Tryd.func49 rfl ?_
    rw [ht] at fin next ⊢
    exact fin _ (fun id e5 e90 e900 => by simp only [upd, scrubH, bldr, e5, e90, e900, cond_false])
  · refine Run.unsafeString (i := 10) (rest := [11]) (k := [.code .ret]) (x := .tmp 7) (y := .tmp 12) (c := ⟨.builtin .unsafeString, #[.tmp 7, .tmp 12], #[113, 3]⟩) t rfl rfl rfl rfl rfl rfl rfl rfl rfl (e := 5) (n := t.size) (q := 90) (get := bytesG t) rfl rfl hb (fun _ _ => rfl) (by kernel_rfl) (by kernel_rfl) ?_
    refine Run.go ?_; (conv => whnf); repeat' (first | ((with_reducible refine Know.mk fun _ => ?_); conv => whnf) | ((with_reducible refine Need.mk ?_ ?_); exact nd; conv => whnf) | ((with_reducible first | refine Both.mk ?_ ?_ | refine Any.mk fun b hb => ?_ | refine AskB.dec (fun hb => ?_) (fun hb => ?_) | refine AskB.ndec (fun hb => ?_) (fun hb => ?_) | refine AskB.mk (fun hb => ?_) (fun hb => ?_)) <;> conv => whnf) | ((with_reducible first | refine Run.drawX rfl (by decide +kernel) ?_ | refine Run.drawT rfl (by decide +kernel) ?_ | refine Run.drawW rfl (by decide +kernel) ?_); conv => whnf))
    refine Run.back 900 (ts := [2]) hsz hdf (.inr ⟨_, rfl⟩) (by rfl) Tryd.func49 rfl ?_
    exact fin _ (fun id e5 e90 e900 => by simp only [upd, scrubH, bldr, e5, e90, e900, cond_false])
theorem catW_app : ∀ (a b : List Wrd), catW (a ++ b) = catW a ++ catW b
  | [], b => by simp [catW]
  | w :: a, b => by simp [catW, catW_app a b, ByteArray.append_assoc]
theorem catW_take (l : List Wrd) (i : Nat) (h : i < l.length) : catW (l.take (i + 1)) = catW (l.take i) ++ ((l.getD i tWrd.z).text ++ (l.getD i tWrd.z).tail) := by
  rw [List.take_succ_eq_append_getElem h, catW_app, List.getD, List.getElem?_eq_getElem h]
  simp [catW]
theorem catW_takeLe (l : List Wrd) (i : Nat) : (catW (l.take i)).size ≤ (catW l).size := by
  conv => rhs; rw [← List.take_append_drop i l, catW_app, ByteArray.size_append]
  omega
theorem join18_fn (s : ByteArray) (l : List Wrd) (hl : l.length ≤ 1000000000) (hs : s.size + (catW l).size ≤ 1000000000000) : Fn Tryd.prog 56 [.str s, tWrd.L l] (.str (s ++ catW l)) := by
  refine Fn.of Tryd.f56 _ Tryd.func56 rfl (by decide) (by show 2 ≤ _; decide) tbOk 24 rfl fun S w0 gl => ?_
  refine Run.go ?_; (conv => whnf); repeat' (first | ((with_reducible refine Know.mk fun _ => ?_); conv => whnf) | ((with_reducible refine Need.mk ?_ ?_); exact nd; conv => whnf) | ((with_reducible first | refine Both.mk ?_ ?_ | refine Any.mk fun b hb => ?_ | refine AskB.dec (fun hb => ?_) (fun hb => ?_) | refine AskB.ndec (fun hb => ?_) (fun hb => ?_) | refine AskB.mk (fun hb => ?_) (fun hb => ?_)) <;> conv => whnf) | ((with_reducible first | refine Run.drawX rfl (by decide +kernel) ?_ | refine Run.drawT rfl (by decide +kernel) ?_ | refine Run.drawW rfl (by decide +kernel) ?_); conv => whnf))
  refine Run.holdBoxNil 5 1 90 5 1 (bytesG .empty) rfl rfl rfl rfl ?_
  refine Run.bldr 95 5 5 90 .nilp .empty (MOle.refl _) (MOle.refl _) ?_
  refine ws5 .nilp .empty s rfl rfl rfl rfl rfl rfl (by simp; omega) (.inl rfl) ?_
  refine Run.go ?_; (conv => whnf); repeat' (first | ((with_reducible refine Know.mk fun _ => ?_); conv => whnf) | ((with_reducible refine Need.mk ?_ ?_); exact nd; conv => whnf) | ((with_reducible first | refine Both.mk ?_ ?_ | refine Any.mk fun b hb => ?_ | refine AskB.dec (fun hb => ?_) (fun hb => ?_) | refine AskB.ndec (fun hb => ?_) (fun hb => ?_) | refine AskB.mk (fun hb => ?_) (fun hb => ?_)) <;> conv => whnf) | ((with_reducible first | refine Run.drawX rfl (by decide +kernel) ?_ | refine Run.drawT rfl (by decide +kernel) ?_ | refine Run.drawW rfl (by decide +kernel) ?_); conv => whnf))
  have hT : ∀ i, (s ++ catW (l.take i)).size ≤ 1000000000000 := fun i => by
    have h1 := catW_takeLe l i
    rw [ByteArray.size_append]; omega
  refine Run.loop [5, 10, 11] (fun (i : Nat) => [(12, .int .i64 (i : Int))]) (fun i => [(5, .box 95 [.box 5 0, .row 90]), (90, .row 5 1 (s ++ catW (l.take i)).size (bytesG (s ++ catW (l.take i))))]) (fun i => i ≤ l.length) (fun i => l.length - i) 0 (Nat.zero_le _) ⟨Le.refl _, trivial⟩ ⟨MOle.refl _, ?_, trivial⟩ ?_
  · have : ByteArray.empty ++ s = s ++ catW (l.take 0) := by simp [catW]
    rw [← this]; exact MOle.refl _
  intro i hi IH
  have hw1 : IntKind.i64.wrap ((i : Int) + 1) = ((i + 1 : Nat) : Int) := wrap64 (by omega) (by omega)
  have hTi := hT i
  refine Run.go ?_; (conv => whnf); repeat' (first | ((with_reducible refine Know.mk fun _ => ?_); conv => whnf) | ((with_reducible refine Need.mk ?_ ?_); exact nd; conv => whnf) | ((with_reducible first | refine Both.mk ?_ ?_ | refine Any.mk fun b hb => ?_ | refine AskB.dec (fun hb => ?_) (fun hb => ?_) | refine AskB.ndec (fun hb => ?_) (fun hb => ?_) | refine AskB.mk (fun hb => ?_) (fun hb => ?_)) <;> conv => whnf) | ((with_reducible first | refine Run.drawX rfl (by decide +kernel) ?_ | refine Run.drawT rfl (by decide +kernel) ?_ | refine Run.drawW rfl (by decide +kernel) ?_); conv => whnf))
  · have hil : i < l.length := by omega
    have hwi : (l.getD i tWrd.z).text.size + (l.getD i tWrd.z).tail.size ≤ 1000000000000 := by
      have h1 := catW_takeLe l (i + 1)
      rw [catW_take l i hil, ByteArray.size_append, ByteArray.size_append] at h1
      omega
    refine Run.bldr 95 5 5 90 (.box 5 0) (s ++ catW (l.take i)) (MOle.refl _) (MOle.refl _) ?_
    refine ws5 (.box 5 0) _ (l.getD i tWrd.z).text rfl rfl rfl rfl rfl rfl (by omega) (.inr rfl) ?_
    refine Run.tidy [5, 7, 10, 11, 12] [5, 7, 90] ?_; (conv => whnf)
    refine Run.go ?_; (conv => whnf); repeat' (first | ((with_reducible refine Know.mk fun _ => ?_); conv => whnf) | ((with_reducible refine Need.mk ?_ ?_); exact nd; conv => whnf) | ((with_reducible first | refine Both.mk ?_ ?_ | refine Any.mk fun b hb => ?_ | refine AskB.dec (fun hb => ?_) (fun hb => ?_) | refine AskB.ndec (fun hb => ?_) (fun hb => ?_) | refine AskB.mk (fun hb => ?_) (fun hb => ?_)) <;> conv => whnf) | ((with_reducible first | refine Run.drawX rfl (by decide +kernel) ?_ | refine Run.drawT rfl (by decide +kernel) ?_ | refine Run.drawW rfl (by decide +kernel) ?_); conv => whnf))
    refine Run.bldr 95 5 5 90 (.box 5 0) (s ++ catW (l.take i) ++ (l.getD i tWrd.z).text) (MOle.refl _) (MOle.refl _) ?_
    refine ws5 (.box 5 0) _ (l.getD i tWrd.z).tail rfl rfl rfl rfl rfl rfl (by rw [ByteArray.size_append]; omega) (.inr rfl) ?_
    refine Run.tidy [5, 10, 11, 12] [5, 90] ?_; (conv => whnf)
    refine Run.go ?_; (conv => whnf); repeat' (first | ((with_reducible refine Know.mk fun _ => ?_); conv => whnf) | ((with_reducible refine Need.mk ?_ ?_); exact nd; conv => whnf) | ((with_reducible first | refine Both.mk ?_ ?_ | refine Any.mk fun b hb => ?_ | refine AskB.dec (fun hb => ?_) (fun hb => ?_) | refine AskB.ndec (fun hb => ?_) (fun hb => ?_) | refine AskB.mk (fun hb => ?_) (fun hb => ?_)) <;> conv => whnf) | ((with_reducible first | refine Run.drawX rfl (by decide +kernel) ?_ | refine Run.drawT rfl (by decide +kernel) ?_ | refine Run.drawW rfl (by decide +kernel) ?_); conv => whnf))
    refine Run.to _ _ ?_ ?_ (IH (i + 1) (by omega) (by omega))
    · exact ⟨Le.refl _, Le.refl _, Le.refl _, Le.int hw1, trivial⟩
    · refine ⟨MOle.refl _, ?_, trivial⟩
      rw [catW_take l i hil]
      simp only [← ByteArray.append_assoc]
      exact MOle.refl _
  · have hie : i = l.length := by omega
    subst hie
    refine Run.bldr 95 5 5 90 (.box 5 0) (s ++ catW (l.take l.length)) (MOle.refl _) (MOle.refl _) ?_
    refine bs5 (.box 5 0) _ rfl rfl rfl rfl rfl ?_
    refine Run.go ?_; (conv => whnf); repeat' (first | ((with_reducible refine Know.mk fun _ => ?_); conv => whnf) | ((with_reducible refine Need.mk ?_ ?_); exact nd; conv => whnf) | ((with_reducible first | refine Both.mk ?_ ?_ | refine Any.mk fun b hb => ?_ | refine AskB.dec (fun hb => ?_) (fun hb => ?_) | refine AskB.ndec (fun hb => ?_) (fun hb => ?_) | refine AskB.mk (fun hb => ?_) (fun hb => ?_)) <;> conv => whnf) | ((with_reducible first | refine Run.drawX rfl (by decide +kernel) ?_ | refine Run.drawT rfl (by decide +kernel) ?_ | refine Run.drawW rfl (by decide +kernel) ?_); conv => whnf))
    refine Run.leave (ts := [4]) (.inr ⟨_, rfl⟩) rfl Tryd.func56 rfl (Le.str ?_)
    rw [List.take_length]
end Go.Proofs.YtnadacaoehpdnaaDoor.V

namespace Go.Proofs.YtnadacaoehpdnaaDoor.V
set_option linter.unusedVariables false
set_option linter.unusedSimpArgs false
open Go Go.Proofs Go.RowKit
set_option maxRecDepth 100000
set_option maxHeartbeats 2000000
open Go Go.Proofs Go.Proofs.YtnadacaoehpdnaaDoor.V
theorem equal35_fn (a b : List Wrd) (ha : a.length ≤ 100000) : Fn Tryd.prog 57 [tWrd.L a, tWrd.L b] (.bool (decide (a = b))) := by
  refine Fn.of Tryd.f57 _ Tryd.func57 rfl (by decide) (by show 2 ≤ _; decide) tbOk 26 rfl fun S w0 gl => ?_
  refine Run.go ?_; (conv => whnf); repeat' (first | ((with_reducible refine Know.mk fun _ => ?_); conv => whnf) | ((with_reducible refine Need.mk ?_ ?_); exact nd; conv => whnf) | ((with_reducible first | refine Both.mk ?_ ?_ | refine Any.mk fun b hb => ?_ | refine AskB.dec (fun hb => ?_) (fun hb => ?_) | refine AskB.ndec (fun hb => ?_) (fun hb => ?_) | refine AskB.mk (fun hb => ?_) (fun hb => ?_)) <;> conv => whnf) | ((with_reducible first | refine Run.drawX rfl (by decide +kernel) ?_ | refine Run.drawT rfl (by decide +kernel) ?_ | refine Run.drawW rfl (by decide +kernel) ?_); conv => whnf))
  · have hab : a.length = b.length := by omega
    refine Run.loop [0, 1, 12] (fun (i : Nat) => [(13, .int .i64 (i : Int))]) (fun i => []) (fun i => i ≤ a.length ∧ a.take i = b.take i) (fun i => a.length - i) 0 ⟨Nat.zero_le _, rfl⟩ ⟨Le.refl _, trivial⟩ trivial ?_
    intro i ⟨hi, hc⟩ IH
    have hw : IntKind.i64.wrap ((i : Int) + 1) = ((i + 1 : Nat) : Int) := wrap64 (by omega) (by omega)
    have hat : i < a.length → a.take (i + 1) = a.take i ++ [a.getD i tWrd.z] ∧ b.take (i + 1) = b.take i ++ [b.getD i tWrd.z] := fun h => by
      rw [List.take_succ_eq_append_getElem h, List.take_succ_eq_append_getElem (hab ▸ h), List.getD, List.getD, List.getElem?_eq_getElem h, List.getElem?_eq_getElem (hab ▸ h)]
      exact ⟨rfl, rfl⟩
    refine Run.go ?_; (conv => whnf); repeat' (first | ((with_reducible refine Know.mk fun _ => ?_); conv => whnf) | ((with_reducible refine Need.mk ?_ ?_); exact nd; conv => whnf) | ((with_reducible first | refine Both.mk ?_ ?_ | refine Any.mk fun b hb => ?_ | refine AskB.dec (fun hb => ?_) (fun hb => ?_) | refine AskB.ndec (fun hb => ?_) (fun hb => ?_) | refine AskB.mk (fun hb => ?_) (fun hb => ?_)) <;> conv => whnf) | ((with_reducible first | refine Run.drawX rfl (by decide +kernel) ?_ | refine Run.drawT rfl (by decide +kernel) ?_ | refine Run.drawW rfl (by decide +kernel) ?_); conv => whnf))
    · refine Run.leave (ts := [4]) (.inr ⟨_, rfl⟩) rfl Tryd.func57 rfl (Le.ff.trans (Le.bool (decide_eq_false (fun h => ?_)).symm))
      subst h
      simp at hb
    · have hil : i < a.length := by omega
      obtain ⟨t1, t2⟩ := hat hil
      have he : a.getD i tWrd.z = b.getD i tWrd.z := by
        have hb2 : (decide ((a.getD i tWrd.z).text = (b.getD i tWrd.z).text) && (decide ((a.getD i tWrd.z).tail = (b.getD i tWrd.z).tail) && true)) = true := by simpa using hb
        simp only [Bool.and_eq_true, decide_eq_true_eq] at hb2
        generalize a.getD i tWrd.z = x at *
        generalize b.getD i tWrd.z = y at *
        obtain ⟨x1, x2⟩ := x
        obtain ⟨y1, y2⟩ := y
        simp only at hb2
        rw [hb2.1, hb2.2.1]
      refine Run.to _ _ ?_ ?_ (IH (i + 1) (by omega) ⟨by omega, ?_⟩)
      · exact ⟨Le.refl _, Le.refl _, Le.refl _, Le.int hw, trivial⟩
      · exact trivial
      · rw [t1, t2, hc, he]
    · have hie : i = a.length := by omega
      refine Run.leave (ts := [4]) (.inr ⟨_, rfl⟩) rfl Tryd.func57 rfl (Le.tt.trans (Le.bool (decide_eq_true ?_).symm))
      rw [hie, List.take_length, hab, List.take_length] at hc
      exact hc
  · refine Run.leave (ts := [4]) (.inr ⟨_, rfl⟩) rfl Tryd.func57 rfl (Le.ff.trans (Le.bool (decide_eq_false (fun h => ?_)).symm))
    rw [h] at hb; exact hb rfl

/-- What Right answers. -/
noncomputable def rightB (hd : ByteArray) (l : List Wrd) : Bool := decide (wordsOf (hd ++ catW l) = ((hd, l), 0))
def FitW (hd : ByteArray) (l : List Wrd) : Prop := l.length ≤ 1000000000 ∧ hd.size + (catW l).size ≤ 1000000000000
theorem right19_fn (hd : ByteArray) (l : List Wrd) (hf : FitW hd l) : Fn Tryd.prog 43 [.str hd, tWrd.L l] (.bool (rightB hd l)) := by
  refine Fn.of Tryd.f43 _ Tryd.func43 rfl (by decide) (by show 2 ≤ _; decide) tbOk 28 rfl fun S w0 gl => ?_
  refine Run.go ?_; (conv => whnf); repeat' (first | ((with_reducible refine Know.mk fun _ => ?_); conv => whnf) | ((with_reducible refine Need.mk ?_ ?_); exact nd; conv => whnf) | ((with_reducible first | refine Both.mk ?_ ?_ | refine Any.mk fun b hb => ?_ | refine AskB.dec (fun hb => ?_) (fun hb => ?_) | refine AskB.ndec (fun hb => ?_) (fun hb => ?_) | refine AskB.mk (fun hb => ?_) (fun hb => ?_)) <;> conv => whnf) | ((with_reducible first | refine Run.drawX rfl (by decide +kernel) ?_ | refine Run.drawT rfl (by decide +kernel) ?_ | refine Run.drawW rfl (by decide +kernel) ?_); conv => whnf))
  refine Run.callBX (join18_fn hd l hf.1 hf.2) rfl rfl ⟨Le.refl _, Le.refl _, trivial⟩ rfl rfl rfl ?_
  (conv => whnf); repeat' (first | ((with_reducible refine Know.mk fun _ => ?_); conv => whnf) | ((with_reducible refine Need.mk ?_ ?_); exact nd; conv => whnf) | ((with_reducible first | refine Both.mk ?_ ?_ | refine Any.mk fun b hb => ?_ | refine AskB.dec (fun hb => ?_) (fun hb => ?_) | refine AskB.ndec (fun hb => ?_) (fun hb => ?_) | refine AskB.mk (fun hb => ?_) (fun hb => ?_)) <;> conv => whnf) | ((with_reducible first | refine Run.drawX rfl (by decide +kernel) ?_ | refine Run.drawT rfl (by decide +kernel) ?_ | refine Run.drawW rfl (by decide +kernel) ?_); conv => whnf))
  refine Run.callBX (words15_fn (hd ++ catW l)) rfl rfl ⟨Le.refl _, trivial⟩ rfl rfl rfl ?_
  have hfew := wordsOf_few (hd ++ catW l)
  unfold rightB
  unfold wordsL
  generalize wordsOf (hd ++ catW l) = W at *
  (conv => whnf); repeat' (first | ((with_reducible refine Know.mk fun _ => ?_); conv => whnf) | ((with_reducible refine Need.mk ?_ ?_); exact nd; conv => whnf) | ((with_reducible first | refine Both.mk ?_ ?_ | refine Any.mk fun b hb => ?_ | refine AskB.dec (fun hb => ?_) (fun hb => ?_) | refine AskB.ndec (fun hb => ?_) (fun hb => ?_) | refine AskB.mk (fun hb => ?_) (fun hb => ?_)) <;> conv => whnf) | ((with_reducible first | refine Run.drawX rfl (by decide +kernel) ?_ | refine Run.drawT rfl (by decide +kernel) ?_ | refine Run.drawW rfl (by decide +kernel) ?_); conv => whnf))
  · refine Run.callBX (equal35_fn W.1.2 l (by omega)) rfl rfl ⟨Le.refl _, Le.refl _, trivial⟩ rfl rfl rfl ?_
    (conv => whnf); repeat' (first | ((with_reducible refine Know.mk fun _ => ?_); conv => whnf) | ((with_reducible refine Need.mk ?_ ?_); exact nd; conv => whnf) | ((with_reducible first | refine Both.mk ?_ ?_ | refine Any.mk fun b hb => ?_ | refine AskB.dec (fun hb => ?_) (fun hb => ?_) | refine AskB.ndec (fun hb => ?_) (fun hb => ?_) | refine AskB.mk (fun hb => ?_) (fun hb => ?_)) <;> conv => whnf) | ((with_reducible first | refine Run.drawX rfl (by decide +kernel) ?_ | refine Run.drawT rfl (by decide +kernel) ?_ | refine Run.drawW rfl (by decide +kernel) ?_); conv => whnf))
    refine Run.leave (ts := [4]) (.inr ⟨_, rfl⟩) rfl Tryd.func43 rfl (Le.bool ?_)
    obtain ⟨⟨w1, w2⟩, w3⟩ := W
    simp only at hb
    have h3 : w3 = 0 := by assumption
    have h1 : w1 = hd := by assumption
    subst h3; subst h1; simp
  all_goals
    refine Run.leave (ts := [4]) (.inr ⟨_, rfl⟩) rfl Tryd.func43 rfl (Le.ff.trans (Le.bool ?_))
    symm
    refine decide_eq_false (fun e => ?_)
    subst e
    first | exact absurd rfl hb | exact absurd rfl ‹_›
end Go.Proofs.YtnadacaoehpdnaaDoor.V

namespace Go.Proofs.YtnadacaoehpdnaaDoor.V
set_option linter.unusedVariables false
set_option linter.unusedSimpArgs false
open Go Go.Proofs Go.RowKit
set_option maxRecDepth 100000
def bkW (w : Wrd) : Nat := w.text.size + w.tail.size + 3
theorem dWord : Dec Tryd.prog 40 tWrd bkW :=
  Dec.map (fun x : ByteArray × ByteArray × Unit => ⟨x.1, x.2.1⟩) rfl (fun x j hj => match j, hj with | 0, _ => Le.refl _ | 1, _ => Le.refl _) (fun x => by simp only [bkW]; omega)
    (Dec.struct (t := 40) (fs := #[⟨"Text", 9, 0, false, "", "", 0⟩, ⟨"Tail", 9, 1, false, "", "", 16⟩]) (by kernel_rfl) (by kernel_rfl) (DecF.cons rfl (Dec.str (by kernel_rfl) (by kernel_rfl)) (DecF.cons rfl (Dec.str (by kernel_rfl) (by kernel_rfl)) DecF.nil)))
end Go.Proofs.YtnadacaoehpdnaaDoor.V

namespace Go.Proofs.YtnadacaoehpdnaaDoor.V
set_option linter.unusedVariables false
set_option linter.unusedSimpArgs false
open Go Go.Proofs Go.RowKit
theorem bkW_sum : ∀ l : List Wrd, sumL bkW l = 3 * l.length + (catW l).size
  | [] => by simp [sumL, catW]
  | w :: l => by
    simp only [sumL, bkW_sum l, bkW, catW, ByteArray.size_append, List.length_cons]; omega
theorem fitW_of {s : ByteArray} {l : List Wrd} {n : Nat} (h : s.size + sumL bkW l ≤ n) (hn : n ≤ 100000000) : FitW s l ∧ l.length ≤ 100000000 ∧ ∀ w ∈ l, w.text.size ≤ 134217728 := by
  rw [bkW_sum] at h
  refine ⟨⟨by omega, by omega⟩, by omega, fun w hw => ?_⟩
  have := catW_mem hw
  omega
end Go.Proofs.YtnadacaoehpdnaaDoor.V

namespace Go.Proofs.YtnadacaoehpdnaaDoor.V
set_option linter.unusedVariables false
set_option linter.unusedSimpArgs false
open Go Go.Proofs Go.RowKit
structure Wit where
  name : ByteArray
  head : ByteArray
  words : List Wrd
def wit0 : Wit := ⟨.empty, .empty, []⟩
def tWit : Ty Wit := ⟨3, fun w j => match j with | 0 => .str w.name | 1 => .str w.head | _ => tWrd.L w.words, wit0⟩
structure Tab where
  wits : List Wit
  cols : List (List Int)
def tIL : Ty (List Int) := tL tI
def tabG (t : Tab) : Nat → AV := fun j => match j with | 0 => tWit.L t.wits | _ => tIL.L t.cols
def tbA (t : Tab) : AV := .agg 2 (tabG t)
def alnum (b : Int) : Prop := (65 ≤ b ∧ b ≤ 90) ∨ (97 ≤ b ∧ b ≤ 122) ∨ (48 ≤ b ∧ b ≤ 57)
def NameOk (s : ByteArray) : Prop := 1 ≤ s.size ∧ s.size ≤ 8 ∧ ∀ i, i < s.size → alnum (bt s i)
instance (b : Int) : Decidable (alnum b) := by unfold alnum; infer_instance
instance (s : ByteArray) : Decidable (NameOk s) := by unfold NameOk; infer_instance
def atC (t : Tab) (c i : Nat) : Int := (t.cols.getD c []).getD i 0
def witAt (t : Tab) (i : Nat) : Wit := t.wits.getD i wit0
/-- In how many columns a witness has a word. -/
def cnt (cols : List (List Int)) (i : Nat) : Nat := (cols.filter fun l => !decide (l.getD i 0 = -1)).length
def WitOk (t : Tab) (i : Nat) : Prop := NameOk (witAt t i).name ∧ rightB (witAt t i).head (witAt t i).words = true ∧ ∀ k, k < i → (witAt t k).name ≠ (witAt t i).name
def ColOk (t : Tab) (c : Nat) : Prop := (t.cols.getD c []).length = t.wits.length ∧
  (∀ i, i < t.wits.length → atC t c i = -1 ∨ (atC t c i = (cnt (t.cols.take c) i : Nat) ∧ cnt (t.cols.take c) i < (witAt t i).words.length)) ∧ ∃ i, i < t.wits.length ∧ atC t c i ≠ -1
/-- A table. -/
structure OkT (t : Tab) : Prop where
  n1 : 1 ≤ t.wits.length
  n12 : t.wits.length ≤ 12
  nc : t.cols.length ≤ 4096
  wit : ∀ i, i < t.wits.length → WitOk t i
  col : ∀ c, c < t.cols.length → ColOk t c
  all : ∀ i, i < t.wits.length → cnt t.cols i = (witAt t i).words.length
open Classical in
noncomputable def chkT (t : Tab) : Int := if OkT t then 0 else 121
theorem chk_ok {t : Tab} (h : OkT t) : chkT t = 0 := if_pos h
theorem chk_no {t : Tab} (h : ¬ OkT t) : chkT t = 121 := if_neg h
theorem chk_01 (t : Tab) : (OkT t ∧ chkT t = 0) ∨ (¬ OkT t ∧ chkT t = 121) := by
  by_cases h : OkT t
  · exact .inl ⟨h, chk_ok h⟩
  · exact .inr ⟨h, chk_no h⟩
/-- What the walks ask of a table's size. -/
structure FitT (t : Tab) : Prop where
  wits : t.wits.length ≤ 2000000
  cols : t.cols.length ≤ 2000000
  col : ∀ l ∈ t.cols, l.length ≤ 2000000
  name : ∀ w ∈ t.wits, w.name.size ≤ 2000000
  wit : ∀ w ∈ t.wits, FitW w.head w.words ∧ w.words.length ≤ 2000000 ∧ ∀ v ∈ w.words, v.text.size ≤ 134217728
/-! ### sums -/
def sumR (f : Nat → Nat) : Nat → Nat
  | 0 => 0
  | n + 1 => sumR f n + f n
theorem sumR_congr {f g : Nat → Nat} : ∀ n, (∀ i, i < n → f i = g i) → sumR f n = sumR g n
  | 0, _ => rfl
  | n + 1, h => by simp only [sumR]; rw [sumR_congr n (fun i hi => h i (by omega)), h n (by omega)]
theorem sumR_upd {f g : Nat → Nat} {i d : Nat} : ∀ n, i < n → g i = f i + d → (∀ j, j ≠ i → g j = f j) → sumR g n = sumR f n + d
  | 0, h, _, _ => absurd h (Nat.not_lt_zero _)
  | n + 1, h, h1, h2 => by
    simp only [sumR]
    by_cases e : i = n
    · subst e
      rw [h1, sumR_congr i (fun j hj => h2 j (by omega))]; omega
    · rw [sumR_upd n (by omega) h1 h2, h2 n (by omega)]; omega
theorem sumR_le {f g : Nat → Nat} : ∀ n, (∀ i, i < n → f i ≤ g i) → sumR f n ≤ sumR g n
  | 0, _ => Nat.le_refl _
  | n + 1, h => Nat.add_le_add (sumR_le n (fun i hi => h i (by omega))) (h n (by omega))
theorem sumR_eq {f g : Nat → Nat} : ∀ n, (∀ i, i < n → f i ≤ g i) → sumR g n ≤ sumR f n → ∀ i, i < n → f i = g i
  | 0, _, _, i, hi => absurd hi (Nat.not_lt_zero _)
  | n + 1, h, he, i, hi => by
    have h1 := sumR_le n (fun i hi => h i (by omega))
    have h2 := h n (by omega)
    simp only [sumR] at he
    by_cases e : i = n
    · subst e; omega
    · exact sumR_eq n (fun i hi => h i (by omega)) (by omega) i (by omega)
/-! ### the count of a witness's words, column by column -/
theorem cnt_take (cols : List (List Int)) (c i : Nat) (h : c < cols.length) : cnt (cols.take (c + 1)) i = cnt (cols.take c) i + if (cols.getD c []).getD i 0 = -1 then 0 else 1 := by
  unfold cnt
  rw [take_at cols c [] h, List.filter_append, List.length_append]
  congr 1
  by_cases e : (cols.getD c []).getD i 0 = -1
  · rw [if_pos e, List.filter_cons_of_neg (by rw [decide_eq_true e]; decide)]; rfl
  · rw [if_neg e, List.filter_cons_of_pos (by rw [decide_eq_false e]; rfl)]; rfl
/-- Where the walk through the columns stands: all ahead of c, and of c the cells ahead of i. -/
def nx (t : Tab) (c i j : Nat) : Nat := cnt (t.cols.take (if j < i then c + 1 else c)) j
def nextL (t : Tab) (c i : Nat) : List Int := (List.range t.wits.length).map fun j => ((nx t c i j : Nat) : Int)
theorem nextL_len (t : Tab) (c i : Nat) : (nextL t c i).length = t.wits.length := by simp [nextL]
theorem nextL_at (t : Tab) (c i j : Nat) (h : j < t.wits.length) : (nextL t c i).getD j 0 = (nx t c i j : Nat) := by
  unfold nextL
  rw [List.getD, List.getElem?_map, List.getElem?_range h]; rfl
theorem nx_same (t : Tab) (c i : Nat) : nx t c i i = cnt (t.cols.take c) i := by unfold nx; rw [if_neg (Nat.lt_irrefl _)]
theorem nx_none {t : Tab} {c i : Nat} (hc : c < t.cols.length) (h : atC t c i = -1) (j : Nat) : nx t c (i + 1) j = nx t c i j := by
  unfold nx
  by_cases e : j = i
  · subst e
    rw [if_pos (by omega), if_neg (by omega), cnt_take _ _ _ hc, if_pos (show (t.cols.getD c []).getD j 0 = -1 from h)]; omega
  · by_cases e2 : j < i
    · rw [if_pos (by omega), if_pos e2]
    · rw [if_neg (by omega), if_neg e2]
theorem nx_some {t : Tab} {c i : Nat} (hc : c < t.cols.length) (h : atC t c i ≠ -1) : nx t c (i + 1) i = nx t c i i + 1 ∧ ∀ j, j ≠ i → nx t c (i + 1) j = nx t c i j := by
  unfold nx
  refine ⟨?_, fun j e => ?_⟩
  · rw [if_pos (by omega), if_neg (by omega), cnt_take _ _ _ hc, if_neg (show ¬ (t.cols.getD c []).getD i 0 = -1 from h)]
  · by_cases e2 : j < i
    · rw [if_pos (by omega), if_pos e2]
    · rw [if_neg (by omega), if_neg e2]
theorem nx_end (t : Tab) (c j : Nat) (h : j < t.wits.length) : nx t c t.wits.length j = nx t (c + 1) 0 j := by
  unfold nx
  rw [if_pos h, if_neg (by omega)]
theorem nextL_none {t : Tab} {c i : Nat} (hc : c < t.cols.length) (h : atC t c i = -1) : nextL t c (i + 1) = nextL t c i := by
  unfold nextL
  exact List.map_congr_left (fun j _ => by rw [nx_none hc h])
theorem nextL_some {t : Tab} {c i : Nat} (hc : c < t.cols.length) (hi : i < t.wits.length) (h : atC t c i ≠ -1) : nextL t c (i + 1) = (nextL t c i).set i (((nx t c i i : Nat) : Int) + 1) := by
  obtain ⟨h1, h2⟩ := nx_some hc h
  refine List.ext_getElem? fun j => ?_
  rw [List.getElem?_set]
  unfold nextL
  simp only [List.getElem?_map, List.length_map, List.length_range]
  by_cases e : i = j
  · subst e
    rw [if_pos rfl, if_pos hi, List.getElem?_range hi, Option.map_some, h1]; rfl
  · rw [if_neg e]
    by_cases hj : j < t.wits.length
    · rw [List.getElem?_range hj, Option.map_some, Option.map_some, h2 j (fun e' => e e'.symm)]
    · rw [List.getElem?_eq_none (by simpa using hj)]; rfl
theorem nextL_end (t : Tab) (c : Nat) : nextL t c t.wits.length = nextL t (c + 1) 0 := by
  unfold nextL
  exact List.map_congr_left (fun j hj => by rw [nx_end t c j (by simpa using hj)])
theorem nextL_zero (t : Tab) : nextL t 0 0 = List.replicate t.wits.length 0 := by
  refine List.ext_getElem (by simp [nextL]) fun j k1 k2 => ?_
  simp [nextL, nx, cnt]
def lens (t : Tab) (i : Nat) : Nat := (witAt t i).words.length
def tot (t : Tab) : Nat := sumR (lens t) t.wits.length
def sumN (t : Tab) (c i : Nat) : Nat := sumR (nx t c i) t.wits.length
theorem sumN_none {t : Tab} {c i : Nat} (hc : c < t.cols.length) (h : atC t c i = -1) : sumN t c (i + 1) = sumN t c i := sumR_congr _ (fun j _ => nx_none hc h j)
theorem sumN_some {t : Tab} {c i : Nat} (hc : c < t.cols.length) (hi : i < t.wits.length) (h : atC t c i ≠ -1) : sumN t c (i + 1) = sumN t c i + 1 := sumR_upd _ hi (nx_some hc h).1 (nx_some hc h).2
theorem sumN_end (t : Tab) (c : Nat) : sumN t c t.wits.length = sumN t (c + 1) 0 := sumR_congr _ (fun j hj => nx_end t c j hj)
/-- No more words than there are. -/
def LeT (t : Tab) (c i : Nat) : Prop := ∀ j, j < t.wits.length → nx t c i j ≤ lens t j
theorem le_some {t : Tab} {c i : Nat} (hc : c < t.cols.length) (hl : LeT t c i) (h : atC t c i ≠ -1) (hlt : nx t c i i < lens t i) : LeT t c (i + 1) := fun j hj => by
  by_cases e : j = i
  · subst e; rw [(nx_some hc h).1]; exact hlt
  · rw [(nx_some hc h).2 j e]; exact hl j hj
theorem le_none {t : Tab} {c i : Nat} (hc : c < t.cols.length) (hl : LeT t c i) (h : atC t c i = -1) : LeT t c (i + 1) := fun j hj => by rw [nx_none hc h]; exact hl j hj
theorem le_end {t : Tab} {c : Nat} (hl : LeT t c t.wits.length) : LeT t (c + 1) 0 := fun j hj => by rw [← nx_end t c j hj]; exact hl j hj
theorem le_sum {t : Tab} {c i : Nat} (hl : LeT t c i) : sumN t c i ≤ tot t := sumR_le _ hl
theorem nx_last (t : Tab) (j : Nat) : nx t t.cols.length 0 j = cnt t.cols j := by unfold nx; rw [if_neg (by omega), List.take_length]
theorem all_of {t : Tab} (hl : LeT t t.cols.length 0) (h : tot t ≤ sumN t t.cols.length 0) : ∀ i, i < t.wits.length → cnt t.cols i = (witAt t i).words.length := fun i hi => by
  have := sumR_eq _ hl h i hi
  rw [nx_last] at this; exact this
theorem sum_of {t : Tab} (h : ∀ i, i < t.wits.length → cnt t.cols i = (witAt t i).words.length) : sumN t t.cols.length 0 = tot t := sumR_congr _ (fun j hj => by rw [nx_last]; exact h j hj)
end Go.Proofs.YtnadacaoehpdnaaDoor.V

namespace Go.Proofs.YtnadacaoehpdnaaDoor.V
set_option linter.unusedVariables false
set_option linter.unusedSimpArgs false
open Go Go.Proofs Go.RowKit
set_option maxRecDepth 100000
set_option maxHeartbeats 2000000
open Go Go.Proofs Go.Proofs.YtnadacaoehpdnaaDoor.V
theorem wrong37_fn (o : Int) : Fn Tryd.prog 63 [.int .i64 o] (.bool (decide (o < 0 ∨ 31 < o))) := by
  refine Fn.of Tryd.f63 _ Tryd.func63 rfl (by decide) (by show 1 ≤ _; decide) tbOk 9 rfl fun S w0 gl => ?_
  refine Run.go ?_; (conv => whnf); repeat' (first | ((with_reducible refine Know.mk fun _ => ?_); conv => whnf) | ((with_reducible refine Need.mk ?_ ?_); exact nd; conv => whnf) | ((with_reducible first | refine Both.mk ?_ ?_ | refine Any.mk fun b hb => ?_ | refine AskB.dec (fun hb => ?_) (fun hb => ?_) | refine AskB.ndec (fun hb => ?_) (fun hb => ?_) | refine AskB.mk (fun hb => ?_) (fun hb => ?_)) <;> conv => whnf) | ((with_reducible first | refine Run.drawX rfl (by decide +kernel) ?_ | refine Run.drawT rfl (by decide +kernel) ?_ | refine Run.drawW rfl (by decide +kernel) ?_); conv => whnf))
  · exact Run.leave (ts := [2]) (.inr ⟨_, rfl⟩) rfl Tryd.func63 rfl (Le.tt.trans (Le.bool (decide_eq_true (.inl hb)).symm))
  · refine Run.leave (ts := [2]) (.inr ⟨_, rfl⟩) rfl Tryd.func63 rfl (Le.bool ?_)
    by_cases h : 31 < o
    · rw [decide_eq_true h, decide_eq_true (.inr h)]
    · rw [decide_eq_false h, decide_eq_false (fun h2 => h2.elim hb h)]
def letterV (r : Int) : Int := if r = 118 ∨ r = 86 ∨ r = 106 ∨ r = 74 then r - 1 else r
theorem letter55_fn (r : Int) : Fn Tryd.prog 83 [.int .i32 r] (.int .i32 (letterV r)) := by
  refine Fn.of Tryd.f83 _ Tryd.func83 rfl (by decide) (by show 1 ≤ _; decide) tbOk 12 rfl fun S w0 gl => ?_
  have hw : r = 118 ∨ r = 86 ∨ r = 106 ∨ r = 74 → IntKind.i32.wrap (r - 1) = letterV r := fun h => by
    unfold letterV
    rw [if_pos h]
    exact wrap32 (by omega) (by omega)
  refine Run.go ?_; (conv => whnf); repeat' (first | ((with_reducible refine Know.mk fun _ => ?_); conv => whnf) | ((with_reducible refine Need.mk ?_ ?_); exact nd; conv => whnf) | ((with_reducible first | refine Both.mk ?_ ?_ | refine Any.mk fun b hb => ?_ | refine AskB.dec (fun hb => ?_) (fun hb => ?_) | refine AskB.ndec (fun hb => ?_) (fun hb => ?_) | refine AskB.mk (fun hb => ?_) (fun hb => ?_)) <;> conv => whnf) | ((with_reducible first | refine Run.drawX rfl (by decide +kernel) ?_ | refine Run.drawT rfl (by decide +kernel) ?_ | refine Run.drawW rfl (by decide +kernel) ?_); conv => whnf))
  iterate 4 (· exact Run.leave (ts := [2]) (.inr ⟨_, rfl⟩) rfl Tryd.func83 rfl (Le.int (hw (by omega))))
  · refine Run.leave (ts := [2]) (.inr ⟨_, rfl⟩) rfl Tryd.func83 rfl (Le.int ?_)
    unfold letterV
    rw [if_neg (by omega)]
theorem ofInt_nat (n : Nat) (h : n < 4294967296) : (BitVec.ofInt IntKind.i32.bits (n : Int)).toNat = n := by
  show (BitVec.ofInt 32 (n : Int)).toNat = n
  rw [BitVec.toNat_ofInt]
  omega
theorem and1_i32 (r : Int) (h1 : 0 ≤ r) (h2 : r < 2147483648) : IntKind.i32.wrap ↑(BitVec.ofInt IntKind.i32.bits r &&& BitVec.ofInt IntKind.i32.bits 1).toNat = r % 2 := by
  obtain ⟨n, rfl⟩ : ∃ n : Nat, r = (n : Int) := ⟨r.toNat, by omega⟩
  have e : (BitVec.ofInt IntKind.i32.bits (n : Int) &&& BitVec.ofInt IntKind.i32.bits 1).toNat = n % 2 := by
    rw [BitVec.toNat_and, ofInt_nat n (by omega), show (BitVec.ofInt IntKind.i32.bits 1).toNat = 1 from rfl, Nat.and_one_is_mod]
  rw [e]
  rw [wrap32 (by omega) (by omega)]; omega
theorem or1_i32 (r : Int) (h1 : 0 ≤ r) (h2 : r < 2147483647) : IntKind.i32.wrap ↑(BitVec.ofInt IntKind.i32.bits r ||| BitVec.ofInt IntKind.i32.bits 1).toNat = r + 1 - r % 2 := by
  obtain ⟨n, rfl⟩ : ∃ n : Nat, r = (n : Int) := ⟨r.toNat, by omega⟩
  have hor : ∀ m : Nat, m % 2 = 0 → m ||| 1 = m + 1 := fun m hm => by
    have := Nat.two_pow_add_eq_or_of_lt (i := 1) (b := 1) (by decide) (m / 2)
    have e1 : 2 ^ 1 * (m / 2) = m := by omega
    rw [e1] at this
    exact this.symm
  have e : (BitVec.ofInt IntKind.i32.bits (n : Int) ||| BitVec.ofInt IntKind.i32.bits 1).toNat = n + 1 - n % 2 := by
    rw [BitVec.toNat_or, ofInt_nat n (by omega), show (BitVec.ofInt IntKind.i32.bits 1).toNat = 1 from rfl]
    rcases Nat.mod_two_eq_zero_or_one n with h | h
    · rw [hor n h]; omega
    · have h3 := hor (n - 1) (by omega)
      have h4 : n - 1 + 1 = n := by omega
      rw [h4] at h3
      rw [← h3, Nat.or_assoc, Nat.or_self, h3]; omega
  rw [e]
  rw [wrap32 (by omega) (by omega)]; omega
/-- A rune's small form. -/
def lowV (r : Int) : Int :=
  if (65 ≤ r ∧ r ≤ 90) ∨ (192 ≤ r ∧ r ≤ 222 ∧ r ≠ 215) ∨ (913 ≤ r ∧ r ≤ 937 ∧ r ≠ 930) ∨ (1040 ≤ r ∧ r ≤ 1071) then r + 32
  else if 1024 ≤ r ∧ r < 1040 then r + 80
  else if r = 376 then 255 else if r = 962 then 963
  else if (313 ≤ r ∧ r ≤ 328) ∨ (377 ≤ r ∧ r ≤ 382) then r + r % 2
  else if (256 ≤ r ∧ r ≤ 311) ∨ (330 ≤ r ∧ r ≤ 375) ∨ (7680 ≤ r ∧ r ≤ 7829) then r + 1 - r % 2
  else r
theorem lower53_fn (r : Int) : Fn Tryd.prog 81 [.int .i32 r] (.int .i32 (lowV r)) := by
  have ha : 0 ≤ r → r < 7830 → IntKind.i32.wrap ↑(BitVec.ofInt IntKind.i32.bits r &&& BitVec.ofInt IntKind.i32.bits 1).toNat = r % 2 ∧ IntKind.i32.wrap ↑(BitVec.ofInt IntKind.i32.bits r ||| BitVec.ofInt IntKind.i32.bits 1).toNat = r + 1 - r % 2 := fun h1 h2 => ⟨and1_i32 r h1 (by omega), or1_i32 r h1 (by omega)⟩
  have h32 : ∀ x : Int, -1000000 ≤ x → x ≤ 1000000 → IntKind.i32.wrap x = x := fun x h1 h2 => wrap32 (by omega) (by omega)
  refine Fn.of Tryd.f81 _ Tryd.func81 rfl (by decide) (by show 1 ≤ _; decide) tbOk 92 rfl fun S w0 gl => ?_
  refine Run.go ?_; (conv => whnf); repeat' (first | ((with_reducible refine Know.mk fun _ => ?_); conv => whnf) | ((with_reducible refine Need.mk ?_ ?_); exact nd; conv => whnf) | ((with_reducible refine Both.mk ?_ ?_) <;> conv => whnf) | ((with_reducible refine Any.mk fun b hb => ?_); conv => whnf) | ((with_reducible first | refine AskB.dec (fun hb => ?_) (fun hb => ?_) | refine AskB.ndec (fun hb => ?_) (fun hb => ?_) | refine AskB.mk (fun hb => ?_) (fun hb => ?_)) <;> first | (exfalso; omega) | (conv => whnf)) | ((with_reducible first | refine Run.drawX rfl (by decide +kernel) ?_ | refine Run.drawT rfl (by decide +kernel) ?_ | refine Run.drawW rfl (by decide +kernel) ?_); conv => whnf))
  all_goals refine Run.leave (ts := [2]) (.inr ⟨_, rfl⟩) rfl Tryd.func81 rfl (Le.int ?_)
  all_goals unfold lowV
  all_goals first
    | (rw [if_pos (by omega)]; exact h32 _ (by omega) (by omega))
    | (rw [if_neg (by omega), if_pos (by omega)]; exact h32 _ (by omega) (by omega))
    | (rw [if_neg (by omega), if_neg (by omega), if_pos (by omega)])
    | (rw [if_neg (by omega), if_neg (by omega), if_neg (by omega), if_pos (by omega)])
    | (rw [if_neg (by omega), if_neg (by omega), if_neg (by omega), if_neg (by omega), if_pos (by omega), (ha (by omega) (by omega)).1]; exact h32 _ (by omega) (by omega))
    | (rw [if_neg (by omega), if_neg (by omega), if_neg (by omega), if_neg (by omega), if_neg (by omega), if_pos (by omega), (ha (by omega) (by omega)).2])
    | (rw [if_neg (by omega), if_neg (by omega), if_neg (by omega), if_neg (by omega), if_neg (by omega), if_neg (by omega)])
end Go.Proofs.YtnadacaoehpdnaaDoor.V

namespace Go.Proofs.YtnadacaoehpdnaaDoor.V
set_option linter.unusedVariables false
set_option linter.unusedSimpArgs false
open Go Go.Proofs Go.RowKit
set_option maxRecDepth 100000
set_option maxHeartbeats 2000000
open Go Go.Proofs Go.Proofs.YtnadacaoehpdnaaDoor.V
/-- What C0 to FF are without their marks: the program's text, where its runes stand, which they are. -/
def latB : ByteArray := ⟨#[65, 65, 65, 65, 65, 65, 195, 134, 67, 69, 69, 69, 69, 73, 73, 73, 73, 195, 144, 78, 79, 79, 79, 79, 79, 195, 151, 79, 85, 85, 85, 85, 89, 195, 158, 195, 159, 97, 97, 97, 97, 97, 97, 195, 166, 99, 101, 101, 101, 101, 105, 105, 105, 105, 195, 176, 110, 111, 111, 111, 111, 111, 195, 183, 111, 117, 117, 117, 117, 121, 195, 190, 121]⟩
def latP : List Nat := [0, 1, 2, 3, 4, 5, 6, 8, 9, 10, 11, 12, 13, 14, 15, 16, 17, 19, 20, 21, 22, 23, 24, 25, 27, 28, 29, 30, 31, 32, 33, 35, 37, 38, 39, 40, 41, 42, 43, 45, 46, 47, 48, 49, 50, 51, 52, 53, 54, 56, 57, 58, 59, 60, 61, 62, 64, 65, 66, 67, 68, 69, 70, 72, 73]
def latR : List Nat := [65, 65, 65, 65, 65, 65, 198, 67, 69, 69, 69, 69, 73, 73, 73, 73, 208, 78, 79, 79, 79, 79, 79, 215, 79, 85, 85, 85, 85, 89, 222, 223, 97, 97, 97, 97, 97, 97, 230, 99, 101, 101, 101, 101, 105, 105, 105, 105, 240, 110, 111, 111, 111, 111, 111, 247, 111, 117, 117, 117, 117, 121, 254, 121]
theorem lat_dec : ∀ k : Fin 64, Utf8.decode latB (latP.getD k.val 0) = (latR.getD k.val 0, latP.getD (k.val + 1) 0 - latP.getD k.val 0) ∧ latP.getD k.val 0 < latP.getD (k.val + 1) 0 ∧ latP.getD k.val 0 < 73 := by decide +kernel
/-- A rune without its mark. -/
def bareV (r : Int) : Int := if r < 192 ∨ 255 < r then r else latR.getD (r - 192).toNat 0
theorem unmarked54_fn (r : Int) : Fn Tryd.prog 82 [.int .i32 r] (.int .i32 (bareV r)) := by
  refine Fn.of Tryd.f82 _ Tryd.func82 rfl (by decide) (by show 1 ≤ _; decide) tbOk 24 rfl fun S w0 gl => ?_
  refine Run.go ?_; (conv => whnf); repeat' (first | ((with_reducible refine Know.mk fun _ => ?_); conv => whnf) | ((with_reducible refine Need.mk ?_ ?_); exact nd; conv => whnf) | ((with_reducible first | refine Both.mk ?_ ?_ | refine Any.mk fun b hb => ?_ | refine AskB.dec (fun hb => ?_) (fun hb => ?_) | refine AskB.ndec (fun hb => ?_) (fun hb => ?_) | refine AskB.mk (fun hb => ?_) (fun hb => ?_)) <;> conv => whnf) | ((with_reducible first | refine Run.drawX rfl (by decide +kernel) ?_ | refine Run.drawT rfl (by decide +kernel) ?_ | refine Run.drawW rfl (by decide +kernel) ?_); conv => whnf))
  · exact Run.leave (ts := [2]) (.inr ⟨_, rfl⟩) rfl Tryd.func82 rfl (Le.int (by unfold bareV; rw [if_pos (.inl hb)]))
  · exact Run.leave (ts := [2]) (.inr ⟨_, rfl⟩) rfl Tryd.func82 rfl (Le.int (by unfold bareV; rw [if_pos (.inr hb)]))
  rename_i hb1
  refine Run.loop [0, 13] (fun (k : Nat) => [(3, .int .i32 (192 + (k : Int)))]) (fun k => [(13, .iter latB (latP.getD k 0))]) (fun k => k ≤ 63 ∧ 192 + (k : Int) ≤ r) (fun k => 64 - k) 0 ⟨by omega, by omega⟩ ⟨Le.refl _, trivial⟩ ⟨MOle.refl _, trivial⟩ ?_
  intro k ⟨hk, hkr⟩ IH
  obtain ⟨hd, hlt, h73⟩ := lat_dec ⟨k, by omega⟩
  simp only at hd hlt h73
  show Run _ _ (lst (_ ++ [(3, .int .i32 (192 + (k : Int)))])) (lstH [(13, .iter latB (latP.getD k 0))])
  refine Run.go ?_; (conv => whnf); repeat' (first | ((with_reducible refine Know.mk fun _ => ?_); conv => whnf) | ((with_reducible refine Need.mk ?_ ?_); exact nd; conv => whnf) | ((with_reducible first | refine Both.mk ?_ ?_ | refine Any.mk fun b hb => ?_ | refine AskB.dec (fun hb => ?_) (fun hb => ?_) | refine AskB.ndec (fun hb => ?_) (fun hb => ?_) | refine AskB.mk (fun hb => ?_) (fun hb => ?_)) <;> conv => whnf) | ((with_reducible first | refine Run.drawX rfl (by decide +kernel) ?_ | refine Run.drawT rfl (by decide +kernel) ?_ | refine Run.drawW rfl (by decide +kernel) ?_); conv => whnf))
  · refine Run.leave (ts := [2]) (.inr ⟨_, rfl⟩) rfl Tryd.func82 rfl (Le.int ?_)
    unfold bareV
    rw [if_neg (by omega), hd, show (r - 192).toNat = k by omega]
  · refine Run.to _ _ ?_ ?_ (IH (k + 1) (by omega) ⟨by omega, by omega⟩)
    · exact ⟨Le.refl _, Le.refl _, Le.int (by rw [wrap32 (by omega) (by omega)]; omega), trivial⟩
    · refine ⟨?_, trivial⟩
      rw [hd, show latP.getD k 0 + (latP.getD (k + 1) 0 - latP.getD k 0) = latP.getD (k + 1) 0 by omega]
      exact MOle.refl _
  · exact absurd h73 hb
end Go.Proofs.YtnadacaoehpdnaaDoor.V

namespace Go.Proofs.YtnadacaoehpdnaaDoor.V
set_option linter.unusedVariables false
set_option linter.unusedSimpArgs false
open Go Go.Proofs Go.RowKit
set_option maxRecDepth 100000
set_option maxHeartbeats 4000000
open Go Go.Proofs Go.Proofs.YtnadacaoehpdnaaDoor.V
def ffB : ByteArray := ⟨#[102, 102, 32, 102, 105, 32, 102, 108, 32, 102, 102, 105, 32, 102, 102, 108, 32, 115, 116, 32, 115, 116]⟩
def ffL : List ByteArray := [⟨#[102, 102]⟩, ⟨#[102, 105]⟩, ⟨#[102, 108]⟩, ⟨#[102, 102, 105]⟩, ⟨#[102, 102, 108]⟩, ⟨#[115, 116]⟩, ⟨#[115, 116]⟩]
def ffN : List Nat := [0, 1, 1, 1, 2, 2, 2, 3, 3, 3, 4, 4, 4, 4, 5, 5, 5, 5, 6, 6, 6, 7, 7]
def ffW : List Nat := [1, 0, 0, 1, 0, 0, 1, 0, 0, 1, 0, 0, 0, 1, 0, 0, 0, 1, 0, 0, 1, 0, 0]
def ffS : List Nat := [0, 102, 102, 102, 102, 111, 111, 111, 111, 111, 111, 111, 111, 111, 111, 111, 111, 111, 127, 127, 127, 127, 127]
def ffA : List Nat := [0, 0, 0, 1, 1, 1, 2, 2, 2, 3, 3, 3, 3, 4, 4, 4, 4, 5, 5, 5, 6, 6, 6]
def ffT : List Nat := [0, 0, 0, 3, 3, 3, 6, 6, 6, 9, 9, 9, 9, 13, 13, 13, 13, 17, 17, 17, 20, 20, 20]
def ffR (j : Nat) : List ByteArray := ffL.take (ffA.getD j 0) ++ List.replicate (7 - ffA.getD j 0) .empty
theorem ffR_len : ∀ j : Fin 23, (ffR j.val).length = 7 := by decide +kernel
theorem ff_idx : ∀ j : Fin 22, ((ascT (idx (bt ffB ((j.val : Nat) : Int).toNat).toNat 1 0) = 0 ∧ ffA.getD (j.val + 1) 0 = ffA.getD j.val 0 ∧ ffT.getD (j.val + 1) 0 = ffT.getD j.val 0) ∨
    (ascT (idx (bt ffB ((j.val : Nat) : Int).toNat).toNat 1 0) = 1 ∧ ffA.getD (j.val + 1) 0 = ffA.getD j.val 0 + 1 ∧ ffT.getD (j.val + 1) 0 = j.val + 1 ∧ j.val + 1 < 22 ∧ ascT (idx (bt ffB (IntKind.i64.wrap (((j.val : Nat) : Int) + 1)).toNat).toNat 1 0) = 0 ∧ ffA.getD j.val 0 < 7)) ∧ ffT.getD j.val 0 ≤ j.val := by decide +kernel
theorem ff_set : ∀ j : Fin 22, ffA.getD (j.val + 1) 0 = ffA.getD j.val 0 + 1 → (ffR j.val).set (ffA.getD j.val 0) (ffB.extract (ffT.getD j.val 0) j.val) = ffR (j.val + 1) := by decide +kernel
theorem fields73_fn : Fn Tryd.prog 103 [.str ffB] (tS.L ffL) := by
  have hsz : ffB.size = 22 := rfl
  have hbt : ∀ i, 0 ≤ bt ffB i ∧ bt ffB i < 256 := fun i => ⟨Int.natCast_nonneg _, by unfold bt; have := (ffB.data.toList.getD i 0).toNat_lt; omega⟩
  refine Fn.of Tryd.f103 _ Tryd.func103 rfl (by decide) (by show 1 ≤ _; decide) tbOk 106 rfl fun S w0 gl => ?_
  refine Run.go ?_; (conv => whnf); repeat' (first | ((with_reducible refine Know.mk fun _ => ?_); conv => whnf) | ((with_reducible refine Need.mk ?_ ?_); exact nd; conv => whnf) | ((with_reducible first | refine Both.mk ?_ ?_ | refine Any.mk fun b hb => ?_ | refine AskB.dec (fun hb => ?_) (fun hb => ?_) | refine AskB.ndec (fun hb => ?_) (fun hb => ?_) | refine AskB.mk (fun hb => ?_) (fun hb => ?_)) <;> conv => whnf) | ((with_reducible first | refine Run.drawX rfl (by decide +kernel) ?_ | refine Run.drawT rfl (by decide +kernel) ?_ | refine Run.drawW rfl (by decide +kernel) ?_); conv => whnf))
  refine Run.loop [0] (fun (j : Nat) => [(3, .int .i64 (ffN.getD j 0)), (4, .int .i64 (ffW.getD j 0)), (5, .int .u8 (ffS.getD j 0)), (6, .int .i64 j)]) (fun _ => []) (fun j => j ≤ 22) (fun j => 22 - j) 0 (by omega) ⟨Le.refl _, Le.refl _, Le.refl _, Le.refl _, trivial⟩ trivial ?_
  intro j hj IH
  show Run _ _ (lst (_ ++ [(3, .int .i64 (ffN.getD j 0)), (4, .int .i64 (ffW.getD j 0)), (5, .int .u8 (ffS.getD j 0)), (6, .int .i64 j)])) (lstH [])
  have hb8 := hbt (j : Int).toNat
  by_cases hj22 : j = 22
  · subst hj22
    show Run _ _ (lst [(0, .str ffB), (3, .int .i64 7), (4, .int .i64 0), (5, .int .u8 127), (6, .int .i64 22)]) (lstH [])
    refine Run.go ?_; (conv => whnf); repeat' (first | ((with_reducible refine Know.mk fun _ => ?_); conv => whnf) | ((with_reducible refine Need.mk ?_ ?_); exact nd; conv => whnf) | ((with_reducible first | refine Both.mk ?_ ?_ | refine Any.mk fun b hb => ?_ | refine AskB.dec (fun hb => ?_) (fun hb => ?_) | refine AskB.ndec (fun hb => ?_) (fun hb => ?_) | refine AskB.mk (fun hb => ?_) (fun hb => ?_)) <;> conv => whnf) | ((with_reducible first | refine Run.drawX rfl (by decide +kernel) ?_ | refine Run.drawT rfl (by decide +kernel) ?_ | refine Run.drawW rfl (by decide +kernel) ?_); conv => whnf))
    all_goals try exact absurd hb (by decide)
    refine Run.go ?_; (conv => whnf); repeat' (first | ((with_reducible refine Know.mk fun _ => ?_); conv => whnf) | ((with_reducible refine Need.mk ?_ ?_); exact nd; conv => whnf) | ((with_reducible first | refine Both.mk ?_ ?_ | refine Any.mk fun b hb => ?_ | refine AskB.dec (fun hb => ?_) (fun hb => ?_) | refine AskB.ndec (fun hb => ?_) (fun hb => ?_) | refine AskB.mk (fun hb => ?_) (fun hb => ?_)) <;> conv => whnf) | ((with_reducible first | refine Run.drawX rfl (by decide +kernel) ?_ | refine Run.drawT rfl (by decide +kernel) ?_ | refine Run.drawW rfl (by decide +kernel) ?_); conv => whnf))
    case _ =>
      refine Run.loop [0, 9] (fun (j : Nat) => [(10, .int .i64 (ffA.getD j 0)), (11, .int .i64 (ffT.getD j 0)), (12, .int .i64 j)]) (fun j => [(41, tS.R 9 (ffR j))]) (fun j => j ≤ 22) (fun j => 22 - j) 0 (by omega) ⟨Le.refl _, Le.refl _, Le.refl _, trivial⟩ ⟨⟨rfl, rfl, rfl, fun i j hi hj => ?_⟩, trivial⟩ ?_
      · have hj0 : j = 0 := by have : j < 1 := hj; omega
        subst hj0
        have hi7 : i < 7 := hi
        obtain ⟨i, rfl⟩ : ∃ k : Fin 7, k.val = i := ⟨⟨i, hi7⟩, rfl⟩
        have : (ffR 0).getD i.val .empty = .empty := by clear hi hi7 hj hbt hb8 hb; revert i; decide +kernel
        exact Le.str this.symm
      intro j hj IH
      show Run _ _ (lst (_ ++ [(10, .int .i64 (ffA.getD j 0)), (11, .int .i64 (ffT.getD j 0)), (12, .int .i64 j)])) (lstH [(41, tS.R 9 (ffR j))])
      by_cases hj22 : j = 22
      · subst hj22
        show Run _ _ (lst [(0, .str ffB), (9, .row 41), (10, .int .i64 6), (11, .int .i64 20), (12, .int .i64 22)]) (lstH [(41, tS.R 9 (ffR 22))])
        have h8 : ((ffR 22).length : Int) = 7 := rfl
        refine Run.go ?_; (conv => whnf); repeat' (first | ((with_reducible refine Know.mk fun _ => ?_); conv => whnf) | ((with_reducible refine Need.mk ?_ ?_); exact nd; conv => whnf) | ((with_reducible first | refine Both.mk ?_ ?_ | refine Any.mk fun b hb => ?_ | refine AskB.dec (fun hb => ?_) (fun hb => ?_) | refine AskB.ndec (fun hb => ?_) (fun hb => ?_) | refine AskB.mk (fun hb => ?_) (fun hb => ?_)) <;> conv => whnf) | ((with_reducible first | refine Run.drawX rfl (by decide +kernel) ?_ | refine Run.drawT rfl (by decide +kernel) ?_ | refine Run.drawW rfl (by decide +kernel) ?_); conv => whnf))
        all_goals try (exfalso; omega)
        refine Run.leave (ts := [2]) (.inr ⟨_, rfl⟩) rfl Tryd.func103 rfl ?_
        show Le (.sl 7 1 _) (.sl 7 1 (tS.G ffL))
        refine Le.sl (fun i k hi hk => ?_)
        obtain rfl : k = 0 := by omega
        match i, hi with
        | 0, _ => exact Le.refl _
        | 1, _ => exact Le.refl _
        | 2, _ => exact Le.refl _
        | 3, _ => exact Le.refl _
        | 4, _ => exact Le.refl _
        | 5, _ => exact Le.refl _
        | 6, _ => exact Le.refl _
      have hb9 := hbt (j : Int).toNat
      have hb10 := hbt (IntKind.i64.wrap ((j : Int) + 1)).toNat
      obtain ⟨hf1, hf2⟩ := ff_idx ⟨j, by omega⟩
      simp only [] at hf1 hf2
      have hwj : IntKind.i64.wrap ((j : Int) + 1) = ((j + 1 : Nat) : Int) := by rw [wrap64 (by omega) (by omega)]; omega
      have hla : (ffR j).length = 7 := (ffR_len ⟨j, by omega⟩)
      refine Run.go ?_; (conv => whnf); repeat' (first | ((with_reducible refine Know.mk fun _ => ?_); conv => whnf) | ((with_reducible refine Need.mk ?_ ?_); exact nd; conv => whnf) | ((with_reducible first | refine Both.mk ?_ ?_ | refine Any.mk fun b hb => ?_ | refine AskB.dec (fun hb => ?_) (fun hb => ?_) | refine AskB.ndec (fun hb => ?_) (fun hb => ?_) | refine AskB.mk (fun hb => ?_) (fun hb => ?_)) <;> conv => whnf) | ((with_reducible first | refine Run.drawX rfl (by decide +kernel) ?_ | refine Run.drawT rfl (by decide +kernel) ?_ | refine Run.drawW rfl (by decide +kernel) ?_); conv => whnf))
      all_goals try (exfalso; omega)
      case _ =>
        refine Run.to _ _ ?_ ?_ (IH (j + 1) (by omega) (by omega))
        · exact ⟨Le.refl _, Le.refl _, Le.int (by omega), Le.int (by omega), Le.int hwj, trivial⟩
        · refine ⟨?_, trivial⟩
          rw [show ffR (j + 1) = ffR j by unfold ffR; rw [show ffA.getD (j + 1) 0 = ffA.getD j 0 by omega]]
          exact MOle.refl _
      have hcut := ff_set ⟨j, by omega⟩ (by simp only []; omega)
      simp only [] at hcut
      refine Run.go ?_; (conv => whnf); repeat' (first | ((with_reducible refine Know.mk fun _ => ?_); conv => whnf) | ((with_reducible refine Need.mk ?_ ?_); exact nd; conv => whnf) | ((with_reducible first | refine Both.mk ?_ ?_ | refine Any.mk fun b hb => ?_ | refine AskB.dec (fun hb => ?_) (fun hb => ?_) | refine AskB.ndec (fun hb => ?_) (fun hb => ?_) | refine AskB.mk (fun hb => ?_) (fun hb => ?_)) <;> conv => whnf) | ((with_reducible first | refine Run.drawX rfl (by decide +kernel) ?_ | refine Run.drawT rfl (by decide +kernel) ?_ | refine Run.drawW rfl (by decide +kernel) ?_); conv => whnf))
      all_goals try (exfalso; omega)
      refine Run.to _ _ ?_ ?_ (IH (j + 1) (by omega) (by omega))
      · exact ⟨Le.refl _, Le.refl _, Le.int (by rw [wrap64 (by omega) (by omega)]; omega), Le.int (by omega), Le.int hwj, trivial⟩
      · refine ⟨?_, trivial⟩
        rw [← hcut]
        exact tS.set 9 (ffR j) _ _ (by rw [hla]; omega) _ rfl (fun k y hk => by
          match k, hk with
          | 0, hk => cases hk; exact Le.refl _)
    case _ => exact absurd hb (by decide)
    all_goals exact absurd hb (by decide)
  refine Run.go ?_; (conv => whnf); repeat' (first | ((with_reducible refine Know.mk fun _ => ?_); conv => whnf) | ((with_reducible refine Need.mk ?_ ?_); exact nd; conv => whnf) | ((with_reducible first | refine Both.mk ?_ ?_ | refine Any.mk fun b hb => ?_ | refine AskB.dec (fun hb => ?_) (fun hb => ?_) | refine AskB.ndec (fun hb => ?_) (fun hb => ?_) | refine AskB.mk (fun hb => ?_) (fun hb => ?_)) <;> conv => whnf) | ((with_reducible first | refine Run.drawX rfl (by decide +kernel) ?_ | refine Run.drawT rfl (by decide +kernel) ?_ | refine Run.drawW rfl (by decide +kernel) ?_); conv => whnf))
  all_goals try (exfalso; omega)
  refine Run.to _ _ ?_ ?_ (IH (j + 1) (by omega) (by omega))
  · obtain ⟨j, rfl⟩ : ∃ k : Fin 22, k.val = j := ⟨⟨j, by omega⟩, rfl⟩
    clear IH hb8 hj hbt hsz hb
    refine ⟨Le.refl _, Le.int ?_, Le.int ?_, Le.int ?_, Le.int ?_, trivial⟩
    · revert j; decide +kernel
    · revert j; decide +kernel
    · revert j; decide +kernel
    · revert j; decide +kernel
  · trivial
/-- What a rune stands for. -/
def isLig (r : Int) : Bool := decide (r = 198 ∨ r = 230 ∨ r = 338 ∨ r = 339 ∨ r = 223 ∨ r = 383 ∨ r = 306 ∨ r = 307 ∨ (64256 ≤ r ∧ r ≤ 64262))
def ligB (r : Int) : ByteArray := if r = 198 then ⟨#[65, 69]⟩ else if r = 230 then ⟨#[97, 101]⟩ else if r = 338 then ⟨#[79, 69]⟩ else if r = 339 then ⟨#[111, 101]⟩ else if r = 223 then ⟨#[115, 115]⟩ else if r = 383 then ⟨#[115]⟩
  else if r = 306 then ⟨#[73, 74]⟩ else if r = 307 then ⟨#[105, 106]⟩ else if 64256 ≤ r ∧ r ≤ 64262 then ffL.getD (r - 64256).toNat .empty else .empty
theorem ligature59_fn (r : Int) : Fn Tryd.prog 87 [.int .i32 r] (tupL [.str (ligB r), .bool (isLig r)]) := by
  have h32 : 64256 ≤ r → r ≤ 64262 → IntKind.i32.wrap (r - 64256) = r - 64256 := fun h1 h2 => wrap32 (by omega) (by omega)
  have hyes : (r = 198 ∨ r = 230 ∨ r = 338 ∨ r = 339 ∨ r = 223 ∨ r = 383 ∨ r = 306 ∨ r = 307 ∨ (64256 ≤ r ∧ r ≤ 64262)) → isLig r = true := fun h => decide_eq_true h
  have hno : ¬ (r = 198 ∨ r = 230 ∨ r = 338 ∨ r = 339 ∨ r = 223 ∨ r = 383 ∨ r = 306 ∨ r = 307 ∨ (64256 ≤ r ∧ r ≤ 64262)) → isLig r = false := fun h => decide_eq_false h
  refine Fn.of Tryd.f87 _ Tryd.func87 rfl (by decide) (by show 1 ≤ _; decide) tbOk 32 rfl fun S w0 gl => ?_
  refine Run.go ?_; (conv => whnf); repeat' (first | ((with_reducible refine Know.mk fun _ => ?_); conv => whnf) | ((with_reducible refine Need.mk ?_ ?_); exact nd; conv => whnf) | ((with_reducible refine Both.mk ?_ ?_) <;> conv => whnf) | ((with_reducible refine Any.mk fun b hb => ?_); conv => whnf) | ((with_reducible first | refine AskB.dec (fun hb => ?_) (fun hb => ?_) | refine AskB.ndec (fun hb => ?_) (fun hb => ?_) | refine AskB.mk (fun hb => ?_) (fun hb => ?_)) <;> first | (exfalso; omega) | (conv => whnf)) | ((with_reducible first | refine Run.drawX rfl (by decide +kernel) ?_ | refine Run.drawT rfl (by decide +kernel) ?_ | refine Run.drawW rfl (by decide +kernel) ?_); conv => whnf))
  iterate 8 (· exact Run.leave (ts := [2,3]) (.inr ⟨_, rfl⟩) rfl Tryd.func87 rfl (resT ⟨Le.str (by subst hb; rfl), Le.tt.trans (Le.bool (hyes (by omega)).symm), trivial⟩))
  · rename_i hb1
    refine Run.callBX fields73_fn rfl rfl ⟨Le.refl _, trivial⟩ rfl rfl rfl ?_
    have hw := h32 hb1 hb
    have hl : (ffL.length : Int) = 7 := rfl
    (conv => whnf); repeat' (first | ((with_reducible refine Know.mk fun _ => ?_); conv => whnf) | ((with_reducible refine Need.mk ?_ ?_); exact nd; conv => whnf) | ((with_reducible first | refine Both.mk ?_ ?_ | refine Any.mk fun b hb => ?_ | refine AskB.dec (fun hb => ?_) (fun hb => ?_) | refine AskB.ndec (fun hb => ?_) (fun hb => ?_) | refine AskB.mk (fun hb => ?_) (fun hb => ?_)) <;> conv => whnf) | ((with_reducible first | refine Run.drawX rfl (by decide +kernel) ?_ | refine Run.drawT rfl (by decide +kernel) ?_ | refine Run.drawW rfl (by decide +kernel) ?_); conv => whnf))
    refine Run.leave (ts := [2,3]) (.inr ⟨_, rfl⟩) rfl Tryd.func87 rfl (resT ⟨Le.str ?_, Le.tt.trans (Le.bool (hyes (by omega)).symm), trivial⟩)
    rw [hw]
    unfold ligB
    rw [if_neg (by omega), if_neg (by omega), if_neg (by omega), if_neg (by omega), if_neg (by omega), if_neg (by omega), if_neg (by omega), if_neg (by omega), if_pos ⟨hb1, hb⟩]
    rfl
  all_goals refine Run.leave (ts := [2,3]) (.inr ⟨_, rfl⟩) rfl Tryd.func87 rfl (resT ⟨Le.str ?_, Le.ff.trans (Le.bool (hno (by omega)).symm), trivial⟩)
  all_goals
    unfold ligB
    rw [if_neg (by omega), if_neg (by omega), if_neg (by omega), if_neg (by omega), if_neg (by omega), if_neg (by omega), if_neg (by omega), if_neg (by omega), if_neg (by omega)]
    rfl
end Go.Proofs.YtnadacaoehpdnaaDoor.V

namespace Go.Proofs.YtnadacaoehpdnaaDoor.V
set_option linter.unusedVariables false
set_option linter.unusedSimpArgs false
open Go Go.Proofs Go.RowKit
set_option maxRecDepth 100000
set_option maxHeartbeats 2000000
open Go Go.Proofs Go.Proofs.YtnadacaoehpdnaaDoor.V
def tF : Ty Nat := ⟨1, fun f _ => .fn f, 81⟩
def stepsF (opt : Int) : List Nat := (if opt % 2 = 1 then [81] else []) ++ (if opt / 2 % 2 = 1 then [82] else []) ++ (if opt / 8 % 2 = 1 then [83] else [])
theorem bits32 : ∀ o : Fin 32, IntKind.i64.wrap ↑(BitVec.ofInt IntKind.i64.bits (o.val : Int) &&& BitVec.ofInt IntKind.i64.bits 1).toNat = (o.val : Int) % 2 ∧
    IntKind.i64.wrap ↑(BitVec.ofInt IntKind.i64.bits (o.val : Int) &&& BitVec.ofInt IntKind.i64.bits 2).toNat = 2 * ((o.val : Int) / 2 % 2) ∧
    IntKind.i64.wrap ↑(BitVec.ofInt IntKind.i64.bits (o.val : Int) &&& BitVec.ofInt IntKind.i64.bits 4).toNat = 4 * ((o.val : Int) / 4 % 2) ∧
    IntKind.i64.wrap ↑(BitVec.ofInt IntKind.i64.bits (o.val : Int) &&& BitVec.ofInt IntKind.i64.bits 8).toNat = 8 * ((o.val : Int) / 8 % 2) ∧
    IntKind.i64.wrap ↑(BitVec.ofInt IntKind.i64.bits (o.val : Int) &&& BitVec.ofInt IntKind.i64.bits 16).toNat = 16 * ((o.val : Int) / 16 % 2) := by decide +kernel
theorem steps38_fn (o : Int) (h0 : 0 ≤ o) (h1 : o ≤ 31) : Fn Tryd.prog 64 [.int .i64 o] (tF.L (stepsF o)) := by
  obtain ⟨k, rfl⟩ : ∃ k : Fin 32, (k.val : Int) = o := ⟨⟨o.toNat, by omega⟩, by simp only []; omega⟩
  obtain ⟨e1, e2, e4, e8, e16⟩ := bits32 k
  refine Fn.of Tryd.f64 _ Tryd.func64 rfl (by decide) (by show 1 ≤ _; decide) tbOk 13 rfl fun S w0 gl => ?_
  refine Run.go ?_; (conv => whnf); repeat' (first | ((with_reducible refine Know.mk fun _ => ?_); conv => whnf) | ((with_reducible refine Need.mk ?_ ?_); exact nd; conv => whnf) | ((with_reducible first | refine Both.mk ?_ ?_ | refine Any.mk fun b hb => ?_ | refine AskB.dec (fun hb => ?_) (fun hb => ?_) | refine AskB.ndec (fun hb => ?_) (fun hb => ?_) | refine AskB.mk (fun hb => ?_) (fun hb => ?_)) <;> conv => whnf) | ((with_reducible first | refine Run.drawX rfl (by decide +kernel) ?_ | refine Run.drawT rfl (by decide +kernel) ?_ | refine Run.drawW rfl (by decide +kernel) ?_); conv => whnf))
  refine Run.makeFunc rfl rfl rfl rfl rfl ?_
  refine Run.holdBoxNil 3 0 90 138 1 (fun _ _ => .u) (by rfl) (by rfl) rfl rfl ?_
  refine Run.tidy [3, 4, 5] [1, 3, 5, 90] ?_; (conv => whnf)
  refine Run.go ?_; (conv => whnf); repeat' (first | ((with_reducible refine Know.mk fun _ => ?_); conv => whnf) | ((with_reducible refine Need.mk ?_ ?_); exact nd; conv => whnf) | ((with_reducible first | refine Both.mk ?_ ?_ | refine Any.mk fun b hb => ?_ | refine AskB.dec (fun hb => ?_) (fun hb => ?_) | refine AskB.ndec (fun hb => ?_) (fun hb => ?_) | refine AskB.mk (fun hb => ?_) (fun hb => ?_)) <;> conv => whnf) | ((with_reducible first | refine Run.drawX rfl (by decide +kernel) ?_ | refine Run.drawT rfl (by decide +kernel) ?_ | refine Run.drawW rfl (by decide +kernel) ?_); conv => whnf))
  all_goals
    refine Run.inlineC 700 Tryd.f80 _ 14 rfl rfl rfl rfl rfl (by decide) Tryd.func80 rfl (by decide) rfl (by show 4 ≤ 14; decide) rfl rfl (fun a hsz hdf => ?_)
    refine Run.go ?_; (conv => whnf); repeat' (first | ((with_reducible refine Know.mk fun _ => ?_); conv => whnf) | ((with_reducible refine Need.mk ?_ ?_); exact nd; conv => whnf) | ((with_reducible first | refine Both.mk ?_ ?_ | refine Any.mk fun b hb => ?_ | refine AskB.dec (fun hb => ?_) (fun hb => ?_) | refine AskB.ndec (fun hb => ?_) (fun hb => ?_) | refine AskB.mk (fun hb => ?_) (fun hb => ?_)) <;> conv => whnf) | ((with_reducible first | refine Run.drawX rfl (by decide +kernel) ?_ | refine Run.drawT rfl (by decide +kernel) ?_ | refine Run.drawW rfl (by decide +kernel) ?_); conv => whnf))
    all_goals
      refine Run.back 700 (ts := []) hsz hdf (.inl rfl) (by rfl) Tryd.func80 rfl ?_
      try refine Run.holdBoxRow 3 0 90 13 (by rfl) (by rfl) (by rfl) rfl rfl rfl ?_
      refine Run.tidy [3, 4] [1, 3, 5, 90] ?_; (conv => whnf)
      refine Run.go ?_; (conv => whnf); repeat' (first | ((with_reducible refine Know.mk fun _ => ?_); conv => whnf) | ((with_reducible refine Need.mk ?_ ?_); exact nd; conv => whnf) | ((with_reducible first | refine Both.mk ?_ ?_ | refine Any.mk fun b hb => ?_ | refine AskB.dec (fun hb => ?_) (fun hb => ?_) | refine AskB.ndec (fun hb => ?_) (fun hb => ?_) | refine AskB.mk (fun hb => ?_) (fun hb => ?_)) <;> conv => whnf) | ((with_reducible first | refine Run.drawX rfl (by decide +kernel) ?_ | refine Run.drawT rfl (by decide +kernel) ?_ | refine Run.drawW rfl (by decide +kernel) ?_); conv => whnf))
  all_goals
    refine Run.inlineC 700 Tryd.f80 _ 14 rfl rfl rfl rfl rfl (by decide) Tryd.func80 rfl (by decide) rfl (by show 4 ≤ 14; decide) rfl rfl (fun a hsz hdf => ?_)
    refine Run.go ?_; (conv => whnf); repeat' (first | ((with_reducible refine Know.mk fun _ => ?_); conv => whnf) | ((with_reducible refine Need.mk ?_ ?_); exact nd; conv => whnf) | ((with_reducible first | refine Both.mk ?_ ?_ | refine Any.mk fun b hb => ?_ | refine AskB.dec (fun hb => ?_) (fun hb => ?_) | refine AskB.ndec (fun hb => ?_) (fun hb => ?_) | refine AskB.mk (fun hb => ?_) (fun hb => ?_)) <;> conv => whnf) | ((with_reducible first | refine Run.drawX rfl (by decide +kernel) ?_ | refine Run.drawT rfl (by decide +kernel) ?_ | refine Run.drawW rfl (by decide +kernel) ?_); conv => whnf))
    all_goals
      refine Run.back 700 (ts := []) hsz hdf (.inl rfl) (by rfl) Tryd.func80 rfl ?_
      try refine Run.holdBoxRow 3 0 90 13 (by rfl) (by rfl) (by rfl) rfl rfl rfl ?_
      refine Run.tidy [3, 4] [1, 3, 5, 90] ?_; (conv => whnf)
      refine Run.go ?_; (conv => whnf); repeat' (first | ((with_reducible refine Know.mk fun _ => ?_); conv => whnf) | ((with_reducible refine Need.mk ?_ ?_); exact nd; conv => whnf) | ((with_reducible first | refine Both.mk ?_ ?_ | refine Any.mk fun b hb => ?_ | refine AskB.dec (fun hb => ?_) (fun hb => ?_) | refine AskB.ndec (fun hb => ?_) (fun hb => ?_) | refine AskB.mk (fun hb => ?_) (fun hb => ?_)) <;> conv => whnf) | ((with_reducible first | refine Run.drawX rfl (by decide +kernel) ?_ | refine Run.drawT rfl (by decide +kernel) ?_ | refine Run.drawW rfl (by decide +kernel) ?_); conv => whnf))
  all_goals
    refine Run.inlineC 700 Tryd.f80 _ 14 rfl rfl rfl rfl rfl (by decide) Tryd.func80 rfl (by decide) rfl (by show 4 ≤ 14; decide) rfl rfl (fun a hsz hdf => ?_)
    refine Run.go ?_; (conv => whnf); repeat' (first | ((with_reducible refine Know.mk fun _ => ?_); conv => whnf) | ((with_reducible refine Need.mk ?_ ?_); exact nd; conv => whnf) | ((with_reducible first | refine Both.mk ?_ ?_ | refine Any.mk fun b hb => ?_ | refine AskB.dec (fun hb => ?_) (fun hb => ?_) | refine AskB.ndec (fun hb => ?_) (fun hb => ?_) | refine AskB.mk (fun hb => ?_) (fun hb => ?_)) <;> conv => whnf) | ((with_reducible first | refine Run.drawX rfl (by decide +kernel) ?_ | refine Run.drawT rfl (by decide +kernel) ?_ | refine Run.drawW rfl (by decide +kernel) ?_); conv => whnf))
    all_goals
      refine Run.back 700 (ts := []) hsz hdf (.inl rfl) (by rfl) Tryd.func80 rfl ?_
      try refine Run.holdBoxRow 3 0 90 13 (by rfl) (by rfl) (by rfl) rfl rfl rfl ?_
      refine Run.tidy [3, 4] [1, 3, 5, 90] ?_; (conv => whnf)
      refine Run.go ?_; (conv => whnf); repeat' (first | ((with_reducible refine Know.mk fun _ => ?_); conv => whnf) | ((with_reducible refine Need.mk ?_ ?_); exact nd; conv => whnf) | ((with_reducible first | refine Both.mk ?_ ?_ | refine Any.mk fun b hb => ?_ | refine AskB.dec (fun hb => ?_) (fun hb => ?_) | refine AskB.ndec (fun hb => ?_) (fun hb => ?_) | refine AskB.mk (fun hb => ?_) (fun hb => ?_)) <;> conv => whnf) | ((with_reducible first | refine Run.drawX rfl (by decide +kernel) ?_ | refine Run.drawT rfl (by decide +kernel) ?_ | refine Run.drawW rfl (by decide +kernel) ?_); conv => whnf))
  all_goals refine Run.leave (ts := [2]) (.inr ⟨_, rfl⟩) rfl Tryd.func64 rfl ?_
  all_goals unfold stepsF
  all_goals first | rw [if_pos (show (k.val : Int) % 2 = 1 by omega)] | rw [if_neg (show ¬ (k.val : Int) % 2 = 1 by omega)]
  all_goals first | rw [if_pos (show (k.val : Int) / 2 % 2 = 1 by omega)] | rw [if_neg (show ¬ (k.val : Int) / 2 % 2 = 1 by omega)]
  all_goals first | rw [if_pos (show (k.val : Int) / 8 % 2 = 1 by omega)] | rw [if_neg (show ¬ (k.val : Int) / 8 % 2 = 1 by omega)]
  all_goals
    refine Le.sl (fun i j hi hj => ?_)
    obtain rfl : j = 0 := by have : j < 1 := hj; omega
    first
    | (exact absurd (show i < 0 from hi) (Nat.not_lt_zero _))
    | (have h3 : i = 0 := by have : i < 1 := hi; omega
       subst h3; exact Le.refl _)
    | (have h3 : i = 0 ∨ i = 1 := by have : i < 2 := hi; omega
       rcases h3 with rfl | rfl <;> exact Le.refl _)
    | (have h3 : i = 0 ∨ i = 1 ∨ i = 2 := by have : i < 3 := hi; omega
       rcases h3 with rfl | rfl | rfl <;> exact Le.refl _)
end Go.Proofs.YtnadacaoehpdnaaDoor.V

namespace Go.Proofs.YtnadacaoehpdnaaDoor.V
set_option linter.unusedVariables false
set_option linter.unusedSimpArgs false
open Go Go.Proofs Go.RowKit
set_option maxRecDepth 100000
set_option maxHeartbeats 4000000
open Go Go.Proofs Go.Proofs.YtnadacaoehpdnaaDoor.V
theorem ws6 {N : Nat} {w0 : World} {S : Nat → Prop} {gl : GlobOk S w0} {f : FuncId} {R : Ending → World → Prop} {ops : Array Oper} {i : Nat} {rest : List Nat} {k : List Item} {env : Env} {h : Heap} {o : Oper} {x y : Operand}
    (p : AV) (t s : ByteArray) (ho : ops.toList[i]? = some o) (hc : calls? o = some (72, [x, y])) (hd : okD N o.dst = true) (hr : ready env ops o = true) (hx : ev (scrubE 900 env) x = .box 6 0) (hy : ev (scrubE 900 env) y = .str s)
    (hs : t.size + s.size ≤ 140737488355328) (hp : p = .nilp ∨ p = .box 6 0)
    (next : Run ⟨Tryd.prog, TB, tbOk, N, w0, S, gl, f, R⟩ (.inRegion ops rest :: k) (putE (envW 90 env) o.dst .u) (bldr 95 5 6 90 (heapW 90 h) (.box 6 0) (t ++ s))) :
    Run ⟨Tryd.prog, TB, tbOk, N, w0, S, gl, f, R⟩ (.inRegion ops (i :: rest) :: k) env (bldr 95 5 6 90 h p t) := by
  refine Run.inline 900 Tryd.f72 _ 19 ho hc Tryd.func72 rfl (by decide) rfl (by show 2 ≤ 19; decide) hd hr (fun a hsz hdf => ?_)
  simp only [List.map, hx, hy]
  have fin : ∀ (E : Env) (H : Heap) (X : AV), (∀ i, E i = scrub 14 (scrub 901 (scrub 900 (env i)))) → (∀ id, Nat.beq id 6 = false → Nat.beq id 90 = false → Nat.beq id 14 = false → Nat.beq id 901 = false → Nat.beq id 900 = false → H id = scrubM 90 (scrubM 14 (scrubM 901 (scrubM 900 (h id))))) →
      MOle (H 6) (.box 95 [.box 6 0, .row 90]) → MOle (H 90) (.row 5 1 (t ++ s).size (bytesG (t ++ s))) → Run ⟨Tryd.prog, TB, tbOk, N, w0, S, gl, f, R⟩ (.inRegion ops rest :: k) (scrubE 90 (putE E o.dst X)) H := by
    intro E H X hE hH h5 h90
    refine Run.weaken (fun i => ?_) (fun id => ?_) next
    · cases hdst : o.dst with
      | none => show Le (scrub 90 (E i)) _; rw [hE]; exact Le.refl _
      | some d =>
        show Le (scrub 90 (upd E d X i)) (upd (envW 90 env) d .u i)
        by_cases e : i = d
        · subst e; rw [upd_same, upd_same]; exact Le.u _
        · rw [upd_other _ _ e, upd_other _ _ e, hE]; exact Le.refl _
    · unfold bldr heapW
      cases e5 : Nat.beq id 6 with
      | true => have := Nat.eq_of_beq_eq_true e5; subst this; exact h5
      | false =>
      cases e90 : Nat.beq id 90 with
      | true => have := Nat.eq_of_beq_eq_true e90; subst this; exact h90
      | false =>
      cases e900 : Nat.beq id 900 with
      | true => simp only [upd, e5, e90, e900, cond_true, cond_false]; exact mole_dead _
      | false =>
      cases e901 : Nat.beq id 901 with
      | true => simp only [upd, e5, e90, e900, e901, cond_true, cond_false]; exact mole_dead _
      | false =>
      cases e14 : Nat.beq id 14 with
      | true => simp only [upd, e5, e90, e900, e901, e14, cond_true, cond_false]; exact mole_dead _
      | false =>
        rw [hH id e5 e90 e14 e901 e900]
        simp only [upd, e5, e90, e900, e901, e14, cond_true, cond_false]
        exact MOle.refl _
  rcases hp with rfl | rfl
  · refine Run.go ?_; (conv => whnf); repeat' (first | ((with_reducible refine Know.mk fun _ => ?_); conv => whnf) | ((with_reducible refine Need.mk ?_ ?_); exact nd; conv => whnf) | ((with_reducible first | refine Both.mk ?_ ?_ | refine Any.mk fun b hb => ?_ | refine AskB.dec (fun hb => ?_) (fun hb => ?_) | refine AskB.ndec (fun hb => ?_) (fun hb => ?_) | refine AskB.mk (fun hb => ?_) (fun hb => ?_)) <;> conv => whnf) | ((with_reducible first | refine Run.drawX rfl (by decide +kernel) ?_ | refine Run.drawT rfl (by decide +kernel) ?_ | refine Run.drawW rfl (by decide +kernel) ?_); conv => whnf))
    refine Run.inline 901 Tryd.f61 _ 20 rfl rfl Tryd.func61 rfl (by decide) rfl (by decide) rfl rfl (fun a2 hsz2 hdf2 => ?_)
    refine Run.go ?_; (conv => whnf); repeat' (first | ((with_reducible refine Know.mk fun _ => ?_); conv => whnf) | ((with_reducible refine Need.mk ?_ ?_); exact nd; conv => whnf) | ((with_reducible first | refine Both.mk ?_ ?_ | refine Any.mk fun b hb => ?_ | refine AskB.dec (fun hb => ?_) (fun hb => ?_) | refine AskB.ndec (fun hb => ?_) (fun hb => ?_) | refine AskB.mk (fun hb => ?_) (fun hb => ?_)) <;> conv => whnf) | ((with_reducible first | refine Run.drawX rfl (by decide +kernel) ?_ | refine Run.drawT rfl (by decide +kernel) ?_ | refine Run.drawW rfl (by decide +kernel) ?_); conv => whnf))
    refine Run.toUnsafe (id := 6) (l := [.nilp, .row 90]) (e := 95) (t := 95) (src := 92) (dst := 136) (x := .tmp 8) rfl rfl rfl rfl rfl rfl (by decide) (by kernel_rfl) (by kernel_rfl) (j := (Tryd.prog.info? 95).get (by kernel_rfl)) (by kernel_rfl) (by decide +kernel) ?_
    refine Run.noEscape (f := 79) (x := .tmp 9) rfl rfl rfl rfl Tryd.func79 (by kernel_rfl) (by kernel_rfl) (by kernel_rfl) (by kernel_rfl) ?_
    refine Run.fromUnsafe (id := 6) (l := [.nilp, .row 90]) (e := 95) (u := 95) (src := 136) (dst := 92) (x := .tmp 10) rfl rfl rfl rfl rfl rfl (by kernel_rfl) (by kernel_rfl) (j := (Tryd.prog.info? 95).get (by kernel_rfl)) (by kernel_rfl) (by kernel_rfl) ?_
    refine Run.go ?_; (conv => whnf); repeat' (first | ((with_reducible refine Know.mk fun _ => ?_); conv => whnf) | ((with_reducible refine Need.mk ?_ ?_); exact nd; conv => whnf) | ((with_reducible first | refine Both.mk ?_ ?_ | refine Any.mk fun b hb => ?_ | refine AskB.dec (fun hb => ?_) (fun hb => ?_) | refine AskB.ndec (fun hb => ?_) (fun hb => ?_) | refine AskB.mk (fun hb => ?_) (fun hb => ?_)) <;> conv => whnf) | ((with_reducible first | refine Run.drawX rfl (by decide +kernel) ?_ | refine Run.drawT rfl (by decide +kernel) ?_ | refine Run.drawW rfl (by decide +kernel) ?_); conv => whnf))
    refine Run.back 901 (ts := []) hsz2 hdf2 (.inl rfl) (by rfl) Tryd.func61 rfl ?_
    refine Run.go ?_; (conv => whnf); repeat' (first | ((with_reducible refine Know.mk fun _ => ?_); conv => whnf) | ((with_reducible refine Need.mk ?_ ?_); exact nd; conv => whnf) | ((with_reducible first | refine Both.mk ?_ ?_ | refine Any.mk fun b hb => ?_ | refine AskB.dec (fun hb => ?_) (fun hb => ?_) | refine AskB.ndec (fun hb => ?_) (fun hb => ?_) | refine AskB.mk (fun hb => ?_) (fun hb => ?_)) <;> conv => whnf) | ((with_reducible first | refine Run.drawX rfl (by decide +kernel) ?_ | refine Run.drawT rfl (by decide +kernel) ?_ | refine Run.drawW rfl (by decide +kernel) ?_); conv => whnf))
    refine Run.back 900 (ts := [4, 5]) hsz hdf (.inr ⟨_, rfl⟩) (by rfl) Tryd.func72 rfl ?_
    refine Run.holdBoxRow 6 1 90 14 (by rfl) (by rfl) (by rfl) rfl rfl rfl ?_
    refine fin _ _ _ (fun i => rfl) (fun id e5 e90 e14 e901 e900 => ?_) (MOle.refl _) (bytesG_join 5 t s)
    simp only [upd, scrubH, scrubM, bldr, e5, e90, e14, e901, e900, cond_false]
  · refine Run.go ?_; (conv => whnf); repeat' (first | ((with_reducible refine Know.mk fun _ => ?_); conv => whnf) | ((with_reducible refine Need.mk ?_ ?_); exact nd; conv => whnf) | ((with_reducible first | refine Both.mk ?_ ?_ | refine Any.mk fun b hb => ?_ | refine AskB.dec (fun hb => ?_) (fun hb => ?_) | refine AskB.ndec (fun hb => ?_) (fun hb => ?_) | refine AskB.mk (fun hb => ?_) (fun hb => ?_)) <;> conv => whnf) | ((with_reducible first | refine Run.drawX rfl (by decide +kernel) ?_ | refine Run.drawT rfl (by decide +kernel) ?_ | refine Run.drawW rfl (by decide +kernel) ?_); conv => whnf))
    refine Run.inline 901 Tryd.f61 _ 20 rfl rfl Tryd.func61 rfl (by decide) rfl (by decide) rfl rfl (fun a2 hsz2 hdf2 => ?_)
    refine Run.go ?_; (conv => whnf); repeat' (first | ((with_reducible refine Know.mk fun _ => ?_); conv => whnf) | ((with_reducible refine Need.mk ?_ ?_); exact nd; conv => whnf) | ((with_reducible first | refine Both.mk ?_ ?_ | refine Any.mk fun b hb => ?_ | refine AskB.dec (fun hb => ?_) (fun hb => ?_) | refine AskB.ndec (fun hb => ?_) (fun hb => ?_) | refine AskB.mk (fun hb => ?_) (fun hb => ?_)) <;> conv => whnf) | ((with_reducible first | refine Run.drawX rfl (by decide +kernel) ?_ | refine Run.drawT rfl (by decide +kernel) ?_ | refine Run.drawW rfl (by decide +kernel) ?_); conv => whnf))
    refine Run.back 901 (ts := []) hsz2 hdf2 (.inl rfl) (by rfl) Tryd.func61 rfl ?_
    refine Run.go ?_; (conv => whnf); repeat' (first | ((with_reducible refine Know.mk fun _ => ?_); conv => whnf) | ((with_reducible refine Need.mk ?_ ?_); exact nd; conv => whnf) | ((with_reducible first | refine Both.mk ?_ ?_ | refine Any.mk fun b hb => ?_ | refine AskB.dec (fun hb => ?_) (fun hb => ?_) | refine AskB.ndec (fun hb => ?_) (fun hb => ?_) | refine AskB.mk (fun hb => ?_) (fun hb => ?_)) <;> conv => whnf) | ((with_reducible first | refine Run.drawX rfl (by decide +kernel) ?_ | refine Run.drawT rfl (by decide +kernel) ?_ | refine Run.drawW rfl (by decide +kernel) ?_); conv => whnf))
    refine Run.back 900 (ts := [4, 5]) hsz hdf (.inr ⟨_, rfl⟩) (by rfl) Tryd.func72 rfl ?_
    refine Run.holdBoxRow 6 1 90 14 (by rfl) (by rfl) (by rfl) rfl rfl rfl ?_
    refine fin _ _ _ (fun i => rfl) (fun id e5 e90 e14 e901 e900 => ?_) (MOle.refl _) (bytesG_join 5 t s)
    simp only [upd, scrubH, scrubM, bldr, e5, e90, e14, e901, e900, cond_false]

def appF (f : Nat) (x : Int) : Int := if f = 81 then lowV x else if f = 82 then bareV x else letterV x
def appL (l : List Nat) (x : Int) : Int := l.foldl (fun x f => appF f x) x
def stepV (o x : Int) : Int := appL (stepsF o) x
theorem stepFn {f : Nat} (x : Int) (h : f = 81 ∨ f = 82 ∨ f = 83) : Fn Tryd.prog f [.int .i32 x] (.int .i32 (appF f x)) := by
  rcases h with rfl | rfl | rfl
  · exact lower53_fn x
  · exact unmarked54_fn x
  · exact letter55_fn x
theorem stepsF_mem {o : Int} {f : Nat} (h : f ∈ stepsF o) : f = 81 ∨ f = 82 ∨ f = 83 := by
  unfold stepsF at h
  simp only [List.mem_append] at h
  rcases h with (h | h) | h
  · split at h
    · exact .inl (by simpa using h)
    · cases h
  · split at h
    · exact .inr (.inl (by simpa using h))
    · cases h
  · split at h
    · exact .inr (.inr (by simpa using h))
    · cases h
theorem stepsF_len (o : Int) : (stepsF o).length ≤ 3 := by
  unfold stepsF
  repeat' split
  all_goals decide
theorem appL_take (l : List Nat) (x : Int) (m : Nat) (h : m < l.length) : appL (l.take (m + 1)) x = appF (l.getD m 81) (appL (l.take m) x) := by
  unfold appL
  rw [List.take_succ_eq_append_getElem h, List.foldl_append, List.getD, List.getElem?_eq_getElem h]; rfl
/-- Runes written one behind the other, each as the steps leave it. -/
def catE (o : Int) : List Int → ByteArray
  | [] => .empty
  | x :: r => Utf8.encode (stepV o x) ++ catE o r
theorem catE_app (o : Int) : ∀ a b : List Int, catE o (a ++ b) = catE o a ++ catE o b
  | [], b => by simp [catE]
  | x :: a, b => by simp only [List.cons_append, catE]; rw [catE_app o a b, ByteArray.append_assoc]
theorem catE_take (o : Int) (l : List Int) (j : Nat) (h : j < l.length) : catE o (l.take (j + 1)) = catE o (l.take j) ++ Utf8.encode (stepV o (l.getD j 0)) := by
  rw [List.take_succ_eq_append_getElem h, catE_app, List.getD, List.getElem?_eq_getElem h]; simp [catE]
theorem catE_size (o : Int) : ∀ l : List Int, (catE o l).size ≤ 4 * l.length
  | [] => by simp [catE]
  | x :: r => by
    have h1 := catE_size o r
    have h2 := encode_small (stepV o x)
    simp only [catE, ByteArray.size_append, List.length_cons]; omega
/-- Is a rune left out? -/
def dropV (r o : Int) : Bool := decide ((o / 16 % 2 = 1 ∧ kOf r = 4) ∨ (o / 2 % 2 = 1 ∧ kOf r = 2))
def runesV (r o : Int) : List Int := if isLig r = true ∧ o / 4 % 2 = 1 then runesE (ligB r) 0 else [r]
/-- What a rune becomes. -/
def foldR (r o : Int) : ByteArray := if dropV r o = true then .empty else catE o (runesV r o)
theorem ligB_size (r : Int) : (ligB r).size ≤ 3 := by
  unfold ligB
  repeat' split
  all_goals first | (exact Nat.le_of_ble_eq_true rfl) | skip
  rename_i h
  obtain ⟨k, hk⟩ : ∃ k : Fin 7, k.val = (r - 64256).toNat := ⟨⟨(r - 64256).toNat, by omega⟩, rfl⟩
  rw [← hk]
  clear hk h
  revert k; decide +kernel
theorem runesV_len (r o : Int) : (runesV r o).length ≤ 3 := by
  unfold runesV
  split
  · have := runesE_len (ligB r) 0
    have := ligB_size r
    omega
  · simp
theorem foldR_size (r o : Int) : (foldR r o).size ≤ 12 := by
  unfold foldR
  split
  · exact Nat.zero_le _
  · have := catE_size o (runesV r o)
    have := runesV_len r o
    omega
def clean6 (x : AV) : Prop := scrub 902 x = x ∧ scrub 35 x = x ∧ scrW 90 x = x ∧ ∀ X Y, repl 35 X Y x = x
def cleanL : List (Nat × AV) → Prop
  | [] => True
  | p :: r => clean6 p.2 ∧ cleanL r
theorem cleanL_at : ∀ {l : List (Nat × AV)}, cleanL l → ∀ i, clean6 (lst l i)
  | [], _, i => ⟨rfl, rfl, rfl, fun _ _ => rfl⟩
  | p :: r, h, i => by
    show clean6 (cond (Nat.beq i p.1) p.2 (lst r i))
    cases Nat.beq i p.1 with
    | true => exact h.1
    | false => exact cleanL_at h.2 i
theorem to_next {C : Ctx} {l : List (Nat × AV)} {lh : List (Nat × MO)} {k : List Item} {dst : Option Nat} {E : Env} {X : AV} {H : Heap} (hE : ∀ i, E i = lst l i) (hH : fitsH H lh) (next : Run C k (putE (lst l) dst .u) (lstH lh)) : Run C k (putE E dst X) H := by
  refine Run.weaken (fun i => ?_) (fun id => fitsH_le hH id) next
  cases dst with
  | none => show Le (E i) (lst l i); rw [hE]; exact Le.refl _
  | some d =>
    show Le (upd E d X i) (upd (lst l) d .u i)
    by_cases e : i = d
    · subst e; rw [upd_same, upd_same]; exact Le.u _
    · rw [upd_other _ _ e, upd_other _ _ e, hE]; exact Le.refl _
theorem fold41 {N : Nat} {w0 : World} {S : Nat → Prop} {gl : GlobOk S w0} {f : FuncId} {R : Ending → World → Prop} {ops : Array Oper} {i : Nat} {rest : List Nat} {k : List Item} {o : Oper} {x0 x1 x2 x3 : Operand}
    (l : List (Nat × AV)) (p : AV) (t : ByteArray) (r opt : Int) (ho : ops.toList[i]? = some o) (hc : calls? o = some (66, [x0, x1, x2, x3])) (hd : okD N o.dst = true) (hr : ready (lst l) ops o = true)
    (hx0 : ev (lst l) x0 = .box 6 0) (hx1 : ev (lst l) x1 = .int .i32 r) (hx2 : ev (lst l) x2 = .int .i64 opt) (hx3 : ev (lst l) x3 = tF.L (stepsF opt)) (hl : cleanL l) (hs : t.size ≤ 100000000000) (hp : p = .nilp ∨ p = .box 6 0) (h0 : 0 ≤ opt) (h1 : opt ≤ 31)
    (next : ∀ p', (p' = .nilp ∨ p' = .box 6 0) → Run ⟨Tryd.prog, TB, tbOk, N, w0, S, gl, f, R⟩ (.inRegion ops rest :: k) (putE (lst l) o.dst .u) (lstH [(6, .box 95 [p', .row 90]), (90, .row 5 1 (t ++ foldR r opt).size (bytesG (t ++ foldR r opt)))])) :
    Run ⟨Tryd.prog, TB, tbOk, N, w0, S, gl, f, R⟩ (.inRegion ops (i :: rest) :: k) (lst l) (lstH [(6, .box 95 [p, .row 90]), (90, .row 5 1 t.size (bytesG t))]) := by
  have hE : scrubE 902 (lst l) = lst l := funext fun i => (cleanL_at hl i).1
  obtain ⟨kk, rfl⟩ : ∃ k : Fin 32, (k.val : Int) = opt := ⟨⟨opt.toNat, by omega⟩, by simp only []; omega⟩
  obtain ⟨e1, e2, e4, e8, e16⟩ := bits32 kk
  refine Run.inline 902 Tryd.f66 _ 70 ho hc Tryd.func66 rfl (by decide) rfl (by show 4 ≤ 70; decide) hd hr (fun a hsz hdf => ?_)
  rw [hE]
  simp only [List.map, hx0, hx1, hx2, hx3]
  refine Run.to [(0, .box 6 0), (1, .int .i32 r), (2, .int .i64 kk.val), (3, tF.L (stepsF kk.val))] [(6, .box 95 [p, .row 90]), (90, .row 5 1 t.size (bytesG t)), (902, .frame a.tmps (lst l))] ⟨Le.refl _, Le.refl _, Le.refl _, Le.refl _, trivial⟩ ⟨by rcases hp with rfl | rfl <;> exact MOle.refl _, MOle.refl _, MOle.refl _, trivial⟩ ?_
  have hfr : MOle (.frame a.tmps (fun i => scrub 35 (lst l i))) (.frame a.tmps (lst l)) := ⟨rfl, fun i => by show Le (scrub 35 (lst l i)) _; rw [(cleanL_at hl i).2.1]; exact Le.refl _⟩
  have hbx : ∀ X Y, MOle (.box 95 [repl 35 X Y p, .row 90]) (.box 95 [p, .row 90]) := fun X Y => by rcases hp with rfl | rfl <;> exact MOle.refl _
  have hrp : ∀ X Y, MOle (.frame a.tmps (fun i => repl 35 X Y (lst l i))) (.frame a.tmps (lst l)) := fun X Y => ⟨rfl, fun i => by show Le (repl 35 X Y (lst l i)) _; rw [(cleanL_at hl i).2.2.2]; exact Le.refl _⟩
  have hp35 : scrub 35 p = p := by rcases hp with rfl | rfl <;> rfl
  apply Run.cutAt (A := fun CC kk' => dropV r kk.val = false → Run CC kk' (lst [(0, .box 6 0), (2, .int .i64 kk.val), (3, tF.L (stepsF kk.val)), (9, .row 35), (37, .int .i32 r)]) (lstH [(6, .box 95 [p, .row 90]), (90, .row 5 1 t.size (bytesG t)), (902, .frame a.tmps (lst l)), (35, tRn.R 21 [r])]))
  · intro HA
    refine Run.go ?_; (conv => whnf); repeat' (first | ((with_reducible refine Know.mk fun _ => ?_); conv => whnf) | ((with_reducible refine Need.mk ?_ ?_); exact nd; conv => whnf) | ((with_reducible first | refine Both.mk ?_ ?_ | refine Any.mk fun b hb => ?_ | refine AskB.dec (fun hb => ?_) (fun hb => ?_) | refine AskB.ndec (fun hb => ?_) (fun hb => ?_) | refine AskB.mk (fun hb => ?_) (fun hb => ?_)) <;> conv => whnf) | ((with_reducible first | refine Run.drawX rfl (by decide +kernel) ?_ | refine Run.drawT rfl (by decide +kernel) ?_ | refine Run.drawW rfl (by decide +kernel) ?_); conv => whnf))
    refine Run.callBX (of_fn r) rfl rfl ⟨Le.refl _, trivial⟩ rfl rfl rfl ?_
    (conv => whnf); repeat' (first | ((with_reducible refine Know.mk fun _ => ?_); conv => whnf) | ((with_reducible refine Need.mk ?_ ?_); exact nd; conv => whnf) | ((with_reducible first | refine Both.mk ?_ ?_ | refine Any.mk fun b hb => ?_ | refine AskB.dec (fun hb => ?_) (fun hb => ?_) | refine AskB.ndec (fun hb => ?_) (fun hb => ?_) | refine AskB.mk (fun hb => ?_) (fun hb => ?_)) <;> conv => whnf) | ((with_reducible first | refine Run.drawX rfl (by decide +kernel) ?_ | refine Run.drawT rfl (by decide +kernel) ?_ | refine Run.drawW rfl (by decide +kernel) ?_); conv => whnf))
    all_goals first
      | (refine Run.back 902 (ts := []) hsz hdf (.inr ⟨_, rfl⟩) (by rfl) Tryd.func66 rfl ?_
         have hemp : t ++ foldR r kk.val = t := by
           unfold foldR
           rw [if_pos (show dropV r kk.val = true from decide_eq_true (by omega))]
           exact ByteArray.append_empty
         rw [hemp] at next
         refine to_next (fun i => rfl) ?_ (next p hp)
         exact ⟨MOle.refl _, MOle.refl _, trivial⟩)
      | (refine Run.to _ _ ?_ ?_ (HA (decide_eq_false (by omega)))
         · exact ⟨Le.refl _, Le.refl _, Le.refl _, Le.refl _, Le.refl _, trivial⟩
         · refine ⟨?_, MOle.refl _, hfr, ⟨rfl, rfl, rfl, fun i j hi hj => ?_⟩, trivial⟩
           · show MOle (.box 95 [scrub 35 p, .row 90]) _
             rw [hp35]; exact MOle.refl _
           · obtain rfl : i = 0 := by have : i < 1 := hi; omega
             obtain rfl : j = 0 := by have : j < 1 := hj; omega
             exact Le.refl _)
  intro hdrop
  apply Run.cutAt (A := fun CC kk' => Run CC kk' (lst [(0, .box 6 0), (3, tF.L (stepsF kk.val)), (49, tRn.L (runesV r kk.val)), (50, .int .i64 (runesV r kk.val).length), (51, .int .i64 0)]) (lstH [(6, .box 95 [p, .row 90]), (90, .row 5 1 t.size (bytesG t)), (902, .frame a.tmps (lst l))]))
  · intro HB
    refine Run.callBX (ligature59_fn r) rfl rfl ⟨Le.refl _, trivial⟩ rfl rfl rfl ?_
    (conv => whnf); repeat' (first | ((with_reducible refine Know.mk fun _ => ?_); conv => whnf) | ((with_reducible refine Need.mk ?_ ?_); exact nd; conv => whnf) | ((with_reducible first | refine Both.mk ?_ ?_ | refine Any.mk fun b hb => ?_ | refine AskB.dec (fun hb => ?_) (fun hb => ?_) | refine AskB.ndec (fun hb => ?_) (fun hb => ?_) | refine AskB.mk (fun hb => ?_) (fun hb => ?_)) <;> conv => whnf) | ((with_reducible first | refine Run.drawX rfl (by decide +kernel) ?_ | refine Run.drawT rfl (by decide +kernel) ?_ | refine Run.drawW rfl (by decide +kernel) ?_); conv => whnf))
    case _ =>
      have hrv : runesV r kk.val = [r] := if_neg (fun h => by omega)
      rw [hrv] at HB
      refine Run.freeze 35 rfl ?_
      refine Run.to _ _ ?_ ?_ HB
      · exact ⟨Le.refl _, Le.refl _, Le.refl _, Le.refl _, Le.refl _, trivial⟩
      · exact ⟨hbx _ _, MOle.refl _, hrp _ _, trivial⟩
    case _ =>
      have hrv : runesV r kk.val = runesE (ligB r) 0 := if_pos (by constructor <;> first | assumption | omega)
      rw [hrv] at HB
      refine Run.toRunes (e := 21) (ligB r) rfl rfl rfl rfl rfl (by have := ligB_size r; omega) (by kernel_rfl) (by kernel_rfl) (by kernel_rfl) ?_
      refine Run.go ?_; (conv => whnf); repeat' (first | ((with_reducible refine Know.mk fun _ => ?_); conv => whnf) | ((with_reducible refine Need.mk ?_ ?_); exact nd; conv => whnf) | ((with_reducible first | refine Both.mk ?_ ?_ | refine Any.mk fun b hb => ?_ | refine AskB.dec (fun hb => ?_) (fun hb => ?_) | refine AskB.ndec (fun hb => ?_) (fun hb => ?_) | refine AskB.mk (fun hb => ?_) (fun hb => ?_)) <;> conv => whnf) | ((with_reducible first | refine Run.drawX rfl (by decide +kernel) ?_ | refine Run.drawT rfl (by decide +kernel) ?_ | refine Run.drawW rfl (by decide +kernel) ?_); conv => whnf))
      refine Run.to _ _ ?_ ?_ HB
      · exact ⟨Le.refl _, Le.refl _, Le.refl _, Le.refl _, Le.refl _, trivial⟩
      · exact ⟨MOle.refl _, MOle.refl _, MOle.refl _, trivial⟩
    case _ =>
      have hrv : runesV r kk.val = [r] := if_neg (fun h => by rw [hb] at h; exact Bool.noConfusion h.1)
      rw [hrv] at HB
      refine Run.freeze 35 rfl ?_
      refine Run.to _ _ ?_ ?_ HB
      · exact ⟨Le.refl _, Le.refl _, Le.refl _, Le.refl _, Le.refl _, trivial⟩
      · exact ⟨hbx _ _, MOle.refl _, hrp _ _, trivial⟩
  have hlen := runesV_len r kk.val
  have hfold : foldR r kk.val = catE kk.val (runesV r kk.val) := by unfold foldR; rw [hdrop]; rfl
  rw [hfold] at next
  generalize runesV r kk.val = rs at hlen next ⊢
  have hT : ∀ j, (t ++ catE kk.val (rs.take j)).size ≤ 100000000012 := fun j => by
    have h1 := catE_size kk.val (rs.take j)
    have h2 : (rs.take j).length ≤ 3 := by rw [List.length_take]; omega
    rw [ByteArray.size_append]; omega
  refine Run.loop [0, 3, 49, 50] (fun (a : Nat × AV) => [(51, .int .i64 (a.1 : Int))]) (fun b => [(6, .box 95 [b.2, .row 90]), (90, .row 5 1 (t ++ catE kk.val (rs.take b.1)).size (bytesG (t ++ catE kk.val (rs.take b.1)))), (902, .frame a.tmps (lst l))]) (fun a => a.1 ≤ rs.length ∧ (a.2 = .nilp ∨ a.2 = .box 6 0)) (fun a => rs.length - a.1) (0, p) ⟨Nat.zero_le _, hp⟩ ⟨Le.refl _, trivial⟩ ⟨MOle.refl _, ?_, MOle.refl _, trivial⟩ ?_
  · simp only [List.take_zero, catE]
    rw [ByteArray.append_empty]; exact MOle.refl _
  have hwf : MOle (.frame a.tmps (fun i => scrW 90 (lst l i))) (.frame a.tmps (lst l)) := ⟨rfl, fun i => by show Le (scrW 90 (lst l i)) _; rw [(cleanL_at hl i).2.2.1]; exact Le.refl _⟩
  have hfl := stepsF_len kk.val
  have hfm : ∀ m, m < (stepsF kk.val).length → (stepsF kk.val).getD m 81 = 81 ∨ (stepsF kk.val).getD m 81 = 82 ∨ (stepsF kk.val).getD m 81 = 83 := fun m hm => stepsF_mem (by rw [List.getD, List.getElem?_eq_getElem hm]; exact List.getElem_mem hm)
  have hsv : ∀ x, stepV kk.val x = appL ((stepsF kk.val).take (stepsF kk.val).length) x := fun x => by rw [List.take_length]; rfl
  intro ⟨j, p2⟩ ⟨hj, hp2⟩ IH
  simp only [] at hj hp2 ⊢
  have hwj : IntKind.i64.wrap ((j : Int) + 1) = ((j + 1 : Nat) : Int) := wrap64 (by omega) (by omega)
  have hTj := hT j
  refine Run.go ?_; (conv => whnf); repeat' (first | ((with_reducible refine Know.mk fun _ => ?_); conv => whnf) | ((with_reducible refine Need.mk ?_ ?_); exact nd; conv => whnf) | ((with_reducible first | refine Both.mk ?_ ?_ | refine Any.mk fun b hb => ?_ | refine AskB.dec (fun hb => ?_) (fun hb => ?_) | refine AskB.ndec (fun hb => ?_) (fun hb => ?_) | refine AskB.mk (fun hb => ?_) (fun hb => ?_)) <;> conv => whnf) | ((with_reducible first | refine Run.drawX rfl (by decide +kernel) ?_ | refine Run.drawT rfl (by decide +kernel) ?_ | refine Run.drawW rfl (by decide +kernel) ?_); conv => whnf))
  · have hjl : j < rs.length := by omega
    refine Run.loop [0, 3, 49, 50, 51, 55, 56] (fun (m : Nat) => [(13, .int .i32 (appL ((stepsF kk.val).take m) (rs.getD j 0))), (57, .int .i64 m)]) (fun _ => [(6, .box 95 [p2, .row 90]), (90, .row 5 1 (t ++ catE kk.val (rs.take j)).size (bytesG (t ++ catE kk.val (rs.take j)))), (902, .frame a.tmps (lst l))]) (fun m => m ≤ (stepsF kk.val).length) (fun m => (stepsF kk.val).length - m) 0 (Nat.zero_le _) ⟨Le.refl _, Le.refl _, trivial⟩ ⟨MOle.refl _, MOle.refl _, MOle.refl _, trivial⟩ ?_
    intro m hm IHm
    have hwm : IntKind.i64.wrap ((m : Int) + 1) = ((m + 1 : Nat) : Int) := wrap64 (by omega) (by omega)
    refine Run.go ?_; (conv => whnf); repeat' (first | ((with_reducible refine Know.mk fun _ => ?_); conv => whnf) | ((with_reducible refine Need.mk ?_ ?_); exact nd; conv => whnf) | ((with_reducible first | refine Both.mk ?_ ?_ | refine Any.mk fun b hb => ?_ | refine AskB.dec (fun hb => ?_) (fun hb => ?_) | refine AskB.ndec (fun hb => ?_) (fun hb => ?_) | refine AskB.mk (fun hb => ?_) (fun hb => ?_)) <;> conv => whnf) | ((with_reducible first | refine Run.drawX rfl (by decide +kernel) ?_ | refine Run.drawT rfl (by decide +kernel) ?_ | refine Run.drawW rfl (by decide +kernel) ?_); conv => whnf))
    · have hml : m < (stepsF kk.val).length := by omega
      refine Run.callV (stepFn (appL ((stepsF kk.val).take m) (rs.getD j 0)) (hfm m hml)) rfl rfl rfl rfl ⟨Le.refl _, trivial⟩ rfl rfl rfl ?_
      refine Run.go ?_; (conv => whnf); repeat' (first | ((with_reducible refine Know.mk fun _ => ?_); conv => whnf) | ((with_reducible refine Need.mk ?_ ?_); exact nd; conv => whnf) | ((with_reducible first | refine Both.mk ?_ ?_ | refine Any.mk fun b hb => ?_ | refine AskB.dec (fun hb => ?_) (fun hb => ?_) | refine AskB.ndec (fun hb => ?_) (fun hb => ?_) | refine AskB.mk (fun hb => ?_) (fun hb => ?_)) <;> conv => whnf) | ((with_reducible first | refine Run.drawX rfl (by decide +kernel) ?_ | refine Run.drawT rfl (by decide +kernel) ?_ | refine Run.drawW rfl (by decide +kernel) ?_); conv => whnf))
      refine Run.to _ _ ?_ ?_ (IHm (m + 1) (by omega) (by omega))
      · exact ⟨Le.refl _, Le.refl _, Le.refl _, Le.refl _, Le.refl _, Le.refl _, Le.refl _, Le.int (appL_take _ _ m hml).symm, Le.int hwm, trivial⟩
      · exact ⟨MOle.refl _, MOle.refl _, MOle.refl _, trivial⟩
    · obtain rfl : m = (stepsF kk.val).length := by omega
      refine Run.bldr 95 5 6 90 p2 (t ++ catE kk.val (rs.take j)) (MOle.refl _) (MOle.refl _) ?_
      refine ws6 p2 _ (Utf8.encode (stepV kk.val (rs.getD j 0))) rfl rfl rfl rfl rfl ?_ ?_ hp2 ?_
      · rw [hsv]; rfl
      · have := encode_small (stepV kk.val (rs.getD j 0)); omega
      refine Run.go ?_; (conv => whnf); repeat' (first | ((with_reducible refine Know.mk fun _ => ?_); conv => whnf) | ((with_reducible refine Need.mk ?_ ?_); exact nd; conv => whnf) | ((with_reducible first | refine Both.mk ?_ ?_ | refine Any.mk fun b hb => ?_ | refine AskB.dec (fun hb => ?_) (fun hb => ?_) | refine AskB.ndec (fun hb => ?_) (fun hb => ?_) | refine AskB.mk (fun hb => ?_) (fun hb => ?_)) <;> conv => whnf) | ((with_reducible first | refine Run.drawX rfl (by decide +kernel) ?_ | refine Run.drawT rfl (by decide +kernel) ?_ | refine Run.drawW rfl (by decide +kernel) ?_); conv => whnf))
      refine Run.to _ _ ?_ ?_ (IH (j + 1, .box 6 0) (by simp only []; omega) ⟨by simp only []; omega, .inr rfl⟩)
      · exact ⟨Le.refl _, Le.refl _, Le.refl _, Le.refl _, Le.int hwj, trivial⟩
      · refine ⟨MOle.refl _, ?_, hwf, trivial⟩
        simp only []
        rw [catE_take _ _ _ hjl, ← ByteArray.append_assoc]
        exact MOle.refl _
  · obtain rfl : j = rs.length := by omega
    rw [List.take_length]
    refine Run.back 902 (ts := []) hsz hdf (.inl rfl) (by rfl) Tryd.func66 rfl ?_
    refine to_next (fun i => rfl) ?_ (next p2 hp2)
    exact ⟨MOle.refl _, MOle.refl _, trivial⟩
end Go.Proofs.YtnadacaoehpdnaaDoor.V

namespace Go.Proofs.YtnadacaoehpdnaaDoor.V
set_option linter.unusedVariables false
set_option linter.unusedSimpArgs false
open Go Go.Proofs Go.RowKit
set_option maxRecDepth 100000
set_option maxHeartbeats 4000000
open Go Go.Proofs Go.Proofs.YtnadacaoehpdnaaDoor.V
theorem wb6 {N : Nat} {w0 : World} {S : Nat → Prop} {gl : GlobOk S w0} {f : FuncId} {R : Ending → World → Prop} {ops : Array Oper} {i : Nat} {rest : List Nat} {k : List Item} {env : Env} {h : Heap} {o : Oper} {x y : Operand}
    (p : AV) (t : ByteArray) (u : UInt8) (ho : ops.toList[i]? = some o) (hc : calls? o = some (48, [x, y])) (hd : okD N o.dst = true) (hr : ready env ops o = true) (hx : ev (scrubE 900 env) x = .box 6 0) (hy : ev (scrubE 900 env) y = .int .u8 (u.toNat : Int))
    (hs : t.size + 1 ≤ 34359738368) (hp : p = .nilp ∨ p = .box 6 0)
    (next : Run ⟨Tryd.prog, TB, tbOk, N, w0, S, gl, f, R⟩ (.inRegion ops rest :: k) (putE (envB 90 env) o.dst .u) (bldr 95 5 6 90 (heapB 90 h) (.box 6 0) (t ++ ⟨#[u]⟩))) :
    Run ⟨Tryd.prog, TB, tbOk, N, w0, S, gl, f, R⟩ (.inRegion ops (i :: rest) :: k) env (bldr 95 5 6 90 h p t) := by
  refine Run.inline 900 Tryd.f48 _ 17 ho hc Tryd.func48 rfl (by decide) rfl (by show 2 ≤ 17; decide) hd hr (fun a hsz hdf => ?_)
  simp only [List.map, hx, hy]
  have fin : ∀ (E : Env) (H : Heap) (X : AV), (∀ i, E i = scrub 14 (scrub 13 (scrub 901 (scrub 900 (env i))))) → (∀ id, Nat.beq id 6 = false → Nat.beq id 90 = false → Nat.beq id 14 = false → Nat.beq id 13 = false → Nat.beq id 901 = false → Nat.beq id 900 = false → H id = scrubM 90 (scrubM 14 (scrubM 13 (scrubM 901 (scrubM 900 (h id)))))) →
      MOle (H 6) (.box 95 [.box 6 0, .row 90]) → MOle (H 90) (.row 5 1 (t ++ ⟨#[u]⟩).size (bytesG (t ++ ⟨#[u]⟩))) → Run ⟨Tryd.prog, TB, tbOk, N, w0, S, gl, f, R⟩ (.inRegion ops rest :: k) (scrubE 90 (putE E o.dst X)) H := by
    intro E H X hE hH h5 h90
    refine Run.weaken (fun i => ?_) (fun id => ?_) next
    · cases hdst : o.dst with
      | none => show Le (scrub 90 (E i)) _; rw [hE]; exact Le.refl _
      | some d =>
        show Le (scrub 90 (upd E d X i)) (upd (envB 90 env) d .u i)
        by_cases e : i = d
        · subst e; rw [upd_same, upd_same]; exact Le.u _
        · rw [upd_other _ _ e, upd_other _ _ e, hE]; exact Le.refl _
    · unfold bldr heapB
      cases e5 : Nat.beq id 6 with
      | true => have := Nat.eq_of_beq_eq_true e5; subst this; exact h5
      | false =>
      cases e90 : Nat.beq id 90 with
      | true => have := Nat.eq_of_beq_eq_true e90; subst this; exact h90
      | false =>
      cases e900 : Nat.beq id 900 with
      | true => simp only [upd, e5, e90, e900, cond_true, cond_false]; exact mole_dead _
      | false =>
      cases e901 : Nat.beq id 901 with
      | true => simp only [upd, e5, e90, e900, e901, cond_true, cond_false]; exact mole_dead _
      | false =>
      cases e13 : Nat.beq id 13 with
      | true => simp only [upd, e5, e90, e900, e901, e13, cond_true, cond_false]; exact mole_dead _
      | false =>
      cases e14 : Nat.beq id 14 with
      | true => simp only [upd, e5, e90, e900, e901, e13, e14, cond_true, cond_false]; exact mole_dead _
      | false =>
        rw [hH id e5 e90 e14 e13 e901 e900]
        simp only [upd, e5, e90, e900, e901, e13, e14, cond_true, cond_false]
        exact MOle.refl _
  rcases hp with rfl | rfl
  · refine Run.go ?_; (conv => whnf); repeat' (first | ((with_reducible refine Know.mk fun _ => ?_); conv => whnf) | ((with_reducible refine Need.mk ?_ ?_); exact nd; conv => whnf) | ((with_reducible first | refine Both.mk ?_ ?_ | refine Any.mk fun b hb => ?_ | refine AskB.dec (fun hb => ?_) (fun hb => ?_) | refine AskB.ndec (fun hb => ?_) (fun hb => ?_) | refine AskB.mk (fun hb => ?_) (fun hb => ?_)) <;> conv => whnf) | ((with_reducible first | refine Run.drawX rfl (by decide +kernel) ?_ | refine Run.drawT rfl (by decide +kernel) ?_ | refine Run.drawW rfl (by decide +kernel) ?_); conv => whnf))
    refine Run.inline 901 Tryd.f61 _ 20 rfl rfl Tryd.func61 rfl (by decide) rfl (by decide) rfl rfl (fun a2 hsz2 hdf2 => ?_)
    refine Run.go ?_; (conv => whnf); repeat' (first | ((with_reducible refine Know.mk fun _ => ?_); conv => whnf) | ((with_reducible refine Need.mk ?_ ?_); exact nd; conv => whnf) | ((with_reducible first | refine Both.mk ?_ ?_ | refine Any.mk fun b hb => ?_ | refine AskB.dec (fun hb => ?_) (fun hb => ?_) | refine AskB.ndec (fun hb => ?_) (fun hb => ?_) | refine AskB.mk (fun hb => ?_) (fun hb => ?_)) <;> conv => whnf) | ((with_reducible first | refine Run.drawX rfl (by decide +kernel) ?_ | refine Run.drawT rfl (by decide +kernel) ?_ | refine Run.drawW rfl (by decide +kernel) ?_); conv => whnf))
    refine Run.toUnsafe (id := 6) (l := [.nilp, .row 90]) (e := 95) (t := 95) (src := 92) (dst := 136) (x := .tmp 8) rfl rfl rfl rfl rfl rfl (by decide) (by kernel_rfl) (by kernel_rfl) (j := (Tryd.prog.info? 95).get (by kernel_rfl)) (by kernel_rfl) (by decide +kernel) ?_
    refine Run.noEscape (f := 79) (x := .tmp 9) rfl rfl rfl rfl Tryd.func79 (by kernel_rfl) (by kernel_rfl) (by kernel_rfl) (by kernel_rfl) ?_
    refine Run.fromUnsafe (id := 6) (l := [.nilp, .row 90]) (e := 95) (u := 95) (src := 136) (dst := 92) (x := .tmp 10) rfl rfl rfl rfl rfl rfl (by kernel_rfl) (by kernel_rfl) (j := (Tryd.prog.info? 95).get (by kernel_rfl)) (by kernel_rfl) (by kernel_rfl) ?_
    refine Run.go ?_; (conv => whnf); repeat' (first | ((with_reducible refine Know.mk fun _ => ?_); conv => whnf) | ((with_reducible refine Need.mk ?_ ?_); exact nd; conv => whnf) | ((with_reducible first | refine Both.mk ?_ ?_ | refine Any.mk fun b hb => ?_ | refine AskB.dec (fun hb => ?_) (fun hb => ?_) | refine AskB.ndec (fun hb => ?_) (fun hb => ?_) | refine AskB.mk (fun hb => ?_) (fun hb => ?_)) <;> conv => whnf) | ((with_reducible first | refine Run.drawX rfl (by decide +kernel) ?_ | refine Run.drawT rfl (by decide +kernel) ?_ | refine Run.drawW rfl (by decide +kernel) ?_); conv => whnf))
    refine Run.back 901 (ts := []) hsz2 hdf2 (.inl rfl) (by rfl) Tryd.func61 rfl ?_
    refine Run.go ?_; (conv => whnf); repeat' (first | ((with_reducible refine Know.mk fun _ => ?_); conv => whnf) | ((with_reducible refine Need.mk ?_ ?_); exact nd; conv => whnf) | ((with_reducible first | refine Both.mk ?_ ?_ | refine Any.mk fun b hb => ?_ | refine AskB.dec (fun hb => ?_) (fun hb => ?_) | refine AskB.ndec (fun hb => ?_) (fun hb => ?_) | refine AskB.mk (fun hb => ?_) (fun hb => ?_)) <;> conv => whnf) | ((with_reducible first | refine Run.drawX rfl (by decide +kernel) ?_ | refine Run.drawT rfl (by decide +kernel) ?_ | refine Run.drawW rfl (by decide +kernel) ?_); conv => whnf))
    refine Run.back 900 (ts := [4]) hsz hdf (.inr ⟨_, rfl⟩) (by rfl) Tryd.func48 rfl ?_
    refine Run.holdBoxRow 6 1 90 14 (by rfl) (by rfl) (by rfl) rfl rfl rfl ?_
    refine fin _ _ _ (fun i => rfl) (fun id e5 e90 e14 e13 e901 e900 => ?_) (MOle.refl _) (bytesG_push 5 t u _ rfl)
    simp only [upd, scrubH, scrubM, bldr, e5, e90, e14, e13, e901, e900, cond_false]
  · refine Run.go ?_; (conv => whnf); repeat' (first | ((with_reducible refine Know.mk fun _ => ?_); conv => whnf) | ((with_reducible refine Need.mk ?_ ?_); exact nd; conv => whnf) | ((with_reducible first | refine Both.mk ?_ ?_ | refine Any.mk fun b hb => ?_ | refine AskB.dec (fun hb => ?_) (fun hb => ?_) | refine AskB.ndec (fun hb => ?_) (fun hb => ?_) | refine AskB.mk (fun hb => ?_) (fun hb => ?_)) <;> conv => whnf) | ((with_reducible first | refine Run.drawX rfl (by decide +kernel) ?_ | refine Run.drawT rfl (by decide +kernel) ?_ | refine Run.drawW rfl (by decide +kernel) ?_); conv => whnf))
    refine Run.inline 901 Tryd.f61 _ 20 rfl rfl Tryd.func61 rfl (by decide) rfl (by decide) rfl rfl (fun a2 hsz2 hdf2 => ?_)
    refine Run.go ?_; (conv => whnf); repeat' (first | ((with_reducible refine Know.mk fun _ => ?_); conv => whnf) | ((with_reducible refine Need.mk ?_ ?_); exact nd; conv => whnf) | ((with_reducible first | refine Both.mk ?_ ?_ | refine Any.mk fun b hb => ?_ | refine AskB.dec (fun hb => ?_) (fun hb => ?_) | refine AskB.ndec (fun hb => ?_) (fun hb => ?_) | refine AskB.mk (fun hb => ?_) (fun hb => ?_)) <;> conv => whnf) | ((with_reducible first | refine Run.drawX rfl (by decide +kernel) ?_ | refine Run.drawT rfl (by decide +kernel) ?_ | refine Run.drawW rfl (by decide +kernel) ?_); conv => whnf))
    refine Run.back 901 (ts := []) hsz2 hdf2 (.inl rfl) (by rfl) Tryd.func61 rfl ?_
    refine Run.go ?_; (conv => whnf); repeat' (first | ((with_reducible refine Know.mk fun _ => ?_); conv => whnf) | ((with_reducible refine Need.mk ?_ ?_); exact nd; conv => whnf) | ((with_reducible first | refine Both.mk ?_ ?_ | refine Any.mk fun b hb => ?_ | refine AskB.dec (fun hb => ?_) (fun hb => ?_) | refine AskB.ndec (fun hb => ?_) (fun hb => ?_) | refine AskB.mk (fun hb => ?_) (fun hb => ?_)) <;> conv => whnf) | ((with_reducible first | refine Run.drawX rfl (by decide +kernel) ?_ | refine Run.drawT rfl (by decide +kernel) ?_ | refine Run.drawW rfl (by decide +kernel) ?_); conv => whnf))
    refine Run.back 900 (ts := [4]) hsz hdf (.inr ⟨_, rfl⟩) (by rfl) Tryd.func48 rfl ?_
    refine Run.holdBoxRow 6 1 90 14 (by rfl) (by rfl) (by rfl) rfl rfl rfl ?_
    refine fin _ _ _ (fun i => rfl) (fun id e5 e90 e14 e13 e901 e900 => ?_) (MOle.refl _) (bytesG_push 5 t u _ rfl)
    simp only [upd, scrubH, scrubM, bldr, e5, e90, e14, e13, e901, e900, cond_false]

theorem bs6 {N : Nat} {w0 : World} {S : Nat → Prop} {gl : GlobOk S w0} {f : FuncId} {R : Ending → World → Prop} {ops : Array Oper} {i : Nat} {rest : List Nat} {k : List Item} {env : Env} {h : Heap} {o : Oper} {x : Operand}
    (p : AV) (t : ByteArray) (ho : ops.toList[i]? = some o) (hc : calls? o = some (49, [x])) (hd : okD N o.dst = true) (hr : ready env ops o = true) (hx : ev (scrubE 900 env) x = .box 6 0)
    (next : Run ⟨Tryd.prog, TB, tbOk, N, w0, S, gl, f, R⟩ (.inRegion ops rest :: k) (putE (scrubE 900 env) o.dst (.str t)) (upd (upd (upd (scrubH 900 h) 900 .dead) 6 .dead) 90 .dead)) :
    Run ⟨Tryd.prog, TB, tbOk, N, w0, S, gl, f, R⟩ (.inRegion ops (i :: rest) :: k) env (bldr 95 5 6 90 h p t) := by
  refine Run.inline 900 Tryd.f49 _ 14 ho hc Tryd.func49 rfl (by decide) rfl (by show 1 ≤ 14; decide) hd hr (fun a hsz hdf => ?_)
  simp only [List.map, hx]
  have fin : ∀ (H : Heap), (∀ id, Nat.beq id 6 = false → Nat.beq id 90 = false → Nat.beq id 900 = false → H id = scrubM 900 (h id)) →
      Run ⟨Tryd.prog, TB, tbOk, N, w0, S, gl, f, R⟩ (.inRegion ops rest :: k) (putE (scrubE 900 env) o.dst (.str t)) H := by
    intro H hH
    refine Run.weaken (fun i => Le.refl _) (fun id => ?_) next
    cases e5 : Nat.beq id 6 with
    | true => simp only [upd, e5, cond_true, cond_false]; cases Nat.beq id 90 <;> exact mole_dead _
    | false =>
    cases e90 : Nat.beq id 90 with
    | true => simp only [upd, e5, e90, cond_true, cond_false]; exact mole_dead _
    | false =>
    cases e900 : Nat.beq id 900 with
    | true => simp only [upd, e5, e90, e900, cond_true, cond_false]; exact mole_dead _
    | false =>
      rw [hH id e5 e90 e900]
      simp only [upd, e5, e90, e900, cond_true, cond_false]
      exact MOle.refl _
  refine Run.go ?_; (conv => whnf); repeat' (first | ((with_reducible refine Know.mk fun _ => ?_); conv => whnf) | ((with_reducible refine Need.mk ?_ ?_); exact nd; conv => whnf) | ((with_reducible first | refine Both.mk ?_ ?_ | refine Any.mk fun b hb => ?_ | refine AskB.dec (fun hb => ?_) (fun hb => ?_) | refine AskB.ndec (fun hb => ?_) (fun hb => ?_) | refine AskB.mk (fun hb => ?_) (fun hb => ?_)) <;> conv => whnf) | ((with_reducible first | refine Run.drawX rfl (by decide +kernel) ?_ | refine Run.drawT rfl (by decide +kernel) ?_ | refine Run.drawW rfl (by decide +kernel) ?_); conv => whnf))
  · refine Run.unsafeString0 (i := 10) (rest := [11]) (k := [.code .ret]) (x := .tmp 7) (y := .tmp 12) (c := ⟨.builtin .unsafeString, #[.tmp 7, .tmp 12], #[113, 3]⟩) rfl rfl rfl rfl rfl rfl rfl (.inl rfl) (by show AV.int .i64 (t.size : Int) = _; rw [hb]; rfl) ?_
    have ht : t = .empty := by simpa using hb
    refine Run.go ?_; (conv => whnf); repeat' (first | ((with_reducible refine Know.mk fun _ => ?_); conv => whnf) | ((with_reducible refine Need.mk ?_ ?_); exact nd; conv => whnf) | ((with_reducible first | refine Both.mk ?_ ?_ | refine Any.mk fun b hb => ?_ | refine AskB.dec (fun hb => ?_) (fun hb => ?_) | refine AskB.ndec (fun hb => ?_) (fun hb => ?_) | refine AskB.mk (fun hb => ?_) (fun hb => ?_)) <;> conv => whnf) | ((with_reducible first | refine Run.drawX rfl (by decide +kernel) ?_ | refine Run.drawT rfl (by decide +kernel) ?_ | refine Run.drawW rfl (by decide +kernel) ?_); conv => whnf))
    refine Run.back 900 (ts := [2]) hsz hdf (.inr ⟨_, rfl⟩) (by rfl) Tryd.func49 rfl ?_
    rw [ht] at fin next ⊢
    exact fin _ (fun id e5 e90 e900 => by simp only [upd, scrubH, bldr, e5, e90, e900, cond_false])
  · refine Run.unsafeString (i := 10) (rest := [11]) (k := [.code .ret]) (x := .tmp 7) (y := .tmp 12) (c := ⟨.builtin .unsafeString, #[.tmp 7, .tmp 12], #[113, 3]⟩) t rfl rfl rfl rfl rfl rfl rfl rfl rfl (e := 5) (n := t.size) (q := 90) (get := bytesG t) rfl rfl hb (fun _ _ => rfl) (by kernel_rfl) (by kernel_rfl) ?_
    refine Run.go ?_; (conv => whnf); repeat' (first | ((with_reducible refine Know.mk fun _ => ?_); conv => whnf) | ((with_reducible refine Need.mk ?_ ?_); exact nd; conv => whnf) | ((with_reducible first | refine Both.mk ?_ ?_ | refine Any.mk fun b hb => ?_ | refine AskB.dec (fun hb => ?_) (fun hb => ?_) | refine AskB.ndec (fun hb => ?_) (fun hb => ?_) | refine AskB.mk (fun hb => ?_) (fun hb => ?_)) <;> conv => whnf) | ((with_reducible first | refine Run.drawX rfl (by decide +kernel) ?_ | refine Run.drawT rfl (by decide +kernel) ?_ | refine Run.drawW rfl (by decide +kernel) ?_); conv => whnf))
    refine Run.back 900 (ts := [2]) hsz hdf (.inr ⟨_, rfl⟩) (by rfl) Tryd.func49 rfl ?_
    exact fin _ (fun id e5 e90 e900 => by simp only [upd, scrubH, bldr, e5, e90, e900, cond_false])

/-- What a cell becomes. -/
def cellF (o : Int) (c : Cel) : ByteArray := if c.bad = true then ⟨#[UInt8.ofNat c.byte.toNat]⟩ else foldR c.r o
def catC (o : Int) : List Cel → ByteArray
  | [] => .empty
  | c :: r => cellF o c ++ catC o r
theorem catC_app (o : Int) : ∀ a b : List Cel, catC o (a ++ b) = catC o a ++ catC o b
  | [], b => by simp [catC]
  | x :: a, b => by simp only [List.cons_append, catC]; rw [catC_app o a b, ByteArray.append_assoc]
theorem catC_take (o : Int) (l : List Cel) (j : Nat) (h : j < l.length) : catC o (l.take (j + 1)) = catC o (l.take j) ++ cellF o (l.getD j tCel.z) := by
  rw [List.take_succ_eq_append_getElem h, catC_app, List.getD, List.getElem?_eq_getElem h]; simp [catC]
theorem cellF_size (o : Int) (c : Cel) : (cellF o c).size ≤ 12 := by
  unfold cellF
  split
  · exact Nat.le_of_ble_eq_true rfl
  · exact foldR_size _ _
theorem catC_size (o : Int) : ∀ l : List Cel, (catC o l).size ≤ 12 * l.length
  | [] => by simp [catC]
  | x :: r => by
    have h1 := catC_size o r
    have h2 := cellF_size o x
    simp only [catC, ByteArray.size_append, List.length_cons]; omega
/-- What a text becomes. -/
def textF (s : ByteArray) (o : Int) : ByteArray := catC o (cells s 0)
def badO (o : Int) : Prop := o < 0 ∨ 31 < o
instance (o : Int) : Decidable (badO o) := by unfold badO; infer_instance
def textL (s : ByteArray) (o : Int) : AV := tupL [.str (if badO o then .empty else textF s o), .int .i64 (if badO o then 2 else 0)]
theorem cell_byte (s : ByteArray) (p : Nat) : ∀ c ∈ cells s p, ((UInt8.ofNat c.byte.toNat).toNat : Int) = c.byte := by
  intro c hc
  by_cases h : p < s.size
  · have hw := Lib.width_pos s p
    rw [cells_in h] at hc
    rcases List.mem_cons.mp hc with rfl | hc
    · unfold cellAt
      split
      · have := bt_lt s p
        simp only [UInt8.toNat_ofNat']
        omega
      · rfl
    · exact cell_byte s (p + (Utf8.decode s p).2) c hc
  · rw [cells_out h] at hc; cases hc
termination_by s.size - p
theorem text26_fn (s : ByteArray) (o : Int) (hs : s.size ≤ 134217728) : Fn Tryd.prog 51 [.str s, .int .i64 o] (textL s o) := by
  refine Fn.of Tryd.f51 _ Tryd.func51 rfl (by decide) (by show 2 ≤ _; decide) tbOk 33 rfl fun S w0 gl => ?_
  refine Run.go ?_; (conv => whnf); repeat' (first | ((with_reducible refine Know.mk fun _ => ?_); conv => whnf) | ((with_reducible refine Need.mk ?_ ?_); exact nd; conv => whnf) | ((with_reducible first | refine Both.mk ?_ ?_ | refine Any.mk fun b hb => ?_ | refine AskB.dec (fun hb => ?_) (fun hb => ?_) | refine AskB.ndec (fun hb => ?_) (fun hb => ?_) | refine AskB.mk (fun hb => ?_) (fun hb => ?_)) <;> conv => whnf) | ((with_reducible first | refine Run.drawX rfl (by decide +kernel) ?_ | refine Run.drawT rfl (by decide +kernel) ?_ | refine Run.drawW rfl (by decide +kernel) ?_); conv => whnf))
  refine Run.callBX (wrong37_fn o) rfl rfl ⟨Le.refl _, trivial⟩ rfl rfl rfl ?_
  (conv => whnf); repeat' (first | ((with_reducible refine Know.mk fun _ => ?_); conv => whnf) | ((with_reducible refine Need.mk ?_ ?_); exact nd; conv => whnf) | ((with_reducible first | refine Both.mk ?_ ?_ | refine Any.mk fun b hb => ?_ | refine AskB.dec (fun hb => ?_) (fun hb => ?_) | refine AskB.ndec (fun hb => ?_) (fun hb => ?_) | refine AskB.mk (fun hb => ?_) (fun hb => ?_)) <;> conv => whnf) | ((with_reducible first | refine Run.drawX rfl (by decide +kernel) ?_ | refine Run.drawT rfl (by decide +kernel) ?_ | refine Run.drawW rfl (by decide +kernel) ?_); conv => whnf))
  · have hbad : badO o := hb
    unfold textL
    rw [if_pos hbad, if_pos hbad]
    exact Run.leave (ts := [4,5]) (.inr ⟨_, rfl⟩) rfl Tryd.func51 rfl (resT ⟨Le.refl _, Le.refl _, trivial⟩)
  have hok : ¬ badO o := hb
  unfold textL
  rw [if_neg hok, if_neg hok]
  have ho : 0 ≤ o ∧ o ≤ 31 := by unfold badO at hok; omega
  refine Run.callBX (steps38_fn o ho.1 ho.2) rfl rfl ⟨Le.refl _, trivial⟩ rfl rfl rfl ?_
  (conv => whnf); repeat' (first | ((with_reducible refine Know.mk fun _ => ?_); conv => whnf) | ((with_reducible refine Need.mk ?_ ?_); exact nd; conv => whnf) | ((with_reducible first | refine Both.mk ?_ ?_ | refine Any.mk fun b hb => ?_ | refine AskB.dec (fun hb => ?_) (fun hb => ?_) | refine AskB.ndec (fun hb => ?_) (fun hb => ?_) | refine AskB.mk (fun hb => ?_) (fun hb => ?_)) <;> conv => whnf) | ((with_reducible first | refine Run.drawX rfl (by decide +kernel) ?_ | refine Run.drawT rfl (by decide +kernel) ?_ | refine Run.drawW rfl (by decide +kernel) ?_); conv => whnf))
  refine Run.callBX (cells_fn s hs) rfl rfl ⟨Le.refl _, trivial⟩ rfl rfl rfl ?_
  (conv => whnf); repeat' (first | ((with_reducible refine Know.mk fun _ => ?_); conv => whnf) | ((with_reducible refine Need.mk ?_ ?_); exact nd; conv => whnf) | ((with_reducible first | refine Both.mk ?_ ?_ | refine Any.mk fun b hb => ?_ | refine AskB.dec (fun hb => ?_) (fun hb => ?_) | refine AskB.ndec (fun hb => ?_) (fun hb => ?_) | refine AskB.mk (fun hb => ?_) (fun hb => ?_)) <;> conv => whnf) | ((with_reducible first | refine Run.drawX rfl (by decide +kernel) ?_ | refine Run.drawT rfl (by decide +kernel) ?_ | refine Run.drawW rfl (by decide +kernel) ?_); conv => whnf))
  refine Run.holdBoxNil 6 1 90 5 1 (bytesG .empty) rfl rfl rfl rfl ?_
  have hcl := cells_len s 0
  have hT : ∀ j, (catC o ((cells s 0).take j)).size ≤ 2000000000 := fun j => by
    have h1 := catC_size o ((cells s 0).take j)
    have h2 : ((cells s 0).take j).length ≤ (cells s 0).length := by rw [List.length_take]; omega
    omega
  have hby := cell_byte s 0
  unfold textF
  generalize cells s 0 = L at hcl hT hby ⊢
  refine Run.loop [1, 6, 7, 15, 16] (fun (a : Nat × AV) => [(17, .int .i64 (a.1 : Int))]) (fun b => [(6, .box 95 [b.2, .row 90]), (90, .row 5 1 (catC o (L.take b.1)).size (bytesG (catC o (L.take b.1))))]) (fun a => a.1 ≤ L.length ∧ (a.2 = .nilp ∨ a.2 = .box 6 0)) (fun a => L.length - a.1) (0, .nilp) ⟨Nat.zero_le _, .inl rfl⟩ ⟨Le.refl _, trivial⟩ ⟨MOle.refl _, MOle.refl _, trivial⟩ ?_
  intro ⟨j, p⟩ ⟨hj, hp⟩ IH
  simp only [] at hj hp ⊢
  have hwj : IntKind.i64.wrap ((j : Int) + 1) = ((j + 1 : Nat) : Int) := wrap64 (by omega) (by omega)
  have hTj := hT j
  refine Run.go ?_; (conv => whnf); repeat' (first | ((with_reducible refine Know.mk fun _ => ?_); conv => whnf) | ((with_reducible refine Need.mk ?_ ?_); exact nd; conv => whnf) | ((with_reducible first | refine Both.mk ?_ ?_ | refine Any.mk fun b hb => ?_ | refine AskB.dec (fun hb => ?_) (fun hb => ?_) | refine AskB.ndec (fun hb => ?_) (fun hb => ?_) | refine AskB.mk (fun hb => ?_) (fun hb => ?_)) <;> conv => whnf) | ((with_reducible first | refine Run.drawX rfl (by decide +kernel) ?_ | refine Run.drawT rfl (by decide +kernel) ?_ | refine Run.drawW rfl (by decide +kernel) ?_); conv => whnf))
  case _ =>
    have hjl : j < L.length := by omega
    have hb2 : (L.getD j tCel.z).bad = true := hb
    have hcf : cellF o (L.getD j tCel.z) = ⟨#[UInt8.ofNat (L.getD j tCel.z).byte.toNat]⟩ := if_pos hb2
    refine Run.bldr 95 5 6 90 p (catC o (L.take j)) (by rcases hp with rfl | rfl <;> exact MOle.refl _) (MOle.refl _) ?_
    refine wb6 p _ (UInt8.ofNat (L.getD j tCel.z).byte.toNat) rfl rfl rfl rfl rfl ?_ (by omega) hp ?_
    · rw [hby _ (by rw [List.getD, List.getElem?_eq_getElem hjl]; exact List.getElem_mem hjl)]; rfl
    refine Run.go ?_; (conv => whnf); repeat' (first | ((with_reducible refine Know.mk fun _ => ?_); conv => whnf) | ((with_reducible refine Need.mk ?_ ?_); exact nd; conv => whnf) | ((with_reducible first | refine Both.mk ?_ ?_ | refine Any.mk fun b hb => ?_ | refine AskB.dec (fun hb => ?_) (fun hb => ?_) | refine AskB.ndec (fun hb => ?_) (fun hb => ?_) | refine AskB.mk (fun hb => ?_) (fun hb => ?_)) <;> conv => whnf) | ((with_reducible first | refine Run.drawX rfl (by decide +kernel) ?_ | refine Run.drawT rfl (by decide +kernel) ?_ | refine Run.drawW rfl (by decide +kernel) ?_); conv => whnf))
    refine Run.to _ _ ?_ ?_ (IH (j + 1, .box 6 0) (by simp only []; omega) ⟨by simp only []; omega, .inr rfl⟩)
    · exact ⟨Le.refl _, Le.refl _, Le.refl _, Le.refl _, Le.refl _, Le.int hwj, trivial⟩
    · refine ⟨MOle.refl _, ?_, trivial⟩
      simp only []
      rw [catC_take _ _ _ hjl, hcf]
      exact MOle.refl _
  case _ =>
    have hjl : j < L.length := by omega
    have hb2 : (L.getD j tCel.z).bad = false := hb
    have hcf : cellF o (L.getD j tCel.z) = foldR (L.getD j tCel.z).r o := if_neg (by rw [hb2]; exact Bool.noConfusion)
    refine Run.to [(1, .int .i64 o), (6, .box 6 0), (7, tF.L (stepsF o)), (15, tCel.L L), (16, .int .i64 L.length), (17, .int .i64 j), (27, .int .i32 (L.getD j tCel.z).r), (28, .int .i64 o), (29, tF.L (stepsF o))] [(6, .box 95 [p, .row 90]), (90, .row 5 1 (catC o (L.take j)).size (bytesG (catC o (L.take j))))]
      ⟨Le.refl _, Le.refl _, Le.refl _, Le.refl _, Le.refl _, Le.refl _, Le.refl _, Le.refl _, Le.refl _, trivial⟩ ⟨by rcases hp with rfl | rfl <;> exact MOle.refl _, MOle.refl _, trivial⟩ ?_
    refine fold41 _ p _ (L.getD j tCel.z).r o rfl rfl rfl rfl rfl rfl rfl rfl ?_ (by omega) hp ho.1 ho.2 ?_
    · exact ⟨⟨rfl, rfl, rfl, fun _ _ => rfl⟩, ⟨rfl, rfl, rfl, fun _ _ => rfl⟩, ⟨rfl, rfl, rfl, fun _ _ => rfl⟩, ⟨rfl, rfl, rfl, fun _ _ => rfl⟩, ⟨rfl, rfl, rfl, fun _ _ => rfl⟩, ⟨rfl, rfl, rfl, fun _ _ => rfl⟩, ⟨rfl, rfl, rfl, fun _ _ => rfl⟩, ⟨rfl, rfl, rfl, fun _ _ => rfl⟩, ⟨rfl, rfl, rfl, fun _ _ => rfl⟩, trivial⟩
    intro p' hp'
    refine Run.go ?_; (conv => whnf); repeat' (first | ((with_reducible refine Know.mk fun _ => ?_); conv => whnf) | ((with_reducible refine Need.mk ?_ ?_); exact nd; conv => whnf) | ((with_reducible first | refine Both.mk ?_ ?_ | refine Any.mk fun b hb => ?_ | refine AskB.dec (fun hb => ?_) (fun hb => ?_) | refine AskB.ndec (fun hb => ?_) (fun hb => ?_) | refine AskB.mk (fun hb => ?_) (fun hb => ?_)) <;> conv => whnf) | ((with_reducible first | refine Run.drawX rfl (by decide +kernel) ?_ | refine Run.drawT rfl (by decide +kernel) ?_ | refine Run.drawW rfl (by decide +kernel) ?_); conv => whnf))
    refine Run.to _ _ ?_ ?_ (IH (j + 1, p') (by simp only []; omega) ⟨by simp only []; omega, hp'⟩)
    · exact ⟨Le.refl _, Le.refl _, Le.refl _, Le.refl _, Le.refl _, Le.int hwj, trivial⟩
    · refine ⟨MOle.refl _, ?_, trivial⟩
      simp only []
      rw [catC_take _ _ _ hjl, hcf]
      exact MOle.refl _
  case _ =>
    obtain rfl : j = L.length := by omega
    refine Run.bldr 95 5 6 90 p (catC o (L.take L.length)) (MOle.refl _) (MOle.refl _) ?_
    refine bs6 p _ rfl rfl rfl rfl rfl ?_
    rw [List.take_length]
    refine Run.go ?_; (conv => whnf); repeat' (first | ((with_reducible refine Know.mk fun _ => ?_); conv => whnf) | ((with_reducible refine Need.mk ?_ ?_); exact nd; conv => whnf) | ((with_reducible first | refine Both.mk ?_ ?_ | refine Any.mk fun b hb => ?_ | refine AskB.dec (fun hb => ?_) (fun hb => ?_) | refine AskB.ndec (fun hb => ?_) (fun hb => ?_) | refine AskB.mk (fun hb => ?_) (fun hb => ?_)) <;> conv => whnf) | ((with_reducible first | refine Run.drawX rfl (by decide +kernel) ?_ | refine Run.drawT rfl (by decide +kernel) ?_ | refine Run.drawW rfl (by decide +kernel) ?_); conv => whnf))
    exact Run.leave (ts := [4,5]) (.inr ⟨_, rfl⟩) rfl Tryd.func51 rfl (resT ⟨Le.refl _, Le.refl _, trivial⟩)
/-- What a number becomes. -/
def runeL (r o : Int) : AV := tupL [.str (if badO o then .empty else foldR r o), .int .i64 (if badO o then 2 else 0)]
end Go.Proofs.YtnadacaoehpdnaaDoor.V

namespace Go.Proofs.YtnadacaoehpdnaaDoor.V
set_option linter.unusedVariables false
set_option linter.unusedSimpArgs false
open Go Go.Proofs Go.RowKit
set_option maxRecDepth 100000
set_option maxHeartbeats 4000000
open Go Go.Proofs Go.Proofs.YtnadacaoehpdnaaDoor.V
theorem bt_get! (s : ByteArray) (i : Nat) : ((s.get! i).toNat : Int) = bt s i := by
  unfold bt
  cases s with | mk a => 
  show ((a[i]!).toNat : Int) = _
  simp only [List.getD_eq_getElem?_getD, Array.getElem?_toList]
  rw [← Array.getD_eq_getD_getElem?]
  rfl
/-- A text of small bytes: its runes are its bytes. -/
theorem dec_ascii {s : ByteArray} {p : Nat} (h : bt s p < 128) : Utf8.decode s p = ((bt s p).toNat, 1) := by
  unfold Utf8.decode
  have e := bt_get! s p
  have h1 : (s.get! p).toNat < 128 := by omega
  simp only [Nat.add_zero, if_pos h1]
  rw [← e]; rfl
theorem runes_ascii (s : ByteArray) (h : ∀ i, bt s i < 128) (p : Nat) : runesE s p = (s.data.toList.drop p).map fun b => (b.toNat : Int) := by
  by_cases hp : p < s.size
  · have hp' : p < s.data.toList.length := by simpa using hp
    rw [runesE_in hp, dec_ascii (h p), runes_ascii s h (p + 1), List.drop_eq_getElem_cons hp', List.map_cons]
    congr 1
    unfold bt
    rw [List.getD, List.getElem?_eq_getElem hp']
    simp
  · have hp' : s.data.toList.length ≤ p := by simpa using hp
    rw [runesE_out hp, List.drop_eq_nil_of_le hp']; rfl
termination_by s.size - p
def bytesI (s : ByteArray) : List Int := s.data.toList.map fun b => (b.toNat : Int)
theorem ligB_ascii (r : Int) (i : Nat) : bt (ligB r) i < 128 := by
  have key : ∀ s : ByteArray, (s.data.toList.all fun b => b.toNat < 128) = true → bt s i < 128 := fun s hs => by
    unfold bt
    by_cases hi : i < s.data.toList.length
    · rw [List.getD, List.getElem?_eq_getElem hi]
      have := List.all_eq_true.mp hs _ (List.getElem_mem hi)
      have := of_decide_eq_true this
      simp only [Option.getD_some]; omega
    · rw [List.getD, List.getElem?_eq_none (by omega)]; decide
  apply key
  unfold ligB
  repeat' split
  all_goals first | rfl | skip
  rename_i h
  obtain ⟨k, hk⟩ : ∃ k : Fin 7, k.val = (r - 64256).toNat := ⟨⟨(r - 64256).toNat, by omega⟩, rfl⟩
  rw [← hk]
  clear hk h
  revert k; decide +kernel
theorem runes_lig (r : Int) : runesE (ligB r) 0 = bytesI (ligB r) := runes_ascii _ (ligB_ascii r) 0
theorem runesV_eq (r o : Int) : runesV r o = if isLig r = true ∧ o / 4 % 2 = 1 then bytesI (ligB r) else [r] := by
  unfold runesV
  rw [runes_lig]
end Go.Proofs.YtnadacaoehpdnaaDoor.V

namespace Go.Proofs.YtnadacaoehpdnaaDoor.V
set_option linter.unusedVariables false
set_option linter.unusedSimpArgs false
open Go
set_option maxRecDepth 100000
/-- A text of these bytes. -/
def bl (l : List UInt8) : ByteArray := ⟨l.toArray⟩
theorem bl_list (l : List UInt8) : (bl l).data.toList = l := by simp [bl]
theorem bl_app (a b : List UInt8) : bl (a ++ b) = bl a ++ bl b := by
  apply ByteArray.ext; apply Array.ext'; simp [bl]
theorem enc_eq (r : Int) : Utf8.encode r = bl (Lib.encodeRune r) := by
  unfold bl Utf8.encode Lib.encodeRune Lib.encodeRuneZ
  by_cases hv : Utf8.valid r = true
  · have h : (0 ≤ r ∧ r < 55296) ∨ (57344 ≤ r ∧ r ≤ 1114111) := by simpa [Utf8.valid] using hv
    obtain ⟨n, rfl⟩ : ∃ n : Nat, r = n := ⟨r.toNat, by omega⟩
    simp only [hv, if_true, Int.toNat_natCast]
    have t : ∀ (a b : Nat), (((a : Int) + (b : Int)).toNat.toUInt8) = UInt8.ofNat (a + b) := fun a b => by
      rw [show ((a : Int) + (b : Int)).toNat = a + b by omega]
    by_cases h1 : n < 128
    · rw [if_pos h1, if_pos (by omega)]
      simp [Nat.toUInt8]
    by_cases h2 : n < 2048
    · rw [if_neg h1, if_pos h2, if_neg (by omega), if_pos (by omega)]
      simp only [List.map_cons, List.map_nil]
      have e1 : (192 + (n : Int) / 64).toNat = 192 + n / 64 := by omega
      have e2 : (128 + (n : Int) % 64).toNat = 128 + n % 64 := by omega
      rw [e1, e2]
    by_cases h3 : n < 65536
    · rw [if_neg h1, if_neg h2, if_pos h3, if_neg (by omega), if_neg (by omega), if_pos (by omega)]
      simp only [List.map_cons, List.map_nil]
      have e1 : (224 + (n : Int) / 4096).toNat = 224 + n / 4096 := by omega
      have e2 : (128 + (n : Int) / 64 % 64).toNat = 128 + n / 64 % 64 := by omega
      have e3 : (128 + (n : Int) % 64).toNat = 128 + n % 64 := by omega
      rw [e1, e2, e3]
    · rw [if_neg h1, if_neg h2, if_neg h3, if_neg (by omega), if_neg (by omega), if_neg (by omega), if_pos (by omega)]
      simp only [List.map_cons, List.map_nil]
      have e0 : (240 + (n : Int) / 262144).toNat = 240 + n / 262144 := by omega
      have e1 : (128 + (n : Int) / 4096 % 64).toNat = 128 + n / 4096 % 64 := by omega
      have e2 : (128 + (n : Int) / 64 % 64).toNat = 128 + n / 64 % 64 := by omega
      have e3 : (128 + (n : Int) % 64).toNat = 128 + n % 64 := by omega
      rw [e0, e1, e2, e3]
  · have h : ¬ ((0 ≤ r ∧ r < 55296) ∨ (57344 ≤ r ∧ r ≤ 1114111)) := by simpa [Utf8.valid] using hv
    have hv' : Utf8.valid r = false := by simpa using hv
    simp only [hv', Bool.false_eq_true, if_false]
    rw [if_neg (show ¬ (0 ≤ r ∧ r ≤ 127) by omega), if_neg (show ¬ (128 ≤ r ∧ r ≤ 2047) by omega), if_neg (show ¬ ((2048 ≤ r ∧ r < 55296) ∨ (57343 < r ∧ r ≤ 65535)) by omega), if_neg (show ¬ (65536 ≤ r ∧ r ≤ 1114111) by omega)]
    rfl
theorem toU (x : Int) (h0 : 0 ≤ x) (h1 : x < 256) : (x.toNat.toUInt8).toNat = x.toNat := by
  rw [Nat.toUInt8, UInt8.toNat_ofNat']
  omega
def encs (rs : List Int) : List UInt8 := rs.flatMap Lib.encodeRune
theorem encs_app (a b : List Int) : encs (a ++ b) = encs a ++ encs b := by unfold encs; rw [List.flatMap_append]
theorem encs_cons (r : Int) (b : List Int) : encs (r :: b) = Lib.encodeRune r ++ encs b := rfl

/-- The steps, by their bits. -/
def stepB (c k l : Bool) (x : Int) : Int := cond l (letterV (cond k (bareV (cond c (lowV x) x)) (cond c (lowV x) x))) (cond k (bareV (cond c (lowV x) x)) (cond c (lowV x) x))
theorem stepV_eq (o x : Int) : stepV o x = stepB (decide (o % 2 = 1)) (decide (o / 2 % 2 = 1)) (decide (o / 8 % 2 = 1)) x := by
  unfold stepV appL stepsF stepB
  by_cases h1 : o % 2 = 1 <;> by_cases h2 : o / 2 % 2 = 1 <;> by_cases h3 : o / 8 % 2 = 1 <;> simp [h1, h2, h3, appF]
theorem catE_eq (o : Int) : ∀ l : List Int, catE o l = bl (encs (l.map (stepV o)))
  | [] => rfl
  | x :: r => by
    rw [catE, catE_eq o r, enc_eq, ← bl_app]; rfl
end Go.Proofs.YtnadacaoehpdnaaDoor.V

