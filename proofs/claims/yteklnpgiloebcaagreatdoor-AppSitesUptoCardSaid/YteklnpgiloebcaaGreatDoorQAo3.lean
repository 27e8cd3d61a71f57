/-
The texts BWf, BRt, BWd, BWg, BWh, BWi, BRw, BWj, BRq, BRv, BWk, BWq, BWr, BXp, BXr, BTa, BXz, BTb, BTc, BGz, BAa, BNa, BNl, BNc, BNd, BAi, BAc, BAd, BTf, of each what the law needs.
-/
import Derived.Test.YteklnpgiloebcaaGreatDoorQAo2
import Derived.Lib.MapLaws
namespace Go.Proofs.YteklnpgiloebcaaGreatDoor.V
set_option linter.unusedVariables false
set_option linter.unusedSimpArgs false
open Go Go.Proofs Go.RowKit
set_option maxRecDepth 100000
set_option maxHeartbeats 2000000
open Go Go.Proofs Go.Proofs.YteklnpgiloebcaaGreatDoor.V
theorem cell_fn (s : ByteArray) (i : Nat) (hi : i < s.size) (hs : s.size ≤ 134217728) : Fn Tryz.prog 121 [.str s, .int .i64 i] (.agg 5 (tCel.enc (cellAt s i))) := by
  refine Fn.of Tryz.f121 _ Tryz.func121 rfl (by decide) (by show 2 ≤ _; decide) tbOk 103 rfl fun S w0 gl => ?_
  refine Run.go ?_; (conv => whnf); repeat' (first | ((with_reducible refine Know.mk fun _ => ?_); conv => whnf) | ((with_reducible refine Need.mk ?_ ?_); exact nd; conv => whnf) | ((with_reducible first | refine Both.mk ?_ ?_ | refine Any.mk fun b hb => ?_ | refine AskB.dec (fun hb => ?_) (fun hb => ?_) | refine AskB.ndec (fun hb => ?_) (fun hb => ?_) | refine AskB.mk (fun hb => ?_) (fun hb => ?_)) <;> conv => whnf) | ((with_reducible first | refine Run.drawX rfl (by decide +kernel) ?_ | refine Run.drawT rfl (by decide +kernel) ?_ | refine Run.drawW rfl (by decide +kernel) ?_); conv => whnf) | fail)
  refine Run.callBX (wants_fn (bt s i)) rfl rfl ⟨Le.refl _, trivial⟩ rfl rfl rfl ?_
  (conv => whnf); repeat' (first | ((with_reducible refine Know.mk fun _ => ?_); conv => whnf) | ((with_reducible refine Need.mk ?_ ?_); exact nd; conv => whnf) | ((with_reducible first | refine Both.mk ?_ ?_ | refine Any.mk fun b hb => ?_ | refine AskB.dec (fun hb => ?_) (fun hb => ?_) | refine AskB.ndec (fun hb => ?_) (fun hb => ?_) | refine AskB.mk (fun hb => ?_) (fun hb => ?_)) <;> conv => whnf) | ((with_reducible first | refine Run.drawX rfl (by decide +kernel) ?_ | refine Run.drawT rfl (by decide +kernel) ?_ | refine Run.drawW rfl (by decide +kernel) ?_); conv => whnf) | fail)
  · have hd := dec_none s i (by omega)
    rw [cellAt_bad s i hd]
    refine Run.leaveC (.inr ⟨_, rfl⟩) rfl Tryz.func121 rfl rfl rfl (Nat.le_of_ble_eq_true rfl) (Le.agg fun j hj => ?_)
    match j, hj with
    | 0, _ => exact Le.refl _
    | 1, _ => exact Le.refl _
    | 2, _ => exact Le.refl _
    | 3, _ => exact Le.tt
    | 4, _ => exact Le.refl _
  have hne : wantsV (bt s i) ≠ 0 := by omega
  obtain ⟨hbad, hgood⟩ := dec_cases s i hi hne
  have hfv : fitsV s i = fitsE s i (wantsV (bt s i)) 1 := by unfold fitsV; rw [if_neg hne]
  rw [← hfv] at hbad hgood
  have hall := fitsE_all s i (wantsV (bt s i)) 1 (by omega)
  have hle := fitsE_le s i (wantsV (bt s i)) 1 (by omega)
  rw [← hfv] at hall hle
  have hin : ∀ j : Nat, ¬ ((fitsV s i : Nat) : Int) < (wantsV (bt s i) : Nat) → j < wantsV (bt s i) → i + j < s.size := fun j h1 h2 => by
    by_cases e : j = 0
    · subst e; exact hi
    · exact ((hall.mp (by omega)) j (by omega) h2).1
  have hin1 := hin 1
  have hin2 := hin 2
  have hin3 := hin 3
  have hw1 : IntKind.i64.wrap ((i : Int) + 1) = (i : Int) + 1 := wrap64 (by omega) (by omega)
  have hw2 : IntKind.i64.wrap ((i : Int) + 2) = (i : Int) + 2 := wrap64 (by omega) (by omega)
  have hw3 : IntKind.i64.wrap ((i : Int) + 3) = (i : Int) + 3 := wrap64 (by omega) (by omega)
  refine Run.callBX (fits_fn s i hi hs) rfl rfl ⟨Le.refl _, Le.refl _, trivial⟩ rfl rfl rfl ?_
  (conv => whnf); repeat' (first | ((with_reducible refine Know.mk fun _ => ?_); conv => whnf) | ((with_reducible refine Need.mk ?_ ?_); exact nd; conv => whnf) | ((with_reducible first | refine Both.mk ?_ ?_ | refine Any.mk fun b hb => ?_ | refine AskB.dec (fun hb => ?_) (fun hb => ?_) | refine AskB.ndec (fun hb => ?_) (fun hb => ?_) | refine AskB.mk (fun hb => ?_) (fun hb => ?_)) <;> conv => whnf) | ((with_reducible first | refine Run.drawX rfl (by decide +kernel) ?_ | refine Run.drawT rfl (by decide +kernel) ?_ | refine Run.drawW rfl (by decide +kernel) ?_); conv => whnf) | fail)
  · rw [cellAt_bad s i (hbad (by omega))]
    refine Run.leaveC (.inr ⟨_, rfl⟩) rfl Tryz.func121 rfl rfl rfl (Nat.le_of_ble_eq_true rfl) (Le.agg fun j hj => ?_)
    match j, hj with
    | 0, _ => exact Le.refl _
    | 1, _ => exact Le.refl _
    | 2, _ => exact Le.refl _
    | 3, _ => exact Le.tt
    | 4, _ => exact Le.refl _
  · have hW : wantsV (bt s i) = 2 := by omega
    obtain ⟨g1, g2, g3⟩ := hgood (by omega)
    rw [cellAt_good s i _ _ g1 (by omega)]
    refine Run.leaveC (.inr ⟨_, rfl⟩) rfl Tryz.func121 rfl rfl rfl (Nat.le_of_ble_eq_true rfl) (Le.agg fun j hj => ?_)
    match j, hj with
    | 0, _ => exact Le.refl _
    | 1, _ => exact Le.refl _
    | 2, _ =>
      refine Le.int ?_
      rw [Int.toNat_of_nonneg g2]
      rw [hW]
      exact (bits2 (bt s i) _ (bt_lt _ _) (bt_lt _ _)).trans (by rw [hw1]; rfl)
    | 3, _ => exact Le.ff
    | 4, _ => exact Le.refl _
  · have hW : wantsV (bt s i) = 3 := by omega
    obtain ⟨g1, g2, g3⟩ := hgood (by omega)
    rw [cellAt_good s i _ _ g1 (by omega)]
    refine Run.leaveC (.inr ⟨_, rfl⟩) rfl Tryz.func121 rfl rfl rfl (Nat.le_of_ble_eq_true rfl) (Le.agg fun j hj => ?_)
    match j, hj with
    | 0, _ => exact Le.refl _
    | 1, _ => exact Le.refl _
    | 2, _ =>
      refine Le.int ?_
      rw [Int.toNat_of_nonneg g2]
      rw [hW]
      exact (bits3 (bt s i) _ _ (bt_lt _ _) (bt_lt _ _) (bt_lt _ _)).trans (by rw [hw1, hw2]; rfl)
    | 3, _ => exact Le.ff
    | 4, _ => exact Le.refl _
  · have hW : wantsV (bt s i) = 4 := by omega
    obtain ⟨g1, g2, g3⟩ := hgood (by omega)
    rw [cellAt_good s i _ _ g1 (by omega)]
    refine Run.leaveC (.inr ⟨_, rfl⟩) rfl Tryz.func121 rfl rfl rfl (Nat.le_of_ble_eq_true rfl) (Le.agg fun j hj => ?_)
    match j, hj with
    | 0, _ => exact Le.refl _
    | 1, _ => exact Le.refl _
    | 2, _ =>
      refine Le.int ?_
      rw [Int.toNat_of_nonneg g2]
      rw [hW]
      exact (bits4 (bt s i) _ _ _ (bt_lt _ _) (bt_lt _ _) (bt_lt _ _) (bt_lt _ _)).trans (by rw [hw1, hw2, hw3]; rfl)
    | 3, _ => exact Le.ff
    | 4, _ => exact Le.refl _
  · have hW4 : wantsV (bt s i) ≤ 4 := by
      unfold wantsV
      repeat' split
      all_goals omega
    have hW : wantsV (bt s i) = 1 := by omega
    obtain ⟨g1, g2, g3⟩ := hgood (by omega)
    rw [cellAt_good s i _ _ g1 (by omega)]
    refine Run.leaveC (.inr ⟨_, rfl⟩) rfl Tryz.func121 rfl rfl rfl (Nat.le_of_ble_eq_true rfl) (Le.agg fun j hj => ?_)
    match j, hj with
    | 0, _ => exact Le.refl _
    | 1, _ => exact Le.refl _
    | 2, _ =>
      refine Le.int ?_
      rw [Int.toNat_of_nonneg g2]
      rw [hW]
      exact IntWalk.i32_in _ (by have := bt_lt s i; show _ ≤ bt s i ∧ bt s i ≤ _; omega)
    | 3, _ => exact Le.ff
    | 4, _ => exact Le.refl _
theorem cells36_fn (s : ByteArray) (hs : s.size ≤ 134217728) : Fn Tryz.prog 99 [.str s] (tCel.L (cells s 0)) := by
  refine Fn.of Tryz.f99 _ Tryz.func99 rfl (by decide) (by show 1 ≤ _; decide) tbOk 22 rfl fun S w0 gl => ?_
  refine Run.go ?_; (conv => whnf); repeat' (first | ((with_reducible refine Know.mk fun _ => ?_); conv => whnf) | ((with_reducible refine Need.mk ?_ ?_); exact nd; conv => whnf) | ((with_reducible first | refine Both.mk ?_ ?_ | refine Any.mk fun b hb => ?_ | refine AskB.dec (fun hb => ?_) (fun hb => ?_) | refine AskB.ndec (fun hb => ?_) (fun hb => ?_) | refine AskB.mk (fun hb => ?_) (fun hb => ?_)) <;> conv => whnf) | ((with_reducible first | refine Run.drawX rfl (by decide +kernel) ?_ | refine Run.drawT rfl (by decide +kernel) ?_ | refine Run.drawW rfl (by decide +kernel) ?_); conv => whnf) | fail)
  refine Run.holdNil 3 1000 139 5 (fun _ _ => .u) rfl ?_
  refine Run.loop [0] (fun (a : Nat × List Cel) => [(3, .row 1000), (4, .int .i64 (a.1 : Int))]) (fun a => [(1000, tCel.R 139 a.2)]) (fun a => a.1 ≤ s.size ∧ a.2.length ≤ a.1 ∧ a.2 ++ cells s a.1 = cells s 0) (fun a => s.size - a.1) (0, []) ⟨Nat.zero_le _, Nat.zero_le _, rfl⟩ ⟨Le.refl _, Le.refl _, trivial⟩ ⟨⟨rfl, rfl, rfl, fun i j hi => absurd hi (Nat.not_lt_zero _)⟩, trivial⟩ ?_
  intro ⟨p, l⟩ ⟨hp, hl, hc⟩ IH
  simp only at hp hl hc
  show Run _ _ (lst (_ ++ [(3, .row 1000), (4, .int .i64 (p : Int))])) (lstH [(1000, tCel.R 139 l)])
  refine Run.go ?_; (conv => whnf); repeat' (first | ((with_reducible refine Know.mk fun _ => ?_); conv => whnf) | ((with_reducible refine Need.mk ?_ ?_); exact nd; conv => whnf) | ((with_reducible first | refine Both.mk ?_ ?_ | refine Any.mk fun b hb => ?_ | refine AskB.dec (fun hb => ?_) (fun hb => ?_) | refine AskB.ndec (fun hb => ?_) (fun hb => ?_) | refine AskB.mk (fun hb => ?_) (fun hb => ?_)) <;> conv => whnf) | ((with_reducible first | refine Run.drawX rfl (by decide +kernel) ?_ | refine Run.drawT rfl (by decide +kernel) ?_ | refine Run.drawW rfl (by decide +kernel) ?_); conv => whnf) | fail)
  · have hw := Lib.width_pos s p
    have hle := decode_fit s p (by omega)
    have hnext : l ++ cells s p = (l ++ [cellAt s p]) ++ cells s (p + (Utf8.decode s p).2) := by rw [cells_in (by omega)]; simp
    have hwd : (cellAt s p).w = (Utf8.decode s p).2 := by unfold cellAt; split <;> simp_all
    refine Run.callBX (cell_fn s p (by omega) hs) rfl rfl ⟨Le.refl _, Le.refl _, trivial⟩ rfl rfl rfl ?_
    (conv => whnf); repeat' (first | ((with_reducible refine Know.mk fun _ => ?_); conv => whnf) | ((with_reducible refine Need.mk ?_ ?_); exact nd; conv => whnf) | ((with_reducible first | refine Both.mk ?_ ?_ | refine Any.mk fun b hb => ?_ | refine AskB.dec (fun hb => ?_) (fun hb => ?_) | refine AskB.ndec (fun hb => ?_) (fun hb => ?_) | refine AskB.mk (fun hb => ?_) (fun hb => ?_)) <;> conv => whnf) | ((with_reducible first | refine Run.drawX rfl (by decide +kernel) ?_ | refine Run.drawT rfl (by decide +kernel) ?_ | refine Run.drawW rfl (by decide +kernel) ?_); conv => whnf) | fail)
    refine Run.hold (z := 16) 3 1000 (by rfl) (by rfl) (by rfl) ?_
    refine Run.to _ _ ?_ ?_ (IH (p + (Utf8.decode s p).2, l ++ [cellAt s p]) (by simp only []; omega) ⟨by simp only []; omega, by simp only [List.length_append, List.length_singleton]; omega, by simp only []; rw [← hnext, hc]⟩)
    · exact ⟨Le.refl _, Le.refl _, Le.int ((congrArg IntKind.i64.wrap (by show (p : Int) + ((cellAt s p).w : Int) = ((p + (Utf8.decode s p).2 : Nat) : Int); rw [hwd, Int.natCast_add])).trans (wrap64 (x := ((p + (Utf8.decode s p).2 : Nat) : Int)) (by omega) (by omega))), trivial⟩
    · refine ⟨tCel.push 139 l (cellAt s p) _ (fun j hj => ?_), trivial⟩
      match j, hj with
      | 0, _ => exact Le.refl _
      | 1, _ => exact Le.refl _
      | 2, _ => exact Le.refl _
      | 3, _ => exact Le.refl _
      | 4, _ => exact Le.refl _
  have hpe : ¬ p < s.size := by omega
  rw [cells_out hpe, List.append_nil] at hc
  rw [← hc]
  exact Run.leave (ts := [2]) (.inr ⟨_, rfl⟩) rfl Tryz.func99 rfl (Le.refl _)
end Go.Proofs.YteklnpgiloebcaaGreatDoor.V

namespace Go.Proofs.YteklnpgiloebcaaGreatDoor.V
set_option linter.unusedVariables false
set_option linter.unusedSimpArgs false
open Go
structure Tok where
  kind : Int
  at' : Int
  text : ByteArray
def tTok : Ty Tok := ⟨3, fun t j => match j with | 0 => .int .i64 t.kind | 1 => .int .i64 t.at' | _ => .str t.text, ⟨0, 0, .empty⟩⟩
def cel0 : Cel := ⟨0, 0, 0, false, 0⟩
def knd (L : List Cel) (i : Nat) : Int := if i < L.length then kCel (L.getD i cel0) else -1
abbrev wy (L : List Cel) (i : Nat) : Prop := wordy (knd L i) = true
theorem wy_lt {L : List Cel} {i : Nat} (h : wy L i) : i < L.length := by
  unfold wy knd at h
  split at h
  · assumption
  · exact absurd h (by decide)
def wordE (L : List Cel) (i : Nat) : Nat := if h : i < L.length then (if wy L i then wordE L (i + 1) else if knd L i = 4 ∧ wy L (i + 1) then wordE L (i + 2) else i) else i
termination_by L.length - i
def blankE (L : List Cel) (i : Nat) : Nat := if h : i < L.length then (if knd L i = 5 then blankE L (i + 1) else i) else i
termination_by L.length - i
theorem wordE_ge (L : List Cel) (i : Nat) : i ≤ wordE L i ∧ (i ≤ L.length → wordE L i ≤ L.length) := by
  by_cases h : i < L.length
  · rw [wordE, dif_pos h]
    split
    · have := wordE_ge L (i + 1); omega
    · split
      · rename_i h2
        have h3 := wy_lt h2.2
        have := wordE_ge L (i + 2); omega
      · omega
  · rw [wordE, dif_neg h]; omega
termination_by L.length - i
theorem wordE_gt {L : List Cel} {i : Nat} (h : wy L i) : i < wordE L i := by
  rw [wordE, dif_pos (wy_lt h), if_pos h]
  have := wordE_ge L (i + 1); omega
theorem blankE_ge (L : List Cel) (i : Nat) : i ≤ blankE L i ∧ (i ≤ L.length → blankE L i ≤ L.length) := by
  by_cases h : i < L.length
  · rw [blankE, dif_pos h]
    split
    · have := blankE_ge L (i + 1); omega
    · omega
  · rw [blankE, dif_neg h]; omega
termination_by L.length - i
theorem knd_lt {L : List Cel} {i : Nat} (h : 0 ≤ knd L i) : i < L.length := by
  unfold knd at h
  split at h
  · assumption
  · omega
theorem blankE_gt {L : List Cel} {i : Nat} (h : knd L i = 5) : i < blankE L i := by
  rw [blankE, dif_pos (knd_lt (by omega)), if_pos h]
  have := blankE_ge L (i + 1); omega
/-- The kind of the token at i, and the cell behind it. -/
def tokE (L : List Cel) (i : Nat) : Int × Nat :=
  if wy L i then (1, wordE L i)
  else if knd L i = 5 then (2, blankE L i)
  else if knd L i = 6 then (3, if (L.getD i cel0).r = 13 ∧ i + 1 < L.length ∧ (L.getD (i + 1) cel0).r = 10 then i + 2 else i + 1)
  else if knd L i = 7 ∨ knd L i = 4 then (4, i + 1)
  else (5, i + 1)
theorem tokE_gt (L : List Cel) (i : Nat) (h : i < L.length) : i < (tokE L i).2 ∧ (tokE L i).2 ≤ L.length := by
  unfold tokE
  split
  · rename_i h1; exact ⟨wordE_gt h1, (wordE_ge L i).2 (by omega)⟩
  · split
    · rename_i h1; exact ⟨blankE_gt h1, (blankE_ge L i).2 (by omega)⟩
    · split
      · simp only []; split <;> omega
      · split <;> (simp only []; omega)
def posAt (s : ByteArray) (L : List Cel) (i : Nat) : Nat := if i < L.length then (L.getD i cel0).pos else s.size
def toks (s : ByteArray) (base : Int) (L : List Cel) (i : Nat) : List Tok :=
  if h : i < L.length then ⟨(tokE L i).1, base + posAt s L i, s.extract (posAt s L i) (posAt s L (tokE L i).2)⟩ :: toks s base L (tokE L i).2 else []
termination_by L.length - i
decreasing_by have := tokE_gt L i h; omega
theorem toks_in {s : ByteArray} {base : Int} {L : List Cel} {i : Nat} (h : i < L.length) : toks s base L i = ⟨(tokE L i).1, base + posAt s L i, s.extract (posAt s L i) (posAt s L (tokE L i).2)⟩ :: toks s base L (tokE L i).2 := by
  rw [toks, dif_pos h]
theorem toks_out {s : ByteArray} {base : Int} {L : List Cel} {i : Nat} (h : ¬ i < L.length) : toks s base L i = [] := by
  rw [toks, dif_neg h]
/-- The kinds, one by one, and the end's. -/
def kinds (L : List Cel) (i : Nat) : List Int := (L.take i).map kCel ++ List.replicate (L.length + 1 - i) 0
def kindsE (L : List Cel) : List Int := L.map kCel ++ [-1]
theorem kinds_len (L : List Cel) (i : Nat) (h : i ≤ L.length) : (kinds L i).length = L.length + 1 := by simp [kinds]; omega
theorem kindsE_len (L : List Cel) : (kindsE L).length = L.length + 1 := by simp [kindsE]
theorem kinds_set (L : List Cel) (i : Nat) (h : i < L.length) : (kinds L i).set i (kCel (L.getD i cel0)) = kinds L (i + 1) := by
  unfold kinds
  refine List.ext_getElem (by simp; omega) fun j h1 h2 => ?_
  rw [List.getElem_set]
  by_cases e : i = j
  · subst e
    rw [if_pos rfl, List.getElem_append_left (by simp; omega)]
    simp [List.getD, h]
  · rw [if_neg e]
    rcases Nat.lt_or_ge j i with h3 | h3
    · rw [List.getElem_append_left (by simp; omega), List.getElem_append_left (by simp; omega)]; simp
    · rw [List.getElem_append_right (by simp; omega), List.getElem_append_right (by simp; omega)]; simp
theorem kinds_end (L : List Cel) : (kinds L L.length).set L.length (-1) = kindsE L := by
  unfold kinds kindsE
  have : L.length + 1 - L.length = 1 := by omega
  rw [this, List.take_length]
  simp [List.set_append]
theorem kindsE_at (L : List Cel) (i : Nat) (h : i ≤ L.length) : (kindsE L).getD i 0 = knd L i := by
  unfold kindsE knd
  by_cases h1 : i < L.length
  · rw [if_pos h1]; simp [List.getD, List.getElem?_append_left (by simpa using h1 : i < (L.map kCel).length), h1]
  · rw [if_neg h1]
    have : i = L.length := by omega
    subst this
    simp [List.getD]
/-- Places grow. -/
theorem cells_pos (s : ByteArray) (p : Nat) : (∀ c ∈ cells s p, p ≤ c.pos ∧ c.pos < s.size) ∧ (cells s p).Pairwise (fun a b => a.pos < b.pos) := by
  by_cases h : p < s.size
  · have hw := Lib.width_pos s p
    obtain ⟨h1, h2⟩ := cells_pos s (p + (Utf8.decode s p).2)
    have hp : (cellAt s p).pos = p := by unfold cellAt; split <;> rfl
    rw [cells_in h]
    refine ⟨fun c hc => ?_, List.pairwise_cons.mpr ⟨fun c hc => ?_, h2⟩⟩
    · rcases List.mem_cons.mp hc with e | hc
      · rw [e, hp]; omega
      · have := h1 c hc; omega
    · rw [hp]; have := h1 c hc; omega
  · rw [cells_out h]; simp
termination_by s.size - p
theorem posAt_le (s : ByteArray) (i : Nat) : posAt s (cells s 0) i ≤ s.size := by
  unfold posAt
  split
  · rename_i h
    have : (cells s 0).getD i cel0 ∈ cells s 0 := by rw [List.getD, List.getElem?_eq_getElem h]; exact List.getElem_mem h
    exact Nat.le_of_lt ((cells_pos s 0).1 _ this).2
  · exact Nat.le_refl _
theorem posAt_mono (s : ByteArray) (i j : Nat) (h : i ≤ j) : posAt s (cells s 0) i ≤ posAt s (cells s 0) j := by
  by_cases hj : j < (cells s 0).length
  · rcases Nat.eq_or_lt_of_le h with e | e
    · subst e; exact Nat.le_refl _
    · unfold posAt
      rw [if_pos (by omega), if_pos hj]
      have := List.pairwise_iff_getElem.mp (cells_pos s 0).2 i j (by omega) hj e
      rw [List.getD, List.getElem?_eq_getElem (by omega : i < (cells s 0).length), List.getD, List.getElem?_eq_getElem hj]
      exact Nat.le_of_lt this
  · have : posAt s (cells s 0) j = s.size := by unfold posAt; rw [if_neg hj]
    rw [this]; exact posAt_le s i
end Go.Proofs.YteklnpgiloebcaaGreatDoor.V

namespace Go.Proofs.YteklnpgiloebcaaGreatDoor.V
set_option linter.unusedVariables false
set_option linter.unusedSimpArgs false
open Go Go.Proofs Go.RowKit
set_option maxRecDepth 100000
set_option maxHeartbeats 2000000
open Go Go.Proofs Go.Proofs.YteklnpgiloebcaaGreatDoor.V
theorem kcell_fn (c : Cel) : Fn Tryz.prog 128 [.agg 5 (tCel.enc c)] (.int .i64 (kCel c)) := by
  refine Fn.of Tryz.f128 _ Tryz.func128 rfl (by decide) (by show 1 ≤ _; decide) tbOk 8 rfl fun S w0 gl => ?_
  refine Run.go ?_; (conv => whnf); repeat' (first | ((with_reducible refine Know.mk fun _ => ?_); conv => whnf) | ((with_reducible refine Need.mk ?_ ?_); exact nd; conv => whnf) | ((with_reducible first | refine Both.mk ?_ ?_ | refine Any.mk fun b hb => ?_ | refine AskB.dec (fun hb => ?_) (fun hb => ?_) | refine AskB.ndec (fun hb => ?_) (fun hb => ?_) | refine AskB.mk (fun hb => ?_) (fun hb => ?_)) <;> conv => whnf) | ((with_reducible first | refine Run.drawX rfl (by decide +kernel) ?_ | refine Run.drawT rfl (by decide +kernel) ?_ | refine Run.drawW rfl (by decide +kernel) ?_); conv => whnf) | fail)
  · exact Run.leave (ts := [2]) (.inr ⟨_, rfl⟩) rfl Tryz.func128 rfl (Le.int (by unfold kCel; rw [if_pos hb]))
  · refine Run.callBX (of_fn c.r) rfl rfl ⟨Le.refl _, trivial⟩ rfl rfl rfl ?_
    (conv => whnf); repeat' (first | ((with_reducible refine Know.mk fun _ => ?_); conv => whnf) | ((with_reducible refine Need.mk ?_ ?_); exact nd; conv => whnf) | ((with_reducible first | refine Both.mk ?_ ?_ | refine Any.mk fun b hb => ?_ | refine AskB.dec (fun hb => ?_) (fun hb => ?_) | refine AskB.ndec (fun hb => ?_) (fun hb => ?_) | refine AskB.mk (fun hb => ?_) (fun hb => ?_)) <;> conv => whnf) | ((with_reducible first | refine Run.drawX rfl (by decide +kernel) ?_ | refine Run.drawT rfl (by decide +kernel) ?_ | refine Run.drawW rfl (by decide +kernel) ?_); conv => whnf) | fail)
    exact Run.leave (ts := [2]) (.inr ⟨_, rfl⟩) rfl Tryz.func128 rfl (Le.int (by unfold kCel; rw [if_neg (by simp [hb])]))
theorem wordy_fn (k : Int) : Fn Tryz.prog 129 [.int .i64 k] (.bool (wordy k)) := by
  refine Fn.of Tryz.f129 _ Tryz.func129 rfl (by decide) (by show 1 ≤ _; decide) tbOk 13 rfl fun S w0 gl => ?_
  refine Run.go ?_; (conv => whnf); repeat' (first | ((with_reducible refine Know.mk fun _ => ?_); conv => whnf) | ((with_reducible refine Need.mk ?_ ?_); exact nd; conv => whnf) | ((with_reducible first | refine Both.mk ?_ ?_ | refine Any.mk fun b hb => ?_ | refine AskB.dec (fun hb => ?_) (fun hb => ?_) | refine AskB.ndec (fun hb => ?_) (fun hb => ?_) | refine AskB.mk (fun hb => ?_) (fun hb => ?_)) <;> conv => whnf) | ((with_reducible first | refine Run.drawX rfl (by decide +kernel) ?_ | refine Run.drawT rfl (by decide +kernel) ?_ | refine Run.drawW rfl (by decide +kernel) ?_); conv => whnf) | fail)
  · exact Run.leave (ts := [2]) (.inr ⟨_, rfl⟩) rfl Tryz.func129 rfl (Le.tt.trans (Le.bool (by simp [wordy, hb])))
  · exact Run.leave (ts := [2]) (.inr ⟨_, rfl⟩) rfl Tryz.func129 rfl (Le.tt.trans (Le.bool (by simp [wordy, hb])))
  · rename_i h1
    exact Run.leave (ts := [2]) (.inr ⟨_, rfl⟩) rfl Tryz.func129 rfl (Le.bool (by simp [wordy, h1, hb]))
theorem nwy {L : List Cel} {i : Nat} (h : wordy (knd L i) = false) : ¬ wy L i := fun h2 => absurd (h.symm.trans h2) (by decide)
theorem tokens_fn (s : ByteArray) (base : Int) (hs : s.size ≤ 1048576) (hb0 : 0 ≤ base) (hb1 : base ≤ 1048576) : Fn Tryz.prog 101 [.str s, .int .i64 base] (tTok.L (toks s base (cells s 0) 0)) := by
  refine Fn.of Tryz.f101 _ Tryz.func101 rfl (by decide) (by show 2 ≤ _; decide) tbOk 156 rfl fun S w0 gl => ?_
  refine Run.go ?_; (conv => whnf); repeat' (first | ((with_reducible refine Know.mk fun _ => ?_); conv => whnf) | ((with_reducible refine Need.mk ?_ ?_); exact nd; conv => whnf) | ((with_reducible first | refine Both.mk ?_ ?_ | refine Any.mk fun b hb => ?_ | refine AskB.dec (fun hb => ?_) (fun hb => ?_) | refine AskB.ndec (fun hb => ?_) (fun hb => ?_) | refine AskB.mk (fun hb => ?_) (fun hb => ?_)) <;> conv => whnf) | ((with_reducible first | refine Run.drawX rfl (by decide +kernel) ?_ | refine Run.drawT rfl (by decide +kernel) ?_ | refine Run.drawW rfl (by decide +kernel) ?_); conv => whnf) | fail)
  refine Run.callBX (cells_fn s (by omega)) rfl rfl ⟨Le.refl _, trivial⟩ rfl rfl rfl ?_
  have hlen := cells_len s 0
  generalize hL : cells s 0 = L at *
  have hw : IntKind.i64.wrap (L.length + 1) = L.length + 1 := wrap64 (by omega) (by omega)
  (conv => whnf); repeat' (first | ((with_reducible refine Know.mk fun _ => ?_); conv => whnf) | ((with_reducible refine Need.mk ?_ ?_); exact nd; conv => whnf) | ((with_reducible first | refine Both.mk ?_ ?_ | refine Any.mk fun b hb => ?_ | refine AskB.dec (fun hb => ?_) (fun hb => ?_) | refine AskB.ndec (fun hb => ?_) (fun hb => ?_) | refine AskB.mk (fun hb => ?_) (fun hb => ?_)) <;> conv => whnf) | ((with_reducible first | refine Run.drawX rfl (by decide +kernel) ?_ | refine Run.drawT rfl (by decide +kernel) ?_ | refine Run.drawW rfl (by decide +kernel) ?_); conv => whnf) | fail)
  rw [hw]
  repeat' (first | ((with_reducible refine Know.mk fun _ => ?_); conv => whnf) | ((with_reducible refine Need.mk ?_ ?_); exact nd; conv => whnf) | ((with_reducible first | refine Both.mk ?_ ?_ | refine Any.mk fun b hb => ?_ | refine AskB.dec (fun hb => ?_) (fun hb => ?_) | refine AskB.ndec (fun hb => ?_) (fun hb => ?_) | refine AskB.mk (fun hb => ?_) (fun hb => ?_)) <;> conv => whnf) | ((with_reducible first | refine Run.drawX rfl (by decide +kernel) ?_ | refine Run.drawT rfl (by decide +kernel) ?_ | refine Run.drawW rfl (by decide +kernel) ?_); conv => whnf) | fail)
  refine Run.loop [0, 1, 5, 6, 21, 22] (fun i : Nat => [(23, .int .i64 (i : Int))]) (fun i => [(20, tI.R 3 (kinds L i))]) (fun i => i ≤ L.length) (fun i => L.length - i) 0 (Nat.zero_le _) ⟨Le.refl _, trivial⟩ ⟨?_, trivial⟩ ?_
  · refine ⟨rfl, rfl, by rw [kinds_len L 0 (Nat.zero_le _)]; omega, fun i j hi hj => ?_⟩
    have : j = 0 := by omega
    subst this
    refine Le.int ?_
    have hi' : i < L.length + 1 := by omega
    simp [kinds, List.getD, hi']
  intro i hi IH
  have hkl := kinds_len L i hi
  refine Run.go ?_; (conv => whnf); repeat' (first | ((with_reducible refine Know.mk fun _ => ?_); conv => whnf) | ((with_reducible refine Need.mk ?_ ?_); exact nd; conv => whnf) | ((with_reducible first | refine Both.mk ?_ ?_ | refine Any.mk fun b hb => ?_ | refine AskB.dec (fun hb => ?_) (fun hb => ?_) | refine AskB.ndec (fun hb => ?_) (fun hb => ?_) | refine AskB.mk (fun hb => ?_) (fun hb => ?_)) <;> conv => whnf) | ((with_reducible first | refine Run.drawX rfl (by decide +kernel) ?_ | refine Run.drawT rfl (by decide +kernel) ?_ | refine Run.drawW rfl (by decide +kernel) ?_); conv => whnf) | fail)
  · refine Run.callBX (kcell_fn (L.getD i cel0)) rfl rfl ⟨?_, trivial⟩ rfl rfl rfl ?_
    · refine Le.agg fun j hj => ?_
      match j, hj with
      | 0, _ => exact Le.refl _
      | 1, _ => exact Le.refl _
      | 2, _ => exact Le.refl _
      | 3, _ => exact Le.refl _
      | 4, _ => exact Le.refl _
    (conv => whnf); repeat' (first | ((with_reducible refine Know.mk fun _ => ?_); conv => whnf) | ((with_reducible refine Need.mk ?_ ?_); exact nd; conv => whnf) | ((with_reducible first | refine Both.mk ?_ ?_ | refine Any.mk fun b hb => ?_ | refine AskB.dec (fun hb => ?_) (fun hb => ?_) | refine AskB.ndec (fun hb => ?_) (fun hb => ?_) | refine AskB.mk (fun hb => ?_) (fun hb => ?_)) <;> conv => whnf) | ((with_reducible first | refine Run.drawX rfl (by decide +kernel) ?_ | refine Run.drawT rfl (by decide +kernel) ?_ | refine Run.drawW rfl (by decide +kernel) ?_); conv => whnf) | fail)
    refine Run.to _ _ ?_ ?_ (IH (i + 1) (by omega) (by omega))
    · exact ⟨Le.refl _, Le.refl _, Le.refl _, Le.refl _, Le.refl _, Le.refl _, Le.wrap64 (by omega) (by omega) (by omega), trivial⟩
    · refine ⟨?_, trivial⟩
      rw [← kinds_set L i (by omega)]
      exact tI.set 3 _ _ _ (by omega) _ rfl (Le.one (Le.refl _))
  have hil : i = L.length := by omega
  subst hil
  refine Run.holdNil 9 1000 126 3 (fun _ _ => .u) (by rfl) ?_
  refine Run.loop [0, 1, 5, 6] (fun (a : Nat × List Tok) => [(9, .row 1000), (10, .int .i64 (a.1 : Int))]) (fun a => [(20, tI.R 3 (kindsE L)), (1000, tTok.R 126 a.2)])
    (fun a => a.1 ≤ L.length ∧ a.2.length ≤ a.1 ∧ a.2 ++ toks s base L a.1 = toks s base L 0) (fun a => L.length - a.1) (0, []) ⟨Nat.zero_le _, Nat.zero_le _, rfl⟩ ⟨Le.refl _, Le.refl _, trivial⟩ ⟨?_, ⟨rfl, rfl, rfl, fun i j hi => absurd hi (Nat.not_lt_zero _)⟩, trivial⟩ ?_
  · rw [← kinds_end L]
    exact tI.set 3 _ _ _ (by omega) _ rfl (Le.one (Le.refl _))
  intro ⟨i, l⟩ ⟨hi, hl, hc⟩ IH
  simp only at hi hl hc
  show Run _ _ (lst (_ ++ [(9, .row 1000), (10, .int .i64 (i : Int))])) (lstH [(20, tI.R 3 (kindsE L)), (1000, tTok.R 126 l)])
  have hke := kindsE_len L
  by_cases hil : i < L.length
  · have hat : ∀ j, j ≤ L.length → (kindsE L).getD (↑j : Int).toNat tI.z = knd L j := fun j hj => kindsE_at L j hj
    have hw2 : ∀ j : Nat, j ≤ L.length → IntKind.i64.wrap ((j : Int) + 1) = (j : Int) + 1 := fun j hj => wrap64 (by omega) (by omega)
    have hw3 := hw2 i hi
    apply Run.cutAt (A := fun CC kk => ∀ (n : Nat) (k : Int), tokE L i = (k, n) → Run CC kk (lst [(0, .str s), (1, .int .i64 base), (5, tCel.L L), (6, .row 20), (9, .row 1000), (10, .int .i64 (n : Int)), (11, .int .i64 (i : Int)), (12, .int .i64 k)]) (lstH [(20, tI.R 3 (kindsE L)), (1000, tTok.R 126 l)]))
    case main =>
      intro put
      refine Run.go ?_; (conv => whnf); repeat' (first | ((with_reducible refine Know.mk fun _ => ?_); conv => whnf) | ((with_reducible refine Need.mk ?_ ?_); exact nd; conv => whnf) | ((with_reducible first | refine Both.mk ?_ ?_ | refine Any.mk fun b hb => ?_ | refine AskB.dec (fun hb => ?_) (fun hb => ?_) | refine AskB.ndec (fun hb => ?_) (fun hb => ?_) | refine AskB.mk (fun hb => ?_) (fun hb => ?_)) <;> conv => whnf) | ((with_reducible first | refine Run.drawX rfl (by decide +kernel) ?_ | refine Run.drawT rfl (by decide +kernel) ?_ | refine Run.drawW rfl (by decide +kernel) ?_); conv => whnf) | fail)
      · omega
      refine Run.callBX (wordy_fn (knd L i)) rfl rfl ⟨Le.int (hat i hi), trivial⟩ rfl rfl rfl ?_
      (conv => whnf); repeat' (first | ((with_reducible refine Know.mk fun _ => ?_); conv => whnf) | ((with_reducible refine Need.mk ?_ ?_); exact nd; conv => whnf) | ((with_reducible first | refine Both.mk ?_ ?_ | refine Any.mk fun b hb => ?_ | refine AskB.dec (fun hb => ?_) (fun hb => ?_) | refine AskB.ndec (fun hb => ?_) (fun hb => ?_) | refine AskB.mk (fun hb => ?_) (fun hb => ?_)) <;> conv => whnf) | ((with_reducible first | refine Run.drawX rfl (by decide +kernel) ?_ | refine Run.drawT rfl (by decide +kernel) ?_ | refine Run.drawW rfl (by decide +kernel) ?_); conv => whnf) | fail)
      · have hwy : wy L i := hb
        refine Run.loop [0, 1, 5, 6, 9, 11, 12] (fun (j : Nat) => [(10, .int .i64 (j : Int))]) (fun j => [(20, tI.R 3 (kindsE L)), (1000, tTok.R 126 l)])
          (fun j => i ≤ j ∧ j ≤ L.length ∧ wordE L j = wordE L i) (fun j => L.length - j) i ⟨Nat.le_refl _, hi, rfl⟩ ⟨Le.refl _, trivial⟩ ⟨MOle.refl _, MOle.refl _, trivial⟩ ?_
        intro j ⟨hj1, hj2, hj3⟩ IHj
        refine Run.go ?_; (conv => whnf); repeat' (first | ((with_reducible refine Know.mk fun _ => ?_); conv => whnf) | ((with_reducible refine Need.mk ?_ ?_); exact nd; conv => whnf) | ((with_reducible first | refine Both.mk ?_ ?_ | refine Any.mk fun b hb => ?_ | refine AskB.dec (fun hb => ?_) (fun hb => ?_) | refine AskB.ndec (fun hb => ?_) (fun hb => ?_) | refine AskB.mk (fun hb => ?_) (fun hb => ?_)) <;> conv => whnf) | ((with_reducible first | refine Run.drawX rfl (by decide +kernel) ?_ | refine Run.drawT rfl (by decide +kernel) ?_ | refine Run.drawW rfl (by decide +kernel) ?_); conv => whnf) | fail)
        -- for wordy
        refine Run.loop [0, 1, 5, 6, 9, 11, 12] (fun (j : Nat) => [(10, .int .i64 (j : Int))]) (fun j => [(20, tI.R 3 (kindsE L)), (1000, tTok.R 126 l)])
          (fun j' => j ≤ j' ∧ j' ≤ L.length ∧ wordE L j' = wordE L i) (fun j => L.length - j) j ⟨Nat.le_refl _, hj2, hj3⟩ ⟨Le.refl _, trivial⟩ ⟨MOle.refl _, MOle.refl _, trivial⟩ ?_
        intro j' ⟨hk1, hk2, hk3⟩ IHk
        have hw4 := hw2 j' hk2
        have hj4 : (kindsE L).getD (↑j' : Int).toNat tI.z = 4 → j' < L.length := fun h => knd_lt (by rw [← hat j' hk2, h]; decide)
        have hat1 : j' < L.length → (kindsE L).getD (IntKind.i64.wrap (↑j' + 1)).toNat tI.z = knd L (j' + 1) := fun h => by rw [hw4]; exact hat (j' + 1) (by omega)
        refine Run.go ?_; (conv => whnf); repeat' (first | ((with_reducible refine Know.mk fun _ => ?_); conv => whnf) | ((with_reducible refine Need.mk ?_ ?_); exact nd; conv => whnf) | ((with_reducible first | refine Both.mk ?_ ?_ | refine Any.mk fun b hb => ?_ | refine AskB.dec (fun hb => ?_) (fun hb => ?_) | refine AskB.ndec (fun hb => ?_) (fun hb => ?_) | refine AskB.mk (fun hb => ?_) (fun hb => ?_)) <;> conv => whnf) | ((with_reducible first | refine Run.drawX rfl (by decide +kernel) ?_ | refine Run.drawT rfl (by decide +kernel) ?_ | refine Run.drawW rfl (by decide +kernel) ?_); conv => whnf) | fail)
        refine Run.callBX (wordy_fn (knd L j')) rfl rfl ⟨Le.int (hat j' hk2), trivial⟩ rfl rfl rfl ?_
        (conv => whnf); repeat' (first | ((with_reducible refine Know.mk fun _ => ?_); conv => whnf) | ((with_reducible refine Need.mk ?_ ?_); exact nd; conv => whnf) | ((with_reducible first | refine Both.mk ?_ ?_ | refine Any.mk fun b hb => ?_ | refine AskB.dec (fun hb => ?_) (fun hb => ?_) | refine AskB.ndec (fun hb => ?_) (fun hb => ?_) | refine AskB.mk (fun hb => ?_) (fun hb => ?_)) <;> conv => whnf) | ((with_reducible first | refine Run.drawX rfl (by decide +kernel) ?_ | refine Run.drawT rfl (by decide +kernel) ?_ | refine Run.drawW rfl (by decide +kernel) ?_); conv => whnf) | fail)
        · have hwj : wy L j' := hb
          have hlt := wy_lt hwj
          refine Run.to _ _ ?_ ?_ (IHk (j' + 1) (by omega) ⟨by omega, by omega, ?_⟩)
          · exact ⟨Le.refl _, Le.refl _, Le.refl _, Le.refl _, Le.refl _, Le.refl _, Le.refl _, Le.int hw4, trivial⟩
          · exact ⟨MOle.refl _, MOle.refl _, trivial⟩
          · rw [← hk3]; rw [wordE.eq_def L j', dif_pos hlt, if_pos hwj]
        · -- a joiner
          have hlt := hj4 (by assumption)
          have hk4 : knd L j' = 4 := by rw [← hat j' hk2]; assumption
          have hnw : ¬ wy L j' := by
            have : wordy (knd L j') = false := by assumption
            exact fun h => absurd (this.symm.trans h) (by decide)
          refine Run.callBX (wordy_fn (knd L (j' + 1))) rfl rfl ⟨Le.int (hat1 hlt), trivial⟩ rfl rfl rfl ?_
          (conv => whnf); repeat' (first | ((with_reducible refine Know.mk fun _ => ?_); conv => whnf) | ((with_reducible refine Need.mk ?_ ?_); exact nd; conv => whnf) | ((with_reducible first | refine Both.mk ?_ ?_ | refine Any.mk fun b hb => ?_ | refine AskB.dec (fun hb => ?_) (fun hb => ?_) | refine AskB.ndec (fun hb => ?_) (fun hb => ?_) | refine AskB.mk (fun hb => ?_) (fun hb => ?_)) <;> conv => whnf) | ((with_reducible first | refine Run.drawX rfl (by decide +kernel) ?_ | refine Run.drawT rfl (by decide +kernel) ?_ | refine Run.drawW rfl (by decide +kernel) ?_); conv => whnf) | fail)
          · have hw5 : wy L (j' + 1) := hb
            refine Run.to _ _ ?_ ?_ (IHj (j' + 1) (by omega) ⟨by omega, by omega, ?_⟩)
            · exact ⟨Le.refl _, Le.refl _, Le.refl _, Le.refl _, Le.refl _, Le.refl _, Le.refl _, Le.int hw4, trivial⟩
            · exact ⟨MOle.refl _, MOle.refl _, trivial⟩
            · rw [← hk3, wordE.eq_def L j', dif_pos hlt, if_neg hnw, if_pos ⟨hk4, hw5⟩, wordE.eq_def L (j' + 1), dif_pos (wy_lt hw5), if_pos hw5]
          · refine Run.skipSeq (Run.to _ _ ?_ ?_ (put (j') 1 ?_))
            · exact ⟨Le.refl _, Le.refl _, Le.refl _, Le.refl _, Le.refl _, Le.refl _, Le.refl _, Le.refl _, trivial⟩
            · exact ⟨MOle.refl _, MOle.refl _, trivial⟩
            · have hw5 : ¬ wy L (j' + 1) := fun h => absurd (hb.symm.trans h) (by decide)
              unfold tokE
              rw [if_pos hwy, ← hk3, wordE.eq_def L j', dif_pos hlt, if_neg hnw, if_neg (fun h => hw5 h.2)]
        · refine Run.skipSeq (Run.to _ _ ?_ ?_ (put (j') 1 ?_))
          · exact ⟨Le.refl _, Le.refl _, Le.refl _, Le.refl _, Le.refl _, Le.refl _, Le.refl _, Le.refl _, trivial⟩
          · exact ⟨MOle.refl _, MOle.refl _, trivial⟩
          · have hnw : ¬ wy L j' := by
              have : wordy (knd L j') = false := by assumption
              exact fun h => absurd (this.symm.trans h) (by decide)
            have hk4 : ¬ knd L j' = 4 := by rw [← hat j' hk2]; assumption
            unfold tokE
            rw [if_pos hwy, ← hk3, wordE.eq_def L j']
            by_cases hlt : j' < L.length
            · rw [dif_pos hlt, if_neg hnw, if_neg (fun h => hk4 h.1)]
            · rw [dif_neg hlt]
      -- blank
      · have hkb : knd L i = 5 := by rw [← hat i hi]; exact hb
        have hnw : ¬ wy L i := nwy (by assumption)
        refine Run.go ?_; (conv => whnf); repeat' (first | ((with_reducible refine Know.mk fun _ => ?_); conv => whnf) | ((with_reducible refine Need.mk ?_ ?_); exact nd; conv => whnf) | ((with_reducible first | refine Both.mk ?_ ?_ | refine Any.mk fun b hb => ?_ | refine AskB.dec (fun hb => ?_) (fun hb => ?_) | refine AskB.ndec (fun hb => ?_) (fun hb => ?_) | refine AskB.mk (fun hb => ?_) (fun hb => ?_)) <;> conv => whnf) | ((with_reducible first | refine Run.drawX rfl (by decide +kernel) ?_ | refine Run.drawT rfl (by decide +kernel) ?_ | refine Run.drawW rfl (by decide +kernel) ?_); conv => whnf) | fail)
        refine Run.loop [0, 1, 5, 6, 9, 11, 12] (fun (j : Nat) => [(10, .int .i64 (j : Int))]) (fun j => [(20, tI.R 3 (kindsE L)), (1000, tTok.R 126 l)])
          (fun j => i ≤ j ∧ j ≤ L.length ∧ blankE L j = blankE L i) (fun j => L.length - j) i ⟨Nat.le_refl _, hi, rfl⟩ ⟨Le.refl _, trivial⟩ ⟨MOle.refl _, MOle.refl _, trivial⟩ ?_
        intro j ⟨hj1, hj2, hj3⟩ IHj
        have hw4 := hw2 j hj2
        have hj5 : (kindsE L).getD (↑j : Int).toNat tI.z = 5 → j < L.length := fun h => knd_lt (by rw [← hat j hj2, h]; decide)
        refine Run.go ?_; (conv => whnf); repeat' (first | ((with_reducible refine Know.mk fun _ => ?_); conv => whnf) | ((with_reducible refine Need.mk ?_ ?_); exact nd; conv => whnf) | ((with_reducible first | refine Both.mk ?_ ?_ | refine Any.mk fun b hb => ?_ | refine AskB.dec (fun hb => ?_) (fun hb => ?_) | refine AskB.ndec (fun hb => ?_) (fun hb => ?_) | refine AskB.mk (fun hb => ?_) (fun hb => ?_)) <;> conv => whnf) | ((with_reducible first | refine Run.drawX rfl (by decide +kernel) ?_ | refine Run.drawT rfl (by decide +kernel) ?_ | refine Run.drawW rfl (by decide +kernel) ?_); conv => whnf) | fail)
        · have hlt := hj5 hb
          refine Run.to _ _ ?_ ?_ (IHj (j + 1) (by omega) ⟨by omega, by omega, ?_⟩)
          · exact ⟨Le.refl _, Le.refl _, Le.refl _, Le.refl _, Le.refl _, Le.refl _, Le.refl _, Le.int hw4, trivial⟩
          · exact ⟨MOle.refl _, MOle.refl _, trivial⟩
          · rw [← hj3, blankE.eq_def L j, dif_pos hlt, if_pos (by rw [← hat j hj2]; exact hb)]
        · refine Run.to _ _ ?_ ?_ (put j 2 ?_)
          · exact ⟨Le.refl _, Le.refl _, Le.refl _, Le.refl _, Le.refl _, Le.refl _, Le.refl _, Le.refl _, trivial⟩
          · exact ⟨MOle.refl _, MOle.refl _, trivial⟩
          · have hk5 : ¬ knd L j = 5 := by rw [← hat j hj2]; exact hb
            unfold tokE
            rw [if_neg hnw, if_pos hkb, ← hj3, blankE.eq_def L j]
            by_cases hlt : j < L.length
            · rw [dif_pos hlt, if_neg hk5]
            · rw [dif_neg hlt]
      all_goals have hnw : ¬ wy L i := nwy (by assumption)
      all_goals have hk5 : ¬ knd L i = 5 := by rw [← hat i hi]; assumption
      all_goals (try rw [hw3] at *)
      · have hk6 : knd L i = 6 := by rw [← hat i hi]; assumption
        have hlt : i + 1 < L.length := by omega
        refine Run.skipSeq (Run.to _ _ ?_ ?_ (put (i + 2) 3 ?_))
        · exact ⟨Le.refl _, Le.refl _, Le.refl _, Le.refl _, Le.refl _, Le.int (hw2 (i + 1) (by omega)), Le.refl _, Le.refl _, trivial⟩
        · exact ⟨MOle.refl _, MOle.refl _, trivial⟩
        · unfold tokE
          rw [if_neg hnw, if_neg hk5, if_pos hk6, if_pos ⟨by assumption, hlt, hb⟩]
      · refine Run.skipSeq (Run.to _ _ ?_ ?_ (put (i + 1) 3 ?_))
        · exact ⟨Le.refl _, Le.refl _, Le.refl _, Le.refl _, Le.refl _, Le.refl _, Le.refl _, Le.refl _, trivial⟩
        · exact ⟨MOle.refl _, MOle.refl _, trivial⟩
        · unfold tokE
          have hk6 : knd L i = 6 := by rw [← hat i hi]; assumption
          rw [if_neg hnw, if_neg hk5, if_pos hk6, if_neg (fun h => absurd h.2.2 hb)]
      · refine Run.skipSeq (Run.to _ _ ?_ ?_ (put (i + 1) 3 ?_))
        · exact ⟨Le.refl _, Le.refl _, Le.refl _, Le.refl _, Le.refl _, Le.refl _, Le.refl _, Le.refl _, trivial⟩
        · exact ⟨MOle.refl _, MOle.refl _, trivial⟩
        · unfold tokE
          have hk6 : knd L i = 6 := by rw [← hat i hi]; assumption
          rw [if_neg hnw, if_neg hk5, if_pos hk6, if_neg (fun h => absurd h.2.1 (by omega))]
      · refine Run.skipSeq (Run.to _ _ ?_ ?_ (put (i + 1) 3 ?_))
        · exact ⟨Le.refl _, Le.refl _, Le.refl _, Le.refl _, Le.refl _, Le.refl _, Le.refl _, Le.refl _, trivial⟩
        · exact ⟨MOle.refl _, MOle.refl _, trivial⟩
        · unfold tokE
          have hk6 : knd L i = 6 := by rw [← hat i hi]; assumption
          rw [if_neg hnw, if_neg hk5, if_pos hk6, if_neg (fun h => absurd h.1 hb)]
      · refine Run.skipSeq (Run.to _ _ ?_ ?_ (put (i + 1) 4 ?_))
        · exact ⟨Le.refl _, Le.refl _, Le.refl _, Le.refl _, Le.refl _, Le.refl _, Le.refl _, Le.refl _, trivial⟩
        · exact ⟨MOle.refl _, MOle.refl _, trivial⟩
        · unfold tokE
          have hk6 : ¬ knd L i = 6 := by rw [← hat i hi]; assumption
          have hk7 : knd L i = 7 := by rw [← hat i hi]; assumption
          rw [if_neg hnw, if_neg hk5, if_neg hk6, if_pos (.inl hk7)]
      · refine Run.skipSeq (Run.to _ _ ?_ ?_ (put (i + 1) 4 ?_))
        · exact ⟨Le.refl _, Le.refl _, Le.refl _, Le.refl _, Le.refl _, Le.refl _, Le.refl _, Le.refl _, trivial⟩
        · exact ⟨MOle.refl _, MOle.refl _, trivial⟩
        · unfold tokE
          have hk6 : ¬ knd L i = 6 := by rw [← hat i hi]; assumption
          have hk4 : knd L i = 4 := by rw [← hat i hi]; assumption
          rw [if_neg hnw, if_neg hk5, if_neg hk6, if_pos (.inr hk4)]
      · refine Run.skipSeq (Run.to _ _ ?_ ?_ (put (i + 1) 5 ?_))
        · exact ⟨Le.refl _, Le.refl _, Le.refl _, Le.refl _, Le.refl _, Le.refl _, Le.refl _, Le.refl _, trivial⟩
        · exact ⟨MOle.refl _, MOle.refl _, trivial⟩
        · unfold tokE
          have hk6 : ¬ knd L i = 6 := by rw [← hat i hi]; assumption
          have hk7 : ¬ knd L i = 7 := by rw [← hat i hi]; assumption
          have hk4 : ¬ knd L i = 4 := by rw [← hat i hi]; assumption
          rw [if_neg hnw, if_neg hk5, if_neg hk6, if_neg (fun h => h.elim hk7 hk4)]
    case g =>
      intro n k hk
      have hge := tokE_gt L i hil
      rw [hk] at hge
      simp only at hge
      have p1 := posAt_mono s i n (by omega)
      have p2 := posAt_le s n
      have p3 := toks_in (s := s) (base := base) hil
      rw [hk] at p3
      rw [hL] at p1 p2
      unfold posAt at p1 p2 p3
      rw [if_pos hil] at p1 p3
      simp only at p3
      have pz : IntKind.i64.wrap (base + ((L.getD (↑i : Int).toNat tCel.z).pos : Int)) = base + ((L.getD i cel0).pos : Int) := wrap64 (by show -9223372036854775808 ≤ base + ((L.getD i cel0).pos : Int); omega) (by show base + ((L.getD i cel0).pos : Int) ≤ _; omega)
      have back : ∀ (t : Tok) (q : Nat), t = ⟨k, base + ((L.getD i cel0).pos : Int), s.extract (L.getD i cel0).pos q⟩ → q = (if n < L.length then (L.getD n cel0).pos else s.size) → (l ++ [t]).length ≤ n ∧ (l ++ [t]) ++ toks s base L n = toks s base L 0 := fun t q h1 h2 => by
        refine ⟨by simp; omega, ?_⟩
        rw [← hc, p3, h1, h2]; simp
      by_cases hn : n < L.length
      · rw [if_pos hn] at p1 p2
        have q1 : (L.getD (↑i : Int).toNat tCel.z).pos ≤ (L.getD (↑n : Int).toNat tCel.z).pos := p1
        have q2 : (L.getD (↑n : Int).toNat tCel.z).pos ≤ s.size := p2
        refine Run.go ?_; (conv => whnf); repeat' (first | ((with_reducible refine Know.mk fun _ => ?_); conv => whnf) | ((with_reducible refine Need.mk ?_ ?_); exact nd; conv => whnf) | ((with_reducible first | refine Both.mk ?_ ?_ | refine Any.mk fun b hb => ?_ | refine AskB.dec (fun hb => ?_) (fun hb => ?_) | refine AskB.ndec (fun hb => ?_) (fun hb => ?_) | refine AskB.mk (fun hb => ?_) (fun hb => ?_)) <;> conv => whnf) | ((with_reducible first | refine Run.drawX rfl (by decide +kernel) ?_ | refine Run.drawT rfl (by decide +kernel) ?_ | refine Run.drawW rfl (by decide +kernel) ?_); conv => whnf) | fail)
        · refine Run.hold (z := 155) 9 1000 (by rfl) (by rfl) (by rfl) ?_
          obtain ⟨b1, b2⟩ := back _ (L.getD n cel0).pos rfl (by rw [if_pos hn])
          refine Run.skipSeq (Run.to _ _ ?_ ?_ (IH (n, l ++ [⟨k, base + ((L.getD i cel0).pos : Int), s.extract (L.getD i cel0).pos (L.getD n cel0).pos⟩]) (by simp only []; omega) ⟨hge.2, b1, b2⟩))
          · exact ⟨Le.refl _, Le.refl _, Le.refl _, Le.refl _, Le.refl _, Le.refl _, trivial⟩
          · refine ⟨MOle.refl _, tTok.push 126 l ⟨k, base + ((L.getD i cel0).pos : Int), s.extract (L.getD i cel0).pos (L.getD n cel0).pos⟩ _ (fun j hj => ?_), trivial⟩
            match j, hj with
            | 0, _ => exact Le.refl _
            | 1, _ => exact Le.int pz
            | 2, _ => exact Le.refl _
        · exact absurd hn (by omega)
      · rw [if_neg hn] at p1 p2
        have q1 : (L.getD (↑i : Int).toNat tCel.z).pos ≤ s.size := p1
        refine Run.go ?_; (conv => whnf); repeat' (first | ((with_reducible refine Know.mk fun _ => ?_); conv => whnf) | ((with_reducible refine Need.mk ?_ ?_); exact nd; conv => whnf) | ((with_reducible first | refine Both.mk ?_ ?_ | refine Any.mk fun b hb => ?_ | refine AskB.dec (fun hb => ?_) (fun hb => ?_) | refine AskB.ndec (fun hb => ?_) (fun hb => ?_) | refine AskB.mk (fun hb => ?_) (fun hb => ?_)) <;> conv => whnf) | ((with_reducible first | refine Run.drawX rfl (by decide +kernel) ?_ | refine Run.drawT rfl (by decide +kernel) ?_ | refine Run.drawW rfl (by decide +kernel) ?_); conv => whnf) | fail)
        · exact absurd hn (by omega)
        · refine Run.hold (z := 155) 9 1000 (by rfl) (by rfl) (by rfl) ?_
          obtain ⟨b1, b2⟩ := back _ s.size rfl (by rw [if_neg hn])
          refine Run.skipSeq (Run.to _ _ ?_ ?_ (IH (n, l ++ [⟨k, base + ((L.getD i cel0).pos : Int), s.extract (L.getD i cel0).pos s.size⟩]) (by simp only []; omega) ⟨hge.2, b1, b2⟩))
          · exact ⟨Le.refl _, Le.refl _, Le.refl _, Le.refl _, Le.refl _, Le.refl _, trivial⟩
          · refine ⟨MOle.refl _, tTok.push 126 l ⟨k, base + ((L.getD i cel0).pos : Int), s.extract (L.getD i cel0).pos s.size⟩ _ (fun j hj => ?_), trivial⟩
            match j, hj with
            | 0, _ => exact Le.refl _
            | 1, _ => exact Le.int pz
            | 2, _ => exact Le.refl _
  · have hie : i = L.length := by omega
    subst hie
    refine Run.go ?_; (conv => whnf); repeat' (first | ((with_reducible refine Know.mk fun _ => ?_); conv => whnf) | ((with_reducible refine Need.mk ?_ ?_); exact nd; conv => whnf) | ((with_reducible first | refine Both.mk ?_ ?_ | refine Any.mk fun b hb => ?_ | refine AskB.dec (fun hb => ?_) (fun hb => ?_) | refine AskB.ndec (fun hb => ?_) (fun hb => ?_) | refine AskB.mk (fun hb => ?_) (fun hb => ?_)) <;> conv => whnf) | ((with_reducible first | refine Run.drawX rfl (by decide +kernel) ?_ | refine Run.drawT rfl (by decide +kernel) ?_ | refine Run.drawW rfl (by decide +kernel) ?_); conv => whnf) | fail)
    · rw [toks_out (Nat.lt_irrefl _), List.append_nil] at hc
      rw [← hc]
      exact Run.leave (ts := [4]) (.inr ⟨_, rfl⟩) rfl Tryz.func101 rfl (Le.refl _)
    · exact absurd rfl hb
end Go.Proofs.YteklnpgiloebcaaGreatDoor.V

namespace Go.Proofs.YteklnpgiloebcaaGreatDoor.V
set_option linter.unusedVariables false
set_option linter.unusedSimpArgs false
open Go Go.Proofs Go.RowKit
set_option maxRecDepth 100000
set_option maxHeartbeats 2000000
open Go Go.Proofs Go.Proofs.YteklnpgiloebcaaGreatDoor.V
def tR : Ty Int := ⟨1, fun x _ => .int .i32 x, 0⟩
def holdsE (L : List Int) (r : Int) (i : Nat) : Bool := if h : i + 1 < L.length then (if L.getD i 0 ≤ r ∧ r ≤ L.getD (i + 1) 0 then true else holdsE L r (i + 2)) else false
termination_by L.length - i
theorem holds_fn (L : List Int) (r : Int) (hL : L.length ≤ 1000) : Fn Tryz.prog 155 [tR.L L, .int .i32 r] (.bool (holdsE L r 0)) := by
  refine Fn.of Tryz.f155 _ Tryz.func155 rfl (by decide) (by show 2 ≤ _; decide) tbOk 28 rfl fun S w0 gl => ?_
  refine Run.go ?_; (conv => whnf); repeat' (first | ((with_reducible refine Know.mk fun _ => ?_); conv => whnf) | ((with_reducible refine Need.mk ?_ ?_); exact nd; conv => whnf) | ((with_reducible first | refine Both.mk ?_ ?_ | refine Any.mk fun b hb => ?_ | refine AskB.dec (fun hb => ?_) (fun hb => ?_) | refine AskB.ndec (fun hb => ?_) (fun hb => ?_) | refine AskB.mk (fun hb => ?_) (fun hb => ?_)) <;> conv => whnf) | ((with_reducible first | refine Run.drawX rfl (by decide +kernel) ?_ | refine Run.drawT rfl (by decide +kernel) ?_ | refine Run.drawW rfl (by decide +kernel) ?_); conv => whnf) | fail)
  refine Run.loop [0, 1] (fun (i : Nat) => [(5, .int .i64 (i : Int))]) (fun i => []) (fun i => i ≤ L.length + 1 ∧ holdsE L r i = holdsE L r 0) (fun i => L.length + 1 - i) 0 ⟨Nat.zero_le _, rfl⟩ ⟨Le.refl _, trivial⟩ trivial ?_
  intro i ⟨hi, hc⟩ IH
  have hw1 : IntKind.i64.wrap ((i : Int) + 1) = ((i + 1 : Nat) : Int) := wrap64 (by omega) (by omega)
  have hw2 : IntKind.i64.wrap ((i : Int) + 2) = ((i + 2 : Nat) : Int) := wrap64 (by omega) (by omega)
  have stp : i + 1 < L.length → ¬ (L.getD i 0 ≤ r ∧ r ≤ L.getD (i + 1) 0) → i + 2 ≤ L.length + 1 ∧ holdsE L r (i + 2) = holdsE L r 0 := fun h1 h2 => ⟨by omega, by rw [← hc, holdsE.eq_def L r i, dif_pos h1, if_neg h2]⟩
  have hg : L.getD (IntKind.i64.wrap (↑i + 1)).toNat tR.z = L.getD (i + 1) 0 := by rw [hw1]; rfl
  refine Run.go ?_; (conv => whnf); repeat' (first | ((with_reducible refine Know.mk fun _ => ?_); conv => whnf) | ((with_reducible refine Need.mk ?_ ?_); exact nd; conv => whnf) | ((with_reducible first | refine Both.mk ?_ ?_ | refine Any.mk fun b hb => ?_ | refine AskB.dec (fun hb => ?_) (fun hb => ?_) | refine AskB.ndec (fun hb => ?_) (fun hb => ?_) | refine AskB.mk (fun hb => ?_) (fun hb => ?_)) <;> conv => whnf) | ((with_reducible first | refine Run.drawX rfl (by decide +kernel) ?_ | refine Run.drawT rfl (by decide +kernel) ?_ | refine Run.drawW rfl (by decide +kernel) ?_); conv => whnf) | fail)
  · rw [hg] at *
    refine Run.leave (ts := [4]) (.inr ⟨_, rfl⟩) rfl Tryz.func155 rfl (Le.tt.trans (Le.bool ?_))
    rw [← hc, holdsE, dif_pos (by omega), if_pos ⟨by assumption, by assumption⟩]
  · rw [hg] at *
    obtain ⟨h1, h2⟩ := stp (by omega) (fun h => absurd h.2 (by assumption))
    refine Run.to _ _ ?_ ?_ (IH (i + 2) (by omega) ⟨h1, h2⟩)
    · exact ⟨Le.refl _, Le.refl _, Le.int hw2, trivial⟩
    · exact trivial
  · obtain ⟨h1, h2⟩ := stp (by omega) (fun h => absurd h.1 (by assumption))
    refine Run.to _ _ ?_ ?_ (IH (i + 2) (by omega) ⟨h1, h2⟩)
    · exact ⟨Le.refl _, Le.refl _, Le.int hw2, trivial⟩
    · exact trivial
  · refine Run.leave (ts := [4]) (.inr ⟨_, rfl⟩) rfl Tryz.func155 rfl (Le.ff.trans (Le.bool ?_))
    rw [← hc, holdsE, dif_neg (by omega)]
theorem Le.litL {α : Type} (T : Ty α) (L : List α) (cs : List (List AV)) (h : cs = L.map (fun x => (List.range T.sz).map (T.enc x))) : Le (.sl L.length T.sz (fun i j => (cs.getD i []).getD j .u)) (T.L L) := by
  refine Le.sl fun i j hi hj => ?_
  rw [h]
  simp only [Ty.G, List.getD, List.getElem?_map, List.getElem?_eq_getElem hi, Option.map_some, Option.getD_some, List.getElem?_range hj]
  exact Le.refl _
def holdsL (r : Int) : List Int → Bool
  | a :: b :: t => decide (a ≤ r ∧ r ≤ b) || holdsL r t
  | _ => false
theorem holdsE_L (L : List Int) (r : Int) (i : Nat) : holdsE L r i = holdsL r (L.drop i) := by
  by_cases h : i + 1 < L.length
  · rw [holdsE, dif_pos h, holdsE_L L r (i + 2), List.drop_eq_getElem_cons (by omega : i < L.length), List.drop_eq_getElem_cons h]
    simp only [holdsL, List.getD, List.getElem?_eq_getElem (by omega : i < L.length), List.getElem?_eq_getElem h, Option.getD_some]
    by_cases h2 : L[i] ≤ r ∧ r ≤ L[i + 1]
    · rw [if_pos h2, decide_eq_true h2]; rfl
    · rw [if_neg h2, decide_eq_false h2]; rfl
  · rw [holdsE, dif_neg h]
    rcases (by omega : L.length ≤ i ∨ L.length = i + 1) with h2 | h2
    · rw [List.drop_eq_nil_of_le h2]; rfl
    · rw [List.drop_eq_getElem_cons (by omega : i < L.length), List.drop_eq_nil_of_le (by omega)]; rfl
termination_by L.length - i
theorem holds_isJoiner (r : Int) : holdsE [39, 39, 45, 45, 173, 173, 8204, 8205, 8217, 8217] r 0 = decide (isJoiner r) := by
  rw [holdsE_L, List.drop_zero, Bool.eq_iff_iff]
  simp only [holdsL, Bool.or_eq_true, decide_eq_true_eq, Bool.false_eq_true, or_false]
  all_goals (unfold isJoiner; omega)
theorem holds_isDigit (r : Int) : holdsE [48, 57, 1632, 1641] r 0 = decide (isDigit r) := by
  rw [holdsE_L, List.drop_zero, Bool.eq_iff_iff]
  simp only [holdsL, Bool.or_eq_true, decide_eq_true_eq, Bool.false_eq_true, or_false]
  all_goals (unfold isDigit; omega)
theorem holds_isLetter (r : Int) : holdsE [65, 90, 97, 122, 170, 170, 181, 181, 186, 186, 192, 214, 216, 246, 248, 687, 880, 893, 895, 902, 904, 1153, 1162, 1327, 7680, 8191, 64256, 64262, 9676, 9676] r 0 = decide (isLetter r) := by
  rw [holdsE_L, List.drop_zero, Bool.eq_iff_iff]
  simp only [holdsL, Bool.or_eq_true, decide_eq_true_eq, Bool.false_eq_true, or_false]
  all_goals (unfold isLetter; omega)
theorem holds_isAccent (r : Int) : holdsE [768, 879, 1155, 1161, 7616, 7679, 8400, 8447] r 0 = decide (isAccent r) := by
  rw [holdsE_L, List.drop_zero, Bool.eq_iff_iff]
  simp only [holdsL, Bool.or_eq_true, decide_eq_true_eq, Bool.false_eq_true, or_false]
  all_goals (unfold isAccent; omega)
theorem holds_isLine (r : Int) : holdsE [10, 10, 13, 13, 133, 133, 8232, 8233] r 0 = decide (isLine r) := by
  rw [holdsE_L, List.drop_zero, Bool.eq_iff_iff]
  simp only [holdsL, Bool.or_eq_true, decide_eq_true_eq, Bool.false_eq_true, or_false]
  all_goals (unfold isLine; omega)
theorem holds_isBlank (r : Int) : holdsE [9, 9, 11, 12, 32, 32, 160, 160, 8194, 8202, 8239, 8239, 12288, 12288] r 0 = decide (isBlank r) := by
  rw [holdsE_L, List.drop_zero, Bool.eq_iff_iff]
  simp only [holdsL, Bool.or_eq_true, decide_eq_true_eq, Bool.false_eq_true, or_false]
  all_goals (unfold isBlank; omega)
theorem holds_isPoint (r : Int) : holdsE [33, 126, 161, 191, 903, 903, 8208, 8231, 8240, 8286] r 0 = decide (isPoint r) := by
  rw [holdsE_L, List.drop_zero, Bool.eq_iff_iff]
  simp only [holdsL, Bool.or_eq_true, decide_eq_true_eq, Bool.false_eq_true, or_false]
  all_goals (unfold isPoint; omega)
theorem of60_fn (r : Int) : Fn Tryz.prog 143 [.int .i32 r] (.int .i64 (kOf r)) := by
  refine Fn.of Tryz.f143 _ Tryz.func143 rfl (by decide) (by show 1 ≤ _; decide) tbOk 24 rfl fun S w0 gl => ?_
  refine Run.go ?_; (conv => whnf); repeat' (first | ((with_reducible refine Know.mk fun _ => ?_); conv => whnf) | ((with_reducible refine Need.mk ?_ ?_); exact nd; conv => whnf) | ((with_reducible first | refine Both.mk ?_ ?_ | refine Any.mk fun b hb => ?_ | refine AskB.dec (fun hb => ?_) (fun hb => ?_) | refine AskB.ndec (fun hb => ?_) (fun hb => ?_) | refine AskB.mk (fun hb => ?_) (fun hb => ?_)) <;> conv => whnf) | ((with_reducible first | refine Run.drawX rfl (by decide +kernel) ?_ | refine Run.drawT rfl (by decide +kernel) ?_ | refine Run.drawW rfl (by decide +kernel) ?_); conv => whnf) | fail)
  refine Run.callAX (holds_fn [39, 39, 45, 45, 173, 173, 8204, 8205, 8217, 8217] r (by decide)) rfl rfl ⟨Le.litL tR [39, 39, 45, 45, 173, 173, 8204, 8205, 8217, 8217] _ rfl, Le.refl _, trivial⟩ rfl rfl rfl ?_
  rw [holds_isJoiner]
  (conv => whnf); repeat' (first | ((with_reducible refine Know.mk fun _ => ?_); conv => whnf) | ((with_reducible refine Need.mk ?_ ?_); exact nd; conv => whnf) | ((with_reducible first | refine Both.mk ?_ ?_ | refine Any.mk fun b hb => ?_ | refine AskB.dec (fun hb => ?_) (fun hb => ?_) | refine AskB.ndec (fun hb => ?_) (fun hb => ?_) | refine AskB.mk (fun hb => ?_) (fun hb => ?_)) <;> conv => whnf) | ((with_reducible first | refine Run.drawX rfl (by decide +kernel) ?_ | refine Run.drawT rfl (by decide +kernel) ?_ | refine Run.drawW rfl (by decide +kernel) ?_); conv => whnf) | fail)
  · exact Run.leave (ts := [2]) (.inr ⟨_, rfl⟩) rfl Tryz.func143 rfl (Le.int (kOf_joiner hb).symm)
  refine Run.callAX (holds_fn [48, 57, 1632, 1641] r (by decide)) rfl rfl ⟨Le.litL tR [48, 57, 1632, 1641] _ rfl, Le.refl _, trivial⟩ rfl rfl rfl ?_
  rw [holds_isDigit]
  (conv => whnf); repeat' (first | ((with_reducible refine Know.mk fun _ => ?_); conv => whnf) | ((with_reducible refine Need.mk ?_ ?_); exact nd; conv => whnf) | ((with_reducible first | refine Both.mk ?_ ?_ | refine Any.mk fun b hb => ?_ | refine AskB.dec (fun hb => ?_) (fun hb => ?_) | refine AskB.ndec (fun hb => ?_) (fun hb => ?_) | refine AskB.mk (fun hb => ?_) (fun hb => ?_)) <;> conv => whnf) | ((with_reducible first | refine Run.drawX rfl (by decide +kernel) ?_ | refine Run.drawT rfl (by decide +kernel) ?_ | refine Run.drawW rfl (by decide +kernel) ?_); conv => whnf) | fail)
  · exact Run.leave (ts := [2]) (.inr ⟨_, rfl⟩) rfl Tryz.func143 rfl (Le.int (kOf_digit hb).symm)
  refine Run.callAX (holds_fn [65, 90, 97, 122, 170, 170, 181, 181, 186, 186, 192, 214, 216, 246, 248, 687, 880, 893, 895, 902, 904, 1153, 1162, 1327, 7680, 8191, 64256, 64262, 9676, 9676] r (by decide)) rfl rfl ⟨Le.litL tR [65, 90, 97, 122, 170, 170, 181, 181, 186, 186, 192, 214, 216, 246, 248, 687, 880, 893, 895, 902, 904, 1153, 1162, 1327, 7680, 8191, 64256, 64262, 9676, 9676] _ rfl, Le.refl _, trivial⟩ rfl rfl rfl ?_
  rw [holds_isLetter]
  (conv => whnf); repeat' (first | ((with_reducible refine Know.mk fun _ => ?_); conv => whnf) | ((with_reducible refine Need.mk ?_ ?_); exact nd; conv => whnf) | ((with_reducible first | refine Both.mk ?_ ?_ | refine Any.mk fun b hb => ?_ | refine AskB.dec (fun hb => ?_) (fun hb => ?_) | refine AskB.ndec (fun hb => ?_) (fun hb => ?_) | refine AskB.mk (fun hb => ?_) (fun hb => ?_)) <;> conv => whnf) | ((with_reducible first | refine Run.drawX rfl (by decide +kernel) ?_ | refine Run.drawT rfl (by decide +kernel) ?_ | refine Run.drawW rfl (by decide +kernel) ?_); conv => whnf) | fail)
  · exact Run.leave (ts := [2]) (.inr ⟨_, rfl⟩) rfl Tryz.func143 rfl (Le.int (kOf_letter hb).symm)
  refine Run.callAX (holds_fn [768, 879, 1155, 1161, 7616, 7679, 8400, 8447] r (by decide)) rfl rfl ⟨Le.litL tR [768, 879, 1155, 1161, 7616, 7679, 8400, 8447] _ rfl, Le.refl _, trivial⟩ rfl rfl rfl ?_
  rw [holds_isAccent]
  (conv => whnf); repeat' (first | ((with_reducible refine Know.mk fun _ => ?_); conv => whnf) | ((with_reducible refine Need.mk ?_ ?_); exact nd; conv => whnf) | ((with_reducible first | refine Both.mk ?_ ?_ | refine Any.mk fun b hb => ?_ | refine AskB.dec (fun hb => ?_) (fun hb => ?_) | refine AskB.ndec (fun hb => ?_) (fun hb => ?_) | refine AskB.mk (fun hb => ?_) (fun hb => ?_)) <;> conv => whnf) | ((with_reducible first | refine Run.drawX rfl (by decide +kernel) ?_ | refine Run.drawT rfl (by decide +kernel) ?_ | refine Run.drawW rfl (by decide +kernel) ?_); conv => whnf) | fail)
  · exact Run.leave (ts := [2]) (.inr ⟨_, rfl⟩) rfl Tryz.func143 rfl (Le.int (kOf_accent hb).symm)
  refine Run.callAX (holds_fn [10, 10, 13, 13, 133, 133, 8232, 8233] r (by decide)) rfl rfl ⟨Le.litL tR [10, 10, 13, 13, 133, 133, 8232, 8233] _ rfl, Le.refl _, trivial⟩ rfl rfl rfl ?_
  rw [holds_isLine]
  (conv => whnf); repeat' (first | ((with_reducible refine Know.mk fun _ => ?_); conv => whnf) | ((with_reducible refine Need.mk ?_ ?_); exact nd; conv => whnf) | ((with_reducible first | refine Both.mk ?_ ?_ | refine Any.mk fun b hb => ?_ | refine AskB.dec (fun hb => ?_) (fun hb => ?_) | refine AskB.ndec (fun hb => ?_) (fun hb => ?_) | refine AskB.mk (fun hb => ?_) (fun hb => ?_)) <;> conv => whnf) | ((with_reducible first | refine Run.drawX rfl (by decide +kernel) ?_ | refine Run.drawT rfl (by decide +kernel) ?_ | refine Run.drawW rfl (by decide +kernel) ?_); conv => whnf) | fail)
  · exact Run.leave (ts := [2]) (.inr ⟨_, rfl⟩) rfl Tryz.func143 rfl (Le.int (kOf_line hb).symm)
  refine Run.callAX (holds_fn [9, 9, 11, 12, 32, 32, 160, 160, 8194, 8202, 8239, 8239, 12288, 12288] r (by decide)) rfl rfl ⟨Le.litL tR [9, 9, 11, 12, 32, 32, 160, 160, 8194, 8202, 8239, 8239, 12288, 12288] _ rfl, Le.refl _, trivial⟩ rfl rfl rfl ?_
  rw [holds_isBlank]
  (conv => whnf); repeat' (first | ((with_reducible refine Know.mk fun _ => ?_); conv => whnf) | ((with_reducible refine Need.mk ?_ ?_); exact nd; conv => whnf) | ((with_reducible first | refine Both.mk ?_ ?_ | refine Any.mk fun b hb => ?_ | refine AskB.dec (fun hb => ?_) (fun hb => ?_) | refine AskB.ndec (fun hb => ?_) (fun hb => ?_) | refine AskB.mk (fun hb => ?_) (fun hb => ?_)) <;> conv => whnf) | ((with_reducible first | refine Run.drawX rfl (by decide +kernel) ?_ | refine Run.drawT rfl (by decide +kernel) ?_ | refine Run.drawW rfl (by decide +kernel) ?_); conv => whnf) | fail)
  · exact Run.leave (ts := [2]) (.inr ⟨_, rfl⟩) rfl Tryz.func143 rfl (Le.int (kOf_blank hb).symm)
  refine Run.callAX (holds_fn [33, 126, 161, 191, 903, 903, 8208, 8231, 8240, 8286] r (by decide)) rfl rfl ⟨Le.litL tR [33, 126, 161, 191, 903, 903, 8208, 8231, 8240, 8286] _ rfl, Le.refl _, trivial⟩ rfl rfl rfl ?_
  rw [holds_isPoint]
  (conv => whnf); repeat' (first | ((with_reducible refine Know.mk fun _ => ?_); conv => whnf) | ((with_reducible refine Need.mk ?_ ?_); exact nd; conv => whnf) | ((with_reducible first | refine Both.mk ?_ ?_ | refine Any.mk fun b hb => ?_ | refine AskB.dec (fun hb => ?_) (fun hb => ?_) | refine AskB.ndec (fun hb => ?_) (fun hb => ?_) | refine AskB.mk (fun hb => ?_) (fun hb => ?_)) <;> conv => whnf) | ((with_reducible first | refine Run.drawX rfl (by decide +kernel) ?_ | refine Run.drawT rfl (by decide +kernel) ?_ | refine Run.drawW rfl (by decide +kernel) ?_); conv => whnf) | fail)
  · exact Run.leave (ts := [2]) (.inr ⟨_, rfl⟩) rfl Tryz.func143 rfl (Le.int (kOf_point hb (by assumption) (by assumption) (by assumption)).symm)
  exact Run.leave (ts := [2]) (.inr ⟨_, rfl⟩) rfl Tryz.func143 rfl (Le.int (kOf_other (by assumption) (by assumption) (by assumption) (by assumption) (by assumption) (by assumption) (by assumption)).symm)
theorem cell65_fn (c : Cel) : Fn Tryz.prog 138 [.agg 5 (tCel.enc c)] (.int .i64 (kCel c)) := by
  refine Fn.of Tryz.f138 _ Tryz.func138 rfl (by decide) (by show 1 ≤ _; decide) tbOk 8 rfl fun S w0 gl => ?_
  refine Run.go ?_; (conv => whnf); repeat' (first | ((with_reducible refine Know.mk fun _ => ?_); conv => whnf) | ((with_reducible refine Need.mk ?_ ?_); exact nd; conv => whnf) | ((with_reducible first | refine Both.mk ?_ ?_ | refine Any.mk fun b hb => ?_ | refine AskB.dec (fun hb => ?_) (fun hb => ?_) | refine AskB.ndec (fun hb => ?_) (fun hb => ?_) | refine AskB.mk (fun hb => ?_) (fun hb => ?_)) <;> conv => whnf) | ((with_reducible first | refine Run.drawX rfl (by decide +kernel) ?_ | refine Run.drawT rfl (by decide +kernel) ?_ | refine Run.drawW rfl (by decide +kernel) ?_); conv => whnf) | fail)
  · exact Run.leave (ts := [2]) (.inr ⟨_, rfl⟩) rfl Tryz.func138 rfl (Le.int (by unfold kCel; rw [if_pos hb]))
  · refine Run.callBX (of60_fn c.r) rfl rfl ⟨Le.refl _, trivial⟩ rfl rfl rfl ?_
    (conv => whnf); repeat' (first | ((with_reducible refine Know.mk fun _ => ?_); conv => whnf) | ((with_reducible refine Need.mk ?_ ?_); exact nd; conv => whnf) | ((with_reducible first | refine Both.mk ?_ ?_ | refine Any.mk fun b hb => ?_ | refine AskB.dec (fun hb => ?_) (fun hb => ?_) | refine AskB.ndec (fun hb => ?_) (fun hb => ?_) | refine AskB.mk (fun hb => ?_) (fun hb => ?_)) <;> conv => whnf) | ((with_reducible first | refine Run.drawX rfl (by decide +kernel) ?_ | refine Run.drawT rfl (by decide +kernel) ?_ | refine Run.drawW rfl (by decide +kernel) ?_); conv => whnf) | fail)
    exact Run.leave (ts := [2]) (.inr ⟨_, rfl⟩) rfl Tryz.func138 rfl (Le.int (by unfold kCel; rw [if_neg (by simp [hb])]))
theorem wordy66_fn (c : Cel) : Fn Tryz.prog 139 [.agg 5 (tCel.enc c)] (.bool (wordy (kCel c))) := by
  refine Fn.of Tryz.f139 _ Tryz.func139 rfl (by decide) (by show 1 ≤ _; decide) tbOk 16 rfl fun S w0 gl => ?_
  refine Run.go ?_; (conv => whnf); repeat' (first | ((with_reducible refine Know.mk fun _ => ?_); conv => whnf) | ((with_reducible refine Need.mk ?_ ?_); exact nd; conv => whnf) | ((with_reducible first | refine Both.mk ?_ ?_ | refine Any.mk fun b hb => ?_ | refine AskB.dec (fun hb => ?_) (fun hb => ?_) | refine AskB.ndec (fun hb => ?_) (fun hb => ?_) | refine AskB.mk (fun hb => ?_) (fun hb => ?_)) <;> conv => whnf) | ((with_reducible first | refine Run.drawX rfl (by decide +kernel) ?_ | refine Run.drawT rfl (by decide +kernel) ?_ | refine Run.drawW rfl (by decide +kernel) ?_); conv => whnf) | fail)
  refine Run.callBX (cell65_fn c) rfl rfl ⟨?_, trivial⟩ rfl rfl rfl ?_
  · refine Le.agg fun j hj => ?_
    match j, hj with
    | 0, _ => exact Le.refl _
    | 1, _ => exact Le.refl _
    | 2, _ => exact Le.refl _
    | 3, _ => exact Le.refl _
    | 4, _ => exact Le.refl _
  (conv => whnf); repeat' (first | ((with_reducible refine Know.mk fun _ => ?_); conv => whnf) | ((with_reducible refine Need.mk ?_ ?_); exact nd; conv => whnf) | ((with_reducible first | refine Both.mk ?_ ?_ | refine Any.mk fun b hb => ?_ | refine AskB.dec (fun hb => ?_) (fun hb => ?_) | refine AskB.ndec (fun hb => ?_) (fun hb => ?_) | refine AskB.mk (fun hb => ?_) (fun hb => ?_)) <;> conv => whnf) | ((with_reducible first | refine Run.drawX rfl (by decide +kernel) ?_ | refine Run.drawT rfl (by decide +kernel) ?_ | refine Run.drawW rfl (by decide +kernel) ?_); conv => whnf) | fail)
  all_goals refine Run.leave (ts := [2]) (.inr ⟨_, rfl⟩) rfl Tryz.func139 rfl ?_
  all_goals first
    | exact Le.tt.trans (Le.bool (decide_eq_true (by omega)).symm)
    | exact Le.bool (decide_eq_decide.mpr (by omega))
theorem knd_in {L : List Cel} {j : Nat} (h : j < L.length) : kCel (L.getD j cel0) = knd L j := by unfold knd; rw [if_pos h]
/-- The document's words, as it goes through them. -/
theorem word67_fn (L : List Cel) (i : Nat) (hi : i ≤ L.length) (hL : L.length ≤ 1048576) : Fn Tryz.prog 140 [tCel.L L, .int .i64 i] (.int .i64 (wordE L i : Nat)) := by
  refine Fn.of Tryz.f140 _ Tryz.func140 rfl (by decide) (by show 2 ≤ _; decide) tbOk 41 rfl fun S w0 gl => ?_
  refine Run.go ?_; (conv => whnf); repeat' (first | ((with_reducible refine Know.mk fun _ => ?_); conv => whnf) | ((with_reducible refine Need.mk ?_ ?_); exact nd; conv => whnf) | ((with_reducible first | refine Both.mk ?_ ?_ | refine Any.mk fun b hb => ?_ | refine AskB.dec (fun hb => ?_) (fun hb => ?_) | refine AskB.ndec (fun hb => ?_) (fun hb => ?_) | refine AskB.mk (fun hb => ?_) (fun hb => ?_)) <;> conv => whnf) | ((with_reducible first | refine Run.drawX rfl (by decide +kernel) ?_ | refine Run.drawT rfl (by decide +kernel) ?_ | refine Run.drawW rfl (by decide +kernel) ?_); conv => whnf) | fail)
  refine Run.loop [0] (fun (j : Nat) => [(1, .int .i64 (j : Int))]) (fun j => []) (fun j => i ≤ j ∧ j ≤ L.length ∧ wordE L j = wordE L i) (fun j => L.length - j) i ⟨Nat.le_refl _, hi, rfl⟩ ⟨Le.refl _, trivial⟩ trivial ?_
  intro j ⟨hj1, hj2, hj3⟩ IH
  have hw1 : IntKind.i64.wrap ((j : Int) + 1) = ((j + 1 : Nat) : Int) := wrap64 (by omega) (by omega)
  have hw2 : IntKind.i64.wrap ((j : Int) + 2) = ((j + 2 : Nat) : Int) := wrap64 (by omega) (by omega)
  have stop : j < L.length → ¬ wy L j → ¬ (knd L j = 4 ∧ wy L (j + 1)) → wordE L i = j := fun h1 h2 h3 => by rw [← hj3, wordE.eq_def L j, dif_pos h1, if_neg h2, if_neg h3]
  have hg1 : tCel.G L (IntKind.i64.wrap (↑j + 1)).toNat = tCel.enc (L.getD (j + 1) cel0) := by rw [hw1]; rfl
  refine Run.go ?_; (conv => whnf); repeat' (first | ((with_reducible refine Know.mk fun _ => ?_); conv => whnf) | ((with_reducible refine Need.mk ?_ ?_); exact nd; conv => whnf) | ((with_reducible first | refine Both.mk ?_ ?_ | refine Any.mk fun b hb => ?_ | refine AskB.dec (fun hb => ?_) (fun hb => ?_) | refine AskB.ndec (fun hb => ?_) (fun hb => ?_) | refine AskB.mk (fun hb => ?_) (fun hb => ?_)) <;> conv => whnf) | ((with_reducible first | refine Run.drawX rfl (by decide +kernel) ?_ | refine Run.drawT rfl (by decide +kernel) ?_ | refine Run.drawW rfl (by decide +kernel) ?_); conv => whnf) | fail)
  · have hlt : j < L.length := by omega
    refine Run.callBX (wordy66_fn (L.getD j cel0)) rfl rfl ⟨Le.refl _, trivial⟩ rfl rfl rfl ?_
    rw [knd_in hlt]
    (conv => whnf); repeat' (first | ((with_reducible refine Know.mk fun _ => ?_); conv => whnf) | ((with_reducible refine Need.mk ?_ ?_); exact nd; conv => whnf) | ((with_reducible first | refine Both.mk ?_ ?_ | refine Any.mk fun b hb => ?_ | refine AskB.dec (fun hb => ?_) (fun hb => ?_) | refine AskB.ndec (fun hb => ?_) (fun hb => ?_) | refine AskB.mk (fun hb => ?_) (fun hb => ?_)) <;> conv => whnf) | ((with_reducible first | refine Run.drawX rfl (by decide +kernel) ?_ | refine Run.drawT rfl (by decide +kernel) ?_ | refine Run.drawW rfl (by decide +kernel) ?_); conv => whnf) | fail)
    · refine Run.to _ _ ?_ ?_ (IH (j + 1) (by omega) ⟨by omega, by omega, ?_⟩)
      · exact ⟨Le.refl _, Le.int hw1, trivial⟩
      · exact trivial
      · rw [← hj3, wordE.eq_def L j, dif_pos hlt, if_pos hb]
    · have hnw : ¬ wy L j := nwy hb
      refine Run.callBX (cell65_fn (L.getD j cel0)) rfl rfl ⟨Le.refl _, trivial⟩ rfl rfl rfl ?_
      rw [knd_in hlt]
      (conv => whnf); repeat' (first | ((with_reducible refine Know.mk fun _ => ?_); conv => whnf) | ((with_reducible refine Need.mk ?_ ?_); exact nd; conv => whnf) | ((with_reducible first | refine Both.mk ?_ ?_ | refine Any.mk fun b hb => ?_ | refine AskB.dec (fun hb => ?_) (fun hb => ?_) | refine AskB.ndec (fun hb => ?_) (fun hb => ?_) | refine AskB.mk (fun hb => ?_) (fun hb => ?_)) <;> conv => whnf) | ((with_reducible first | refine Run.drawX rfl (by decide +kernel) ?_ | refine Run.drawT rfl (by decide +kernel) ?_ | refine Run.drawW rfl (by decide +kernel) ?_); conv => whnf) | fail)
      · have hlt1 : j + 1 < L.length := by rw [hw1] at hb; omega
        have hk4 : knd L j = 4 := by assumption
        refine Run.callBX (wordy66_fn (L.getD (j + 1) cel0)) rfl rfl ⟨?_, trivial⟩ rfl rfl rfl ?_
        · rw [← hg1]; exact Le.refl _
        rw [knd_in hlt1]
        (conv => whnf); repeat' (first | ((with_reducible refine Know.mk fun _ => ?_); conv => whnf) | ((with_reducible refine Need.mk ?_ ?_); exact nd; conv => whnf) | ((with_reducible first | refine Both.mk ?_ ?_ | refine Any.mk fun b hb => ?_ | refine AskB.dec (fun hb => ?_) (fun hb => ?_) | refine AskB.ndec (fun hb => ?_) (fun hb => ?_) | refine AskB.mk (fun hb => ?_) (fun hb => ?_)) <;> conv => whnf) | ((with_reducible first | refine Run.drawX rfl (by decide +kernel) ?_ | refine Run.drawT rfl (by decide +kernel) ?_ | refine Run.drawW rfl (by decide +kernel) ?_); conv => whnf) | fail)
        · refine Run.to _ _ ?_ ?_ (IH (j + 2) (by omega) ⟨by omega, by omega, ?_⟩)
          · exact ⟨Le.refl _, Le.int hw2, trivial⟩
          · exact trivial
          · rw [← hj3, wordE.eq_def L j, dif_pos hlt, if_neg hnw, if_pos ⟨hk4, hb⟩]
        · exact Run.leave (ts := [4]) (.inr ⟨_, rfl⟩) rfl Tryz.func140 rfl (Le.int (by rw [stop hlt hnw (fun h => absurd (hb.symm.trans h.2) (by decide))]))
      · exact Run.leave (ts := [4]) (.inr ⟨_, rfl⟩) rfl Tryz.func140 rfl (Le.int (by rw [stop hlt hnw (fun h => absurd (wy_lt h.2) (by rw [hw1] at hb; omega))]))
      · exact Run.leave (ts := [4]) (.inr ⟨_, rfl⟩) rfl Tryz.func140 rfl (Le.int (by rw [stop hlt hnw (fun h => absurd h.1 hb)]))
  · exact Run.leave (ts := [4]) (.inr ⟨_, rfl⟩) rfl Tryz.func140 rfl (Le.int (by rw [← hj3, wordE.eq_def L j, dif_neg (by omega)]))
end Go.Proofs.YteklnpgiloebcaaGreatDoor.V

namespace Go.Proofs.YteklnpgiloebcaaGreatDoor.V
set_option linter.unusedVariables false
set_option linter.unusedSimpArgs false
open Go Go.Proofs Go.RowKit
set_option maxRecDepth 100000
set_option maxHeartbeats 2000000
open Go Go.Proofs Go.Proofs.YteklnpgiloebcaaGreatDoor.V
theorem token49_fn (L : List Cel) (i : Nat) (hi : i < L.length) (hL : L.length ≤ 1048576) : Fn Tryz.prog 120 [tCel.L L, .int .i64 i] (tupL [.int .i64 (tokE L i).1, .int .i64 (tokE L i).2]) := by
  refine Fn.of Tryz.f120 _ Tryz.func120 rfl (by decide) (by show 2 ≤ _; decide) tbOk 81 rfl fun S w0 gl => ?_
  have hw1 : IntKind.i64.wrap ((i : Int) + 1) = ((i + 1 : Nat) : Int) := wrap64 (by omega) (by omega)
  have hw2 : IntKind.i64.wrap ((i : Int) + 2) = ((i + 2 : Nat) : Int) := wrap64 (by omega) (by omega)
  have hg1 : L.getD (IntKind.i64.wrap (↑i + 1)).toNat tCel.z = L.getD (i + 1) cel0 := by rw [hw1]; rfl
  have ret : ∀ (k : Int) (n : Nat) (m : Int), tokE L i = (k, n) → m = n → ArgsLe [.int .i64 k, .int .i64 m] [.int .i64 (tokE L i).1, .int .i64 (tokE L i).2] := fun k n m h e => by rw [h, e]; exact ⟨Le.refl _, Le.refl _, trivial⟩
  refine Run.go ?_; (conv => whnf); repeat' (first | ((with_reducible refine Know.mk fun _ => ?_); conv => whnf) | ((with_reducible refine Need.mk ?_ ?_); exact nd; conv => whnf) | ((with_reducible first | refine Both.mk ?_ ?_ | refine Any.mk fun b hb => ?_ | refine AskB.dec (fun hb => ?_) (fun hb => ?_) | refine AskB.ndec (fun hb => ?_) (fun hb => ?_) | refine AskB.mk (fun hb => ?_) (fun hb => ?_)) <;> conv => whnf) | ((with_reducible first | refine Run.drawX rfl (by decide +kernel) ?_ | refine Run.drawT rfl (by decide +kernel) ?_ | refine Run.drawW rfl (by decide +kernel) ?_); conv => whnf) | fail)
  refine Run.callBX (cell65_fn (L.getD i cel0)) rfl rfl ⟨Le.refl _, trivial⟩ rfl rfl rfl ?_
  rw [knd_in hi]
  (conv => whnf); repeat' (first | ((with_reducible refine Know.mk fun _ => ?_); conv => whnf) | ((with_reducible refine Need.mk ?_ ?_); exact nd; conv => whnf) | ((with_reducible first | refine Both.mk ?_ ?_ | refine Any.mk fun b hb => ?_ | refine AskB.dec (fun hb => ?_) (fun hb => ?_) | refine AskB.ndec (fun hb => ?_) (fun hb => ?_) | refine AskB.mk (fun hb => ?_) (fun hb => ?_)) <;> conv => whnf) | ((with_reducible first | refine Run.drawX rfl (by decide +kernel) ?_ | refine Run.drawT rfl (by decide +kernel) ?_ | refine Run.drawW rfl (by decide +kernel) ?_); conv => whnf) | fail)
  refine Run.callBX (wordy66_fn (L.getD i cel0)) rfl rfl ⟨Le.refl _, trivial⟩ rfl rfl rfl ?_
  rw [knd_in hi]
  (conv => whnf); repeat' (first | ((with_reducible refine Know.mk fun _ => ?_); conv => whnf) | ((with_reducible refine Need.mk ?_ ?_); exact nd; conv => whnf) | ((with_reducible first | refine Both.mk ?_ ?_ | refine Any.mk fun b hb => ?_ | refine AskB.dec (fun hb => ?_) (fun hb => ?_) | refine AskB.ndec (fun hb => ?_) (fun hb => ?_) | refine AskB.mk (fun hb => ?_) (fun hb => ?_)) <;> conv => whnf) | ((with_reducible first | refine Run.drawX rfl (by decide +kernel) ?_ | refine Run.drawT rfl (by decide +kernel) ?_ | refine Run.drawW rfl (by decide +kernel) ?_); conv => whnf) | fail)
  · refine Run.callBX (word67_fn L i (by omega) hL) rfl rfl ⟨Le.refl _, Le.refl _, trivial⟩ rfl rfl rfl ?_
    (conv => whnf); repeat' (first | ((with_reducible refine Know.mk fun _ => ?_); conv => whnf) | ((with_reducible refine Need.mk ?_ ?_); exact nd; conv => whnf) | ((with_reducible first | refine Both.mk ?_ ?_ | refine Any.mk fun b hb => ?_ | refine AskB.dec (fun hb => ?_) (fun hb => ?_) | refine AskB.ndec (fun hb => ?_) (fun hb => ?_) | refine AskB.mk (fun hb => ?_) (fun hb => ?_)) <;> conv => whnf) | ((with_reducible first | refine Run.drawX rfl (by decide +kernel) ?_ | refine Run.drawT rfl (by decide +kernel) ?_ | refine Run.drawW rfl (by decide +kernel) ?_); conv => whnf) | fail)
    exact Run.leave (ts := [4,5]) (.inr ⟨_, rfl⟩) rfl Tryz.func120 rfl (resT (ret 1 (wordE L i) _ (by unfold tokE; rw [if_pos hb]) rfl))
  all_goals have hnw : ¬ wy L i := nwy (by assumption)
  · have hk5 : knd L i = 5 := hb
    refine Run.loop [0] (fun (j : Nat) => [(7, .int .i64 (j : Int))]) (fun j => []) (fun j => i ≤ j ∧ j ≤ L.length ∧ blankE L j = blankE L i) (fun j => L.length - j) i ⟨Nat.le_refl _, by omega, rfl⟩ ⟨Le.refl _, trivial⟩ trivial ?_
    intro j ⟨hj1, hj2, hj3⟩ IH
    have hw3 : IntKind.i64.wrap ((j : Int) + 1) = ((j + 1 : Nat) : Int) := wrap64 (by omega) (by omega)
    refine Run.go ?_; (conv => whnf); repeat' (first | ((with_reducible refine Know.mk fun _ => ?_); conv => whnf) | ((with_reducible refine Need.mk ?_ ?_); exact nd; conv => whnf) | ((with_reducible first | refine Both.mk ?_ ?_ | refine Any.mk fun b hb => ?_ | refine AskB.dec (fun hb => ?_) (fun hb => ?_) | refine AskB.ndec (fun hb => ?_) (fun hb => ?_) | refine AskB.mk (fun hb => ?_) (fun hb => ?_)) <;> conv => whnf) | ((with_reducible first | refine Run.drawX rfl (by decide +kernel) ?_ | refine Run.drawT rfl (by decide +kernel) ?_ | refine Run.drawW rfl (by decide +kernel) ?_); conv => whnf) | fail)
    · have hlt : j < L.length := by omega
      refine Run.callBX (cell65_fn (L.getD j cel0)) rfl rfl ⟨Le.refl _, trivial⟩ rfl rfl rfl ?_
      rw [knd_in hlt]
      (conv => whnf); repeat' (first | ((with_reducible refine Know.mk fun _ => ?_); conv => whnf) | ((with_reducible refine Need.mk ?_ ?_); exact nd; conv => whnf) | ((with_reducible first | refine Both.mk ?_ ?_ | refine Any.mk fun b hb => ?_ | refine AskB.dec (fun hb => ?_) (fun hb => ?_) | refine AskB.ndec (fun hb => ?_) (fun hb => ?_) | refine AskB.mk (fun hb => ?_) (fun hb => ?_)) <;> conv => whnf) | ((with_reducible first | refine Run.drawX rfl (by decide +kernel) ?_ | refine Run.drawT rfl (by decide +kernel) ?_ | refine Run.drawW rfl (by decide +kernel) ?_); conv => whnf) | fail)
      · refine Run.to _ _ ?_ ?_ (IH (j + 1) (by omega) ⟨by omega, by omega, ?_⟩)
        · exact ⟨Le.refl _, Le.int hw3, trivial⟩
        · exact trivial
        · rw [← hj3, blankE.eq_def L j, dif_pos hlt, if_pos hb]
      · refine Run.leave (ts := [4,5]) (.inr ⟨_, rfl⟩) rfl Tryz.func120 rfl (resT (ret 2 j _ ?_ rfl))
        unfold tokE
        rw [if_neg hnw, if_pos hk5, ← hj3, blankE.eq_def L j, dif_pos hlt, if_neg hb]
    · refine Run.leave (ts := [4,5]) (.inr ⟨_, rfl⟩) rfl Tryz.func120 rfl (resT (ret 2 j _ ?_ rfl))
      unfold tokE
      rw [if_neg hnw, if_pos hk5, ← hj3, blankE.eq_def L j, dif_neg (by omega)]
  all_goals have hk5 : ¬ knd L i = 5 := by assumption
  · rw [hg1] at hb
    exact Run.leave (ts := [4,5]) (.inr ⟨_, rfl⟩) rfl Tryz.func120 rfl (resT (ret 3 (i + 2) _ (by unfold tokE; rw [if_neg hnw, if_neg hk5, if_pos (by assumption), if_pos ⟨by assumption, by omega, hb⟩]) hw2))
  · rw [hg1] at hb
    exact Run.leave (ts := [4,5]) (.inr ⟨_, rfl⟩) rfl Tryz.func120 rfl (resT (ret 3 (i + 1) _ (by unfold tokE; rw [if_neg hnw, if_neg hk5, if_pos (by assumption), if_neg (fun h => absurd h.2.2 hb)]) hw1))
  · exact Run.leave (ts := [4,5]) (.inr ⟨_, rfl⟩) rfl Tryz.func120 rfl (resT (ret 3 (i + 1) _ (by unfold tokE; rw [if_neg hnw, if_neg hk5, if_pos (by assumption), if_neg (fun h => absurd h.2.1 (by omega))]) hw1))
  · exact Run.leave (ts := [4,5]) (.inr ⟨_, rfl⟩) rfl Tryz.func120 rfl (resT (ret 3 (i + 1) _ (by unfold tokE; rw [if_neg hnw, if_neg hk5, if_pos (by assumption), if_neg (fun h => absurd h.1 hb)]) hw1))
  all_goals have hk6 : ¬ knd L i = 6 := by assumption
  · exact Run.leave (ts := [4,5]) (.inr ⟨_, rfl⟩) rfl Tryz.func120 rfl (resT (ret 4 (i + 1) _ (by unfold tokE; rw [if_neg hnw, if_neg hk5, if_neg hk6, if_pos (.inl hb)]) hw1))
  · exact Run.leave (ts := [4,5]) (.inr ⟨_, rfl⟩) rfl Tryz.func120 rfl (resT (ret 4 (i + 1) _ (by unfold tokE; rw [if_neg hnw, if_neg hk5, if_neg hk6, if_pos (.inr hb)]) hw1))
  · exact Run.leave (ts := [4,5]) (.inr ⟨_, rfl⟩) rfl Tryz.func120 rfl (resT (ret 5 (i + 1) _ (by unfold tokE; rw [if_neg hnw, if_neg hk5, if_neg hk6, if_neg (fun h => h.elim (by assumption) hb)]) hw1))
end Go.Proofs.YteklnpgiloebcaaGreatDoor.V

namespace Go.Proofs.YteklnpgiloebcaaGreatDoor.V
set_option linter.unusedVariables false
set_option linter.unusedSimpArgs false
open Go Go.Proofs Go.RowKit
set_option maxRecDepth 100000
set_option maxHeartbeats 2000000
open Go Go.Proofs Go.Proofs.YteklnpgiloebcaaGreatDoor.V
noncomputable def toksOf (s : ByteArray) : List Tok := if 65536 < s.size then [] else toks s 0 (cells s 0) 0
def codeT (s : ByteArray) : Int := if 65536 < s.size then 1 else 0
theorem tokens32_fn (s : ByteArray) : Fn Tryz.prog 98 [.str s] (tupL [tTok.L (toksOf s), .int .i64 (codeT s)]) := by
  refine Fn.of Tryz.f98 _ Tryz.func98 rfl (by decide) (by show 1 ≤ _; decide) tbOk 56 rfl fun S w0 gl => ?_
  refine Run.go ?_; (conv => whnf); repeat' (first | ((with_reducible refine Know.mk fun _ => ?_); conv => whnf) | ((with_reducible refine Need.mk ?_ ?_); exact nd; conv => whnf) | ((with_reducible first | refine Both.mk ?_ ?_ | refine Any.mk fun b hb => ?_ | refine AskB.dec (fun hb => ?_) (fun hb => ?_) | refine AskB.ndec (fun hb => ?_) (fun hb => ?_) | refine AskB.mk (fun hb => ?_) (fun hb => ?_)) <;> conv => whnf) | ((with_reducible first | refine Run.drawX rfl (by decide +kernel) ?_ | refine Run.drawT rfl (by decide +kernel) ?_ | refine Run.drawW rfl (by decide +kernel) ?_); conv => whnf) | fail)
  · refine Run.leave (ts := [2,3]) (.inr ⟨_, rfl⟩) rfl Tryz.func98 rfl (resT ⟨?_, Le.int ?_, trivial⟩)
    · unfold toksOf; rw [if_pos (by omega)]; exact Le.nils _ _
    · unfold codeT; rw [if_pos (by omega)]
  have hs : s.size ≤ 65536 := by omega
  have he : toksOf s = toks s 0 (cells s 0) 0 := by unfold toksOf; rw [if_neg (by omega)]
  have hc0 : codeT s = 0 := by unfold codeT; rw [if_neg (by omega)]
  rw [he, hc0]
  refine Run.callBX (cells36_fn s (by omega)) rfl rfl ⟨Le.refl _, trivial⟩ rfl rfl rfl ?_
  have hlen := cells_len s 0
  have hpm := posAt_mono s
  have hpl := posAt_le s
  generalize hL : cells s 0 = L at *
  (conv => whnf); repeat' (first | ((with_reducible refine Know.mk fun _ => ?_); conv => whnf) | ((with_reducible refine Need.mk ?_ ?_); exact nd; conv => whnf) | ((with_reducible first | refine Both.mk ?_ ?_ | refine Any.mk fun b hb => ?_ | refine AskB.dec (fun hb => ?_) (fun hb => ?_) | refine AskB.ndec (fun hb => ?_) (fun hb => ?_) | refine AskB.mk (fun hb => ?_) (fun hb => ?_)) <;> conv => whnf) | ((with_reducible first | refine Run.drawX rfl (by decide +kernel) ?_ | refine Run.drawT rfl (by decide +kernel) ?_ | refine Run.drawW rfl (by decide +kernel) ?_); conv => whnf) | fail)
  refine Run.holdNil 5 1000 126 3 (fun _ _ => .u) (by rfl) ?_
  refine Run.loop [0, 4] (fun (a : Nat × List Tok) => [(5, .row 1000), (6, .int .i64 (a.1 : Int))]) (fun a => [(1000, tTok.R 126 a.2)])
    (fun a => a.1 ≤ L.length ∧ a.2.length ≤ a.1 ∧ a.2 ++ toks s 0 L a.1 = toks s 0 L 0) (fun a => L.length - a.1) (0, []) ⟨Nat.zero_le _, Nat.zero_le _, rfl⟩ ⟨Le.refl _, Le.refl _, trivial⟩ ⟨⟨rfl, rfl, rfl, fun i j hi => absurd hi (Nat.not_lt_zero _)⟩, trivial⟩ ?_
  intro ⟨i, l⟩ ⟨hi, hl, hc⟩ IH
  simp only at hi hl hc
  show Run _ _ (lst (_ ++ [(5, .row 1000), (6, .int .i64 (i : Int))])) (lstH [(1000, tTok.R 126 l)])
  have hge := tokE_gt L i
  have p3 := fun h => toks_in (s := s) (base := 0) (L := L) (i := i) h
  generalize hk : tokE L i = kn at *
  obtain ⟨k, n⟩ := kn
  simp only at hge p3
  have p1 := hpm i n
  have p2 := hpl n
  refine Run.go ?_; (conv => whnf); repeat' (first | ((with_reducible refine Know.mk fun _ => ?_); conv => whnf) | ((with_reducible refine Need.mk ?_ ?_); exact nd; conv => whnf) | ((with_reducible first | refine Both.mk ?_ ?_ | refine Any.mk fun b hb => ?_ | refine AskB.dec (fun hb => ?_) (fun hb => ?_) | refine AskB.ndec (fun hb => ?_) (fun hb => ?_) | refine AskB.mk (fun hb => ?_) (fun hb => ?_)) <;> conv => whnf) | ((with_reducible first | refine Run.drawX rfl (by decide +kernel) ?_ | refine Run.drawT rfl (by decide +kernel) ?_ | refine Run.drawW rfl (by decide +kernel) ?_); conv => whnf) | fail)
  · have hil : i < L.length := by omega
    have hge := hge hil
    have p3 := p3 hil
    have p1 := p1 (by omega)
    unfold posAt at p1 p2 p3
    rw [if_pos hil] at p1 p3
    have back : ∀ (t : Tok) (q : Nat), t = ⟨k, 0 + ((L.getD i cel0).pos : Int), s.extract (L.getD i cel0).pos q⟩ → q = (if n < L.length then (L.getD n cel0).pos else s.size) → (l ++ [t]).length ≤ n ∧ (l ++ [t]) ++ toks s 0 L n = toks s 0 L 0 := fun t q h1 h2 => by
      refine ⟨by simp; omega, ?_⟩
      rw [← hc, p3, h1, h2]; simp
    refine Run.callBX (token49_fn L i hil (by omega)) rfl rfl ⟨Le.refl _, Le.refl _, trivial⟩ rfl rfl rfl ?_
    rw [hk]
    by_cases hn : n < L.length
    · rw [if_pos hn] at p1 p2
      have q1 : (L.getD (↑i : Int).toNat tCel.z).pos ≤ (L.getD (↑n : Int).toNat tCel.z).pos := p1
      have q2 : (L.getD (↑n : Int).toNat tCel.z).pos ≤ s.size := p2
      (conv => whnf); repeat' (first | ((with_reducible refine Know.mk fun _ => ?_); conv => whnf) | ((with_reducible refine Need.mk ?_ ?_); exact nd; conv => whnf) | ((with_reducible first | refine Both.mk ?_ ?_ | refine Any.mk fun b hb => ?_ | refine AskB.dec (fun hb => ?_) (fun hb => ?_) | refine AskB.ndec (fun hb => ?_) (fun hb => ?_) | refine AskB.mk (fun hb => ?_) (fun hb => ?_)) <;> conv => whnf) | ((with_reducible first | refine Run.drawX rfl (by decide +kernel) ?_ | refine Run.drawT rfl (by decide +kernel) ?_ | refine Run.drawW rfl (by decide +kernel) ?_); conv => whnf) | fail)
      · refine Run.drawL 16 0 36 rfl (by decide) (by decide +kernel) rfl rfl rfl rfl rfl rfl rfl ?_
        (conv => whnf); repeat' (first | ((with_reducible refine Know.mk fun _ => ?_); conv => whnf) | ((with_reducible refine Need.mk ?_ ?_); exact nd; conv => whnf) | ((with_reducible first | refine Both.mk ?_ ?_ | refine Any.mk fun b hb => ?_ | refine AskB.dec (fun hb => ?_) (fun hb => ?_) | refine AskB.ndec (fun hb => ?_) (fun hb => ?_) | refine AskB.mk (fun hb => ?_) (fun hb => ?_)) <;> conv => whnf) | ((with_reducible first | refine Run.drawX rfl (by decide +kernel) ?_ | refine Run.drawT rfl (by decide +kernel) ?_ | refine Run.drawW rfl (by decide +kernel) ?_); conv => whnf) | fail)
        all_goals refine Run.hold (z := 53) 5 1000 (by rfl) (by rfl) (by rfl) ?_
        all_goals obtain ⟨b1, b2⟩ := back _ (L.getD n cel0).pos rfl (by rw [if_pos hn])
        all_goals refine Run.to _ _ ?_ ?_ (IH (n, l ++ [⟨k, 0 + ((L.getD i cel0).pos : Int), s.extract (L.getD i cel0).pos (L.getD n cel0).pos⟩]) (by simp only []; omega) ⟨hge.2, b1, b2⟩)
        all_goals (try (case refine_1 => exact ⟨Le.refl _, Le.refl _, Le.refl _, Le.refl _, trivial⟩))
        all_goals refine ⟨tTok.push 126 l ⟨k, 0 + ((L.getD i cel0).pos : Int), s.extract (L.getD i cel0).pos (L.getD n cel0).pos⟩ _ (fun j hj => ?_), trivial⟩
        all_goals (match j, hj with
          | 0, _ => exact Le.refl _
          | 1, _ => exact Le.int (by rw [Int.zero_add]; rfl)
          | 2, _ => exact Le.refl _)
      · exact absurd hn (by omega)
    · rw [if_neg hn] at p1 p2
      have q1 : (L.getD (↑i : Int).toNat tCel.z).pos ≤ s.size := p1
      (conv => whnf); repeat' (first | ((with_reducible refine Know.mk fun _ => ?_); conv => whnf) | ((with_reducible refine Need.mk ?_ ?_); exact nd; conv => whnf) | ((with_reducible first | refine Both.mk ?_ ?_ | refine Any.mk fun b hb => ?_ | refine AskB.dec (fun hb => ?_) (fun hb => ?_) | refine AskB.ndec (fun hb => ?_) (fun hb => ?_) | refine AskB.mk (fun hb => ?_) (fun hb => ?_)) <;> conv => whnf) | ((with_reducible first | refine Run.drawX rfl (by decide +kernel) ?_ | refine Run.drawT rfl (by decide +kernel) ?_ | refine Run.drawW rfl (by decide +kernel) ?_); conv => whnf) | fail)
      · exact absurd hn (by omega)
      · refine Run.drawL 16 0 36 rfl (by decide) (by decide +kernel) rfl rfl rfl rfl rfl rfl rfl ?_
        (conv => whnf); repeat' (first | ((with_reducible refine Know.mk fun _ => ?_); conv => whnf) | ((with_reducible refine Need.mk ?_ ?_); exact nd; conv => whnf) | ((with_reducible first | refine Both.mk ?_ ?_ | refine Any.mk fun b hb => ?_ | refine AskB.dec (fun hb => ?_) (fun hb => ?_) | refine AskB.ndec (fun hb => ?_) (fun hb => ?_) | refine AskB.mk (fun hb => ?_) (fun hb => ?_)) <;> conv => whnf) | ((with_reducible first | refine Run.drawX rfl (by decide +kernel) ?_ | refine Run.drawT rfl (by decide +kernel) ?_ | refine Run.drawW rfl (by decide +kernel) ?_); conv => whnf) | fail)
        all_goals refine Run.hold (z := 53) 5 1000 (by rfl) (by rfl) (by rfl) ?_
        all_goals obtain ⟨b1, b2⟩ := back _ s.size rfl (by rw [if_neg hn])
        all_goals refine Run.to _ _ ?_ ?_ (IH (n, l ++ [⟨k, 0 + ((L.getD i cel0).pos : Int), s.extract (L.getD i cel0).pos s.size⟩]) (by simp only []; omega) ⟨hge.2, b1, b2⟩)
        all_goals (try (case refine_1 => exact ⟨Le.refl _, Le.refl _, Le.refl _, Le.refl _, trivial⟩))
        all_goals refine ⟨tTok.push 126 l ⟨k, 0 + ((L.getD i cel0).pos : Int), s.extract (L.getD i cel0).pos s.size⟩ _ (fun j hj => ?_), trivial⟩
        all_goals (match j, hj with
          | 0, _ => exact Le.refl _
          | 1, _ => exact Le.int (by rw [Int.zero_add]; rfl)
          | 2, _ => exact Le.refl _)
  · rw [toks_out (by omega), List.append_nil] at hc
    rw [← hc]
    exact Run.leave (ts := [2,3]) (.inr ⟨_, rfl⟩) rfl Tryz.func98 rfl (resT ⟨Le.refl _, Le.refl _, trivial⟩)
theorem tokens31_fn (s : ByteArray) : Fn Tryz.prog 74 [.str s] (tupL [tTok.L (toksOf s), .int .i64 (codeT s)]) := by
  refine Fn.of Tryz.f74 _ Tryz.func74 rfl (by decide) (by show 1 ≤ _; decide) tbOk 9 rfl fun S w0 gl => ?_
  refine Run.go ?_; (conv => whnf); repeat' (first | ((with_reducible refine Know.mk fun _ => ?_); conv => whnf) | ((with_reducible refine Need.mk ?_ ?_); exact nd; conv => whnf) | ((with_reducible first | refine Both.mk ?_ ?_ | refine Any.mk fun b hb => ?_ | refine AskB.dec (fun hb => ?_) (fun hb => ?_) | refine AskB.ndec (fun hb => ?_) (fun hb => ?_) | refine AskB.mk (fun hb => ?_) (fun hb => ?_)) <;> conv => whnf) | ((with_reducible first | refine Run.drawX rfl (by decide +kernel) ?_ | refine Run.drawT rfl (by decide +kernel) ?_ | refine Run.drawW rfl (by decide +kernel) ?_); conv => whnf) | fail)
  · refine Run.leave (ts := [2,3]) (.inr ⟨_, rfl⟩) rfl Tryz.func74 rfl (resT ⟨?_, Le.int ?_, trivial⟩)
    · unfold toksOf; rw [if_pos (by omega)]; exact Le.nils _ _
    · unfold codeT; rw [if_pos (by omega)]
  refine Run.callBX (tokens_fn s 0 (by omega) (by omega) (by omega)) rfl rfl ⟨Le.refl _, Le.refl _, trivial⟩ rfl rfl rfl ?_
  (conv => whnf); repeat' (first | ((with_reducible refine Know.mk fun _ => ?_); conv => whnf) | ((with_reducible refine Need.mk ?_ ?_); exact nd; conv => whnf) | ((with_reducible first | refine Both.mk ?_ ?_ | refine Any.mk fun b hb => ?_ | refine AskB.dec (fun hb => ?_) (fun hb => ?_) | refine AskB.ndec (fun hb => ?_) (fun hb => ?_) | refine AskB.mk (fun hb => ?_) (fun hb => ?_)) <;> conv => whnf) | ((with_reducible first | refine Run.drawX rfl (by decide +kernel) ?_ | refine Run.drawT rfl (by decide +kernel) ?_ | refine Run.drawW rfl (by decide +kernel) ?_); conv => whnf) | fail)
  refine Run.leave (ts := [2,3]) (.inr ⟨_, rfl⟩) rfl Tryz.func74 rfl (resT ⟨?_, Le.int ?_, trivial⟩)
  · unfold toksOf; rw [if_neg (by omega)]; exact Le.refl _
  · unfold codeT; rw [if_neg (by omega)]
end Go.Proofs.YteklnpgiloebcaaGreatDoor.V

namespace Go.Proofs.YteklnpgiloebcaaGreatDoor.V
set_option linter.unusedVariables false
set_option linter.unusedSimpArgs false
open Go
structure Wrd where
  text : ByteArray
  tail : ByteArray
deriving DecidableEq
def tWrd : Ty Wrd := ⟨2, fun w j => match j with | 0 => .str w.text | _ => .str w.tail, ⟨.empty, .empty⟩⟩
def isW (t : Tok) : Bool := decide (t.kind = 1)
/-- What stands ahead of the first word, and the words. -/
def specW : List Tok → ByteArray × List Wrd
  | [] => (.empty, [])
  | t :: ts => if t.kind = 1 then (.empty, ⟨t.text, (specW ts).1⟩ :: (specW ts).2) else (t.text ++ (specW ts).1, (specW ts).2)
/-- Token by token a text is gone through whole. -/
def Contig (s : ByteArray) : Nat → List Tok → Prop
  | p, [] => p = s.size
  | p, t :: ts => t.at' = p ∧ t.text = s.extract p (p + t.text.size) ∧ p + t.text.size ≤ s.size ∧ Contig s (p + t.text.size) ts
def startsI (ts : List Tok) : List Int := (ts.filter isW).map (·.at')
def endsI (ts : List Tok) : List Int := (ts.filter isW).map (fun t => t.at' + (t.text.size : Int))
/-- Where the first word begins. -/
def nextS (s : ByteArray) (ts : List Tok) : Int := (startsI ts).headD s.size
theorem Contig.next {s : ByteArray} : ∀ {ts : List Tok} {p : Nat}, Contig s p ts → (p : Int) ≤ nextS s ts ∧ nextS s ts ≤ s.size
  | [], p, h => by have : p = s.size := h; simp [nextS, startsI]; omega
  | t :: ts, p, h => by
    obtain ⟨h1, h2, h3, h4⟩ := h
    have ih := Contig.next h4
    unfold nextS startsI at *
    by_cases hk : isW t
    · rw [List.filter_cons_of_pos hk]
      simp only [List.map_cons, List.headD_cons]
      omega
    · rw [List.filter_cons_of_neg hk]
      omega
theorem extract_join (s : ByteArray) (a b c : Nat) (h1 : a ≤ b) (h2 : b ≤ c) : s.extract a b ++ s.extract b c = s.extract a c := by
  rw [ByteArray.extract_append_extract]
  congr 1 <;> omega
theorem extract_nil (s : ByteArray) (a : Nat) : s.extract a a = ByteArray.empty := by
  apply ByteArray.ext
  simp
/-- The words as the program cuts them. -/
def cutW (s : ByteArray) : List Int → List Int → List Wrd
  | a :: st, e :: en => ⟨s.extract a.toNat e.toNat, s.extract e.toNat (st.headD s.size).toNat⟩ :: cutW s st en
  | _, _ => []
theorem specW_cut {s : ByteArray} : ∀ {ts : List Tok} {p : Nat}, Contig s p ts → specW ts = (s.extract p (nextS s ts).toNat, cutW s (startsI ts) (endsI ts))
  | [], p, h => by
    have : p = s.size := h
    simp only [specW, nextS, startsI, endsI, cutW, List.filter_nil, List.map_nil, List.headD_nil]
    rw [this]
    congr 1
    exact (extract_nil s _).symm
  | t :: ts, p, h => by
    obtain ⟨h1, h2, h3, h4⟩ := h
    have ih := specW_cut h4
    have hn := Contig.next h4
    unfold specW
    by_cases hk : t.kind = 1
    · have hw : isW t = true := decide_eq_true hk
      rw [if_pos hk, ih]
      have e1 : nextS s (t :: ts) = t.at' := by unfold nextS startsI; rw [List.filter_cons_of_pos hw]; rfl
      have e2 : startsI (t :: ts) = t.at' :: startsI ts := by unfold startsI; rw [List.filter_cons_of_pos hw]; rfl
      have e3 : endsI (t :: ts) = (t.at' + (t.text.size : Int)) :: endsI ts := by unfold endsI; rw [List.filter_cons_of_pos hw]; rfl
      rw [e1, e2, e3, h1]
      have e4 : ((p : Int)).toNat = p := rfl
      have e5 : ((p : Int) + (t.text.size : Int)).toNat = p + t.text.size := by omega
      simp only [cutW, e4, e5, extract_nil]
      congr 2
      rw [← h2]; rfl
    · have hw : ¬ isW t = true := by unfold isW; simpa using hk
      rw [if_neg hk, ih]
      have e2 : startsI (t :: ts) = startsI ts := by unfold startsI; rw [List.filter_cons_of_neg hw]
      have e3 : endsI (t :: ts) = endsI ts := by unfold endsI; rw [List.filter_cons_of_neg hw]
      have e1 : nextS s (t :: ts) = nextS s ts := by unfold nextS; rw [e2]
      rw [e1, e2, e3]
      congr 1
      show t.text ++ s.extract (p + t.text.size) (nextS s ts).toNat = _
      conv => lhs; arg 1; rw [h2]
      exact extract_join s _ _ _ (by omega) (by omega)
theorem toks_contig (s : ByteArray) (i : Nat) : Contig s (posAt s (cells s 0) i) (toks s 0 (cells s 0) i) := by
  by_cases h : i < (cells s 0).length
  · rw [toks_in h]
    have hg := tokE_gt (cells s 0) i h
    have hm := posAt_mono s i (tokE (cells s 0) i).2 (by omega)
    have hrec := toks_contig s (tokE (cells s 0) i).2
    have hl := posAt_le s (tokE (cells s 0) i).2
    have hsz : (s.extract (posAt s (cells s 0) i) (posAt s (cells s 0) (tokE (cells s 0) i).2)).size = posAt s (cells s 0) (tokE (cells s 0) i).2 - posAt s (cells s 0) i := by simp; omega
    have hq : posAt s (cells s 0) i + (s.extract (posAt s (cells s 0) i) (posAt s (cells s 0) (tokE (cells s 0) i).2)).size = posAt s (cells s 0) (tokE (cells s 0) i).2 := by rw [hsz]; omega
    refine ⟨by simp, ?_, ?_, ?_⟩
    · simp only [hq]
    · simp only [hq]; omega
    · simp only [hq]; exact hrec
  · rw [toks_out h]
    unfold posAt
    rw [if_neg h]; rfl
termination_by (cells s 0).length - i
theorem posAt_zero (s : ByteArray) : posAt s (cells s 0) 0 = 0 := by
  unfold posAt
  by_cases h : 0 < s.size
  · have hp : (cellAt s 0).pos = 0 := by unfold cellAt; split <;> rfl
    rw [cells_in h]; simp [hp]
  · rw [cells_out h]; simp; exact Classical.byContradiction fun hc => h (Nat.pos_of_ne_zero (fun e => hc (by apply ByteArray.ext; apply Array.ext (by simpa using e); intro i h1 h2; simp at h2)))
/-- The document's way: token by token, what is no word is hung to the last word. -/
def absorb : ByteArray × List Wrd → List Tok → ByteArray × List Wrd
  | st, [] => st
  | (ld, ws), t :: ts => if t.kind = 1 then absorb (ld, ws ++ [⟨t.text, .empty⟩]) ts
    else if ws.length = 0 then absorb (ld ++ t.text, ws) ts
    else absorb (ld, ws.set (ws.length - 1) ⟨(ws.getD (ws.length - 1) tWrd.z).text, (ws.getD (ws.length - 1) tWrd.z).tail ++ t.text⟩) ts
theorem absorb_some : ∀ (ts : List Tok) (ld : ByteArray) (ws : List Wrd) (w : Wrd), absorb (ld, ws ++ [w]) ts = (ld, ws ++ ⟨w.text, w.tail ++ (specW ts).1⟩ :: (specW ts).2)
  | [], ld, ws, w => by simp [absorb, specW]
  | t :: ts, ld, ws, w => by
    unfold absorb specW
    by_cases hk : t.kind = 1
    · rw [if_pos hk, if_pos hk, absorb_some ts ld (ws ++ [w])]
      simp
    · rw [if_neg hk, if_neg hk, if_neg (by simp)]
      have e : (ws ++ [w]).length - 1 = ws.length := by simp
      rw [e]
      have e2 : (ws ++ [w]).getD ws.length tWrd.z = w := by simp [List.getD]
      rw [e2, List.set_append_right _ _ (Nat.le_refl _), Nat.sub_self]
      show absorb (ld, ws ++ [⟨w.text, w.tail ++ t.text⟩]) ts = _
      rw [absorb_some ts ld ws]
      simp [ByteArray.append_assoc]
theorem absorb_none : ∀ (ts : List Tok) (ld : ByteArray), absorb (ld, []) ts = (ld ++ (specW ts).1, (specW ts).2)
  | [], ld => by simp [absorb, specW]
  | t :: ts, ld => by
    unfold absorb specW
    by_cases hk : t.kind = 1
    · rw [if_pos hk, if_pos hk]
      have := absorb_some ts ld [] ⟨t.text, .empty⟩
      rw [this]; simp
    · rw [if_neg hk, if_neg hk, if_pos (show ([] : List Wrd).length = 0 from rfl), absorb_none ts]
      simp [ByteArray.append_assoc]
theorem absorb_spec (ts : List Tok) : absorb (.empty, []) ts = specW ts := by rw [absorb_none]; simp
theorem toks_small (s : ByteArray) (L : List Cel) (i : Nat) : (toks s 0 L i).length ≤ L.length - i ∧ ∀ t ∈ toks s 0 L i, t.text.size ≤ s.size := by
  by_cases h : i < L.length
  · have hg := tokE_gt L i h
    obtain ⟨h1, h2⟩ := toks_small s L (tokE L i).2
    rw [toks_in h]
    refine ⟨by rw [List.length_cons]; omega, fun t ht => ?_⟩
    rcases List.mem_cons.mp ht with e | ht
    · rw [e]; simp; omega
    · exact h2 t ht
  · rw [toks_out h]; simp
termination_by L.length - i
theorem startsI_len (ts : List Tok) : (startsI ts).length ≤ ts.length ∧ (endsI ts).length = (startsI ts).length := by
  unfold startsI endsI
  exact ⟨by rw [List.length_map]; exact List.length_filter_le _ _, by simp⟩
theorem startsI_take (T : List Tok) (i : Nat) (h : i < T.length) :
    startsI (T.take (i + 1)) = startsI (T.take i) ++ (if (T.getD i tTok.z).kind = 1 then [(T.getD i tTok.z).at'] else []) ∧
    endsI (T.take (i + 1)) = endsI (T.take i) ++ (if (T.getD i tTok.z).kind = 1 then [(T.getD i tTok.z).at' + ((T.getD i tTok.z).text.size : Int)] else []) := by
  have e : T.getD i tTok.z = T[i] := by rw [List.getD, List.getElem?_eq_getElem h, Option.getD_some]
  rw [e, List.take_succ_eq_append_getElem h]
  unfold startsI endsI
  rw [List.filter_append, List.map_append, List.map_append]
  by_cases hk : T[i].kind = 1
  · have hw : isW T[i] = true := decide_eq_true hk
    rw [if_pos hk, if_pos hk, List.filter_cons_of_pos hw]; exact ⟨rfl, rfl⟩
  · have hw : ¬ isW T[i] = true := by unfold isW; simpa using hk
    rw [if_neg hk, if_neg hk, List.filter_cons_of_neg hw]; exact ⟨rfl, rfl⟩
theorem Contig.mem {s : ByteArray} : ∀ {ts : List Tok} {p : Nat}, Contig s p ts → ∀ t ∈ ts, (p : Int) ≤ t.at' ∧ t.at' + (t.text.size : Int) ≤ s.size
  | [], p, h, t, ht => absurd ht (by simp)
  | u :: ts, p, h, t, ht => by
    obtain ⟨h1, h2, h3, h4⟩ := h
    rcases List.mem_cons.mp ht with e | ht
    · rw [e]; omega
    · have := Contig.mem h4 t ht; omega
theorem Contig.sorted {s : ByteArray} : ∀ {ts : List Tok} {p : Nat}, Contig s p ts → ∀ i, i < (startsI ts).length →
    (p : Int) ≤ (startsI ts).getD i 0 ∧ (startsI ts).getD i 0 ≤ (endsI ts).getD i 0 ∧ (endsI ts).getD i 0 ≤ (startsI ts ++ [(s.size : Int)]).getD (i + 1) 0 ∧ (startsI ts ++ [(s.size : Int)]).getD (i + 1) 0 ≤ s.size
  | [], p, h, i, hi => absurd hi (by simp [startsI])
  | t :: ts, p, h, i, hi => by
    obtain ⟨h1, h2, h3, h4⟩ := h
    have hn := Contig.next h4
    by_cases hk : t.kind = 1
    · have hw : isW t = true := decide_eq_true hk
      have e2 : startsI (t :: ts) = t.at' :: startsI ts := by unfold startsI; rw [List.filter_cons_of_pos hw]; rfl
      have e3 : endsI (t :: ts) = (t.at' + (t.text.size : Int)) :: endsI ts := by unfold endsI; rw [List.filter_cons_of_pos hw]; rfl
      rw [e2] at hi ⊢
      rw [e3]
      cases i with
      | zero =>
        have : (t.at' :: startsI ts ++ [(s.size : Int)]).getD (0 + 1) 0 = nextS s ts := by
          unfold nextS
          cases startsI ts <;> rfl
        rw [this]
        simp only [List.getD_cons_zero]
        omega
      | succ i =>
        have ih := Contig.sorted h4 i (by simpa using hi)
        simp only [List.cons_append, List.getD_cons_succ]
        omega
    · have hw : ¬ isW t = true := by unfold isW; simpa using hk
      have e2 : startsI (t :: ts) = startsI ts := by unfold startsI; rw [List.filter_cons_of_neg hw]
      have e3 : endsI (t :: ts) = endsI ts := by unfold endsI; rw [List.filter_cons_of_neg hw]
      rw [e2] at hi ⊢
      rw [e3]
      have ih := Contig.sorted h4 i hi
      omega
theorem cutW_len (s : ByteArray) : ∀ (st en : List Int), en.length = st.length → (cutW s st en).length = st.length
  | [], _, _ => by unfold cutW; rfl
  | a :: st, [], h => absurd h (by simp)
  | a :: st, e :: en, h => by unfold cutW; rw [List.length_cons, cutW_len s st en (by simpa using h), List.length_cons]
theorem cutW_get (s : ByteArray) : ∀ (st en : List Int) (i : Nat), en.length = st.length → i < st.length →
    (cutW s st en).getD i tWrd.z = ⟨s.extract (st.getD i 0).toNat (en.getD i 0).toNat, s.extract (en.getD i 0).toNat ((st ++ [(s.size : Int)]).getD (i + 1) 0).toNat⟩
  | [], _, _, _, h => absurd h (by simp)
  | a :: st, [], _, h, _ => absurd h (by simp)
  | a :: st, e :: en, 0, h, hi => by
    unfold cutW
    simp only [List.getD_cons_zero]
    congr 2
    cases st <;> rfl
  | a :: st, e :: en, i + 1, h, hi => by
    unfold cutW
    simp only [List.getD_cons_succ, List.cons_append]
    exact cutW_get s st en i (by simpa using h) (by simpa using hi)
/-- The first i of a list, the others still empty. -/
def part {α : Type} (l : List α) (z : α) (i : Nat) : List α := l.take i ++ List.replicate (l.length - i) z
theorem part_len {α : Type} (l : List α) (z : α) (i : Nat) (h : i ≤ l.length) : (part l z i).length = l.length := by simp [part]; omega
theorem part_set {α : Type} (l : List α) (z : α) (i : Nat) (h : i < l.length) : (part l z i).set i (l.getD i z) = part l z (i + 1) := by
  unfold part
  refine List.ext_getElem (by simp; omega) fun j h1 h2 => ?_
  rw [List.getElem_set]
  by_cases e : i = j
  · subst e
    rw [if_pos rfl, List.getElem_append_left (by simp; omega)]
    simp [List.getD, h]
  · rw [if_neg e]
    rcases Nat.lt_or_ge j i with h3 | h3
    · rw [List.getElem_append_left (by simp; omega), List.getElem_append_left (by simp; omega)]; simp
    · rw [List.getElem_append_right (by simp; omega), List.getElem_append_right (by simp; omega)]; simp
theorem part_all {α : Type} (l : List α) (z : α) : part l z l.length = l := by simp [part]
theorem part_none {α : Type} (l : List α) (z : α) : part l z 0 = List.replicate l.length z := by simp [part]
end Go.Proofs.YteklnpgiloebcaaGreatDoor.V

namespace Go.Proofs.YteklnpgiloebcaaGreatDoor.V
set_option linter.unusedVariables false
set_option linter.unusedSimpArgs false
open Go Go.Proofs Go.RowKit
set_option maxRecDepth 100000
set_option maxHeartbeats 2000000
open Go Go.Proofs Go.Proofs.YteklnpgiloebcaaGreatDoor.V
/-- What stands ahead, the words, the refusal. -/
noncomputable def wordsOf (s : ByteArray) : (ByteArray × List Wrd) × Int := if 65536 < s.size then ((.empty, []), 1) else if 1024 < (specW (toksOf s)).2.length then ((.empty, []), 1) else (specW (toksOf s), 0)
noncomputable def wordsL (s : ByteArray) : AV := tupL [.str (wordsOf s).1.1, tWrd.L (wordsOf s).1.2, .int .i64 (wordsOf s).2]
theorem wordsOf_long {s : ByteArray} (h : 65536 < s.size) : wordsOf s = ((.empty, []), 1) := by unfold wordsOf; rw [if_pos h]
theorem wordsOf_many {s : ByteArray} (h : ¬ 65536 < s.size) (h2 : 1024 < (specW (toksOf s)).2.length) : wordsOf s = ((.empty, []), 1) := by unfold wordsOf; rw [if_neg h, if_pos h2]
theorem wordsOf_fit {s : ByteArray} (h : ¬ 65536 < s.size) (h2 : ¬ 1024 < (specW (toksOf s)).2.length) : wordsOf s = (specW (toksOf s), 0) := by unfold wordsOf; rw [if_neg h, if_neg h2]
theorem words16_fn (s : ByteArray) : Fn Tryz.prog 70 [.str s] (wordsL s) := by
  refine Fn.of Tryz.f70 _ Tryz.func70 rfl (by decide) (by show 1 ≤ _; decide) tbOk 71 rfl fun S w0 gl => ?_
  refine Run.go ?_; (conv => whnf); repeat' (first | ((with_reducible refine Know.mk fun _ => ?_); conv => whnf) | ((with_reducible refine Need.mk ?_ ?_); exact nd; conv => whnf) | ((with_reducible first | refine Both.mk ?_ ?_ | refine Any.mk fun b hb => ?_ | refine AskB.dec (fun hb => ?_) (fun hb => ?_) | refine AskB.ndec (fun hb => ?_) (fun hb => ?_) | refine AskB.mk (fun hb => ?_) (fun hb => ?_)) <;> conv => whnf) | ((with_reducible first | refine Run.drawX rfl (by decide +kernel) ?_ | refine Run.drawT rfl (by decide +kernel) ?_ | refine Run.drawW rfl (by decide +kernel) ?_); conv => whnf) | fail)
  refine Run.callBX (tokens32_fn s) rfl rfl ⟨Le.refl _, trivial⟩ rfl rfl rfl ?_
  by_cases hbig : 65536 < s.size
  · have hc : codeT s = 1 := by unfold codeT; rw [if_pos hbig]
    rw [hc]
    (conv => whnf); repeat' (first | ((with_reducible refine Know.mk fun _ => ?_); conv => whnf) | ((with_reducible refine Need.mk ?_ ?_); exact nd; conv => whnf) | ((with_reducible first | refine Both.mk ?_ ?_ | refine Any.mk fun b hb => ?_ | refine AskB.dec (fun hb => ?_) (fun hb => ?_) | refine AskB.ndec (fun hb => ?_) (fun hb => ?_) | refine AskB.mk (fun hb => ?_) (fun hb => ?_)) <;> conv => whnf) | ((with_reducible first | refine Run.drawX rfl (by decide +kernel) ?_ | refine Run.drawT rfl (by decide +kernel) ?_ | refine Run.drawW rfl (by decide +kernel) ?_); conv => whnf) | fail)
    · exact absurd hb (by decide)
    · rw [show wordsL s = tupL [.str .empty, tWrd.L [], .int .i64 1] by unfold wordsL; rw [wordsOf_long hbig]]
      exact Run.leave (ts := [2,3,4]) (.inr ⟨_, rfl⟩) rfl Tryz.func70 rfl (resT ⟨Le.refl _, Le.nils _ _, Le.refl _, trivial⟩)
  have hc : codeT s = 0 := by unfold codeT; rw [if_neg hbig]
  have hT0 : toksOf s = toks s 0 (cells s 0) 0 := by unfold toksOf; rw [if_neg hbig]
  obtain ⟨hTl, hTs⟩ := toks_small s (cells s 0) 0
  rw [← hT0] at hTl hTs
  have hcl := cells_len s 0
  have hf := wordsOf_fit (s := s) hbig
  have hm := wordsOf_many (s := s) hbig
  rw [hc]
  generalize hT : toksOf s = T at *
  rw [← absorb_spec] at hf hm
  (conv => whnf); repeat' (first | ((with_reducible refine Know.mk fun _ => ?_); conv => whnf) | ((with_reducible refine Need.mk ?_ ?_); exact nd; conv => whnf) | ((with_reducible first | refine Both.mk ?_ ?_ | refine Any.mk fun b hb => ?_ | refine AskB.dec (fun hb => ?_) (fun hb => ?_) | refine AskB.ndec (fun hb => ?_) (fun hb => ?_) | refine AskB.mk (fun hb => ?_) (fun hb => ?_)) <;> conv => whnf) | ((with_reducible first | refine Run.drawX rfl (by decide +kernel) ?_ | refine Run.drawT rfl (by decide +kernel) ?_ | refine Run.drawW rfl (by decide +kernel) ?_); conv => whnf) | fail)
  · refine Run.holdNil 8 1000 50 2 (fun _ _ => .u) (by rfl) ?_
    refine Run.loop [5] (fun (a : Nat × ByteArray × List Wrd) => [(7, .str a.2.1), (8, .row 1000), (9, .int .i64 (a.1 : Int))]) (fun a => [(1000, tWrd.R 50 a.2.2)])
      (fun a => a.1 ≤ T.length ∧ a.2.2.length ≤ a.1 ∧ a.2.1.size ≤ 65536 * a.1 ∧ (∀ w ∈ a.2.2, w.tail.size ≤ 65536 * a.1) ∧ absorb a.2 (T.drop a.1) = absorb (.empty, []) T) (fun a => T.length - a.1) (0, .empty, []) ⟨Nat.zero_le _, Nat.zero_le _, by simp, by simp, rfl⟩ ⟨Le.refl _, Le.refl _, Le.refl _, trivial⟩ ⟨⟨rfl, rfl, rfl, fun i j hi => absurd hi (Nat.not_lt_zero _)⟩, trivial⟩ ?_
    intro ⟨i, ld, ws⟩ ⟨hi, hw, hld, htl, hab⟩ IH
    simp only at hi hw hld htl hab
    show Run _ _ (lst (_ ++ [(7, .str ld), (8, .row 1000), (9, .int .i64 (i : Int))])) (lstH [(1000, tWrd.R 50 ws)])
    have gm : ∀ {α : Type} (l : List α) (j : Nat) (z : α), j < l.length → l.getD j z ∈ l := fun l j z h => by rw [List.getD, List.getElem?_eq_getElem h]; exact List.getElem_mem h
    have hts : i < T.length → (T.getD (↑i : Int).toNat tTok.z).text.size ≤ s.size := fun h => hTs _ (gm T i _ h)
    have hwl : 0 < ws.length → IntKind.i64.wrap (↑ws.length - 1) = ((ws.length - 1 : Nat) : Int) := fun h => (wrap64 (by omega) (by omega)).trans (by omega)
    have hlast : 0 < ws.length → (ws.getD (IntKind.i64.wrap (↑ws.length - 1)).toNat tWrd.z).tail.size ≤ 65536 * i := fun h => by
      rw [hwl h]
      exact htl _ (gm ws (ws.length - 1) _ (by omega))
    have hdrop : i < T.length → T.drop i = T.getD i tTok.z :: T.drop (i + 1) := fun h => by rw [List.drop_eq_getElem_cons h, List.getD, List.getElem?_eq_getElem h, Option.getD_some]
    have hw1 : IntKind.i64.wrap ((i : Int) + 1) = ((i + 1 : Nat) : Int) := wrap64 (by omega) (by omega)
    refine Run.go ?_; (conv => whnf); repeat' (first | ((with_reducible refine Know.mk fun _ => ?_); conv => whnf) | ((with_reducible refine Need.mk ?_ ?_); exact nd; conv => whnf) | ((with_reducible first | refine Both.mk ?_ ?_ | refine Any.mk fun b hb => ?_ | refine AskB.dec (fun hb => ?_) (fun hb => ?_) | refine AskB.ndec (fun hb => ?_) (fun hb => ?_) | refine AskB.mk (fun hb => ?_) (fun hb => ?_)) <;> conv => whnf) | ((with_reducible first | refine Run.drawX rfl (by decide +kernel) ?_ | refine Run.drawT rfl (by decide +kernel) ?_ | refine Run.drawW rfl (by decide +kernel) ?_); conv => whnf) | fail)
    · have hil : i < T.length := by omega
      have hk : (T.getD i tTok.z).kind = 1 := by assumption
      refine Run.hold (z := 54) 8 1000 (by rfl) (by rfl) (by rfl) ?_
      refine Run.to _ _ ?_ ?_ (IH (i + 1, ld, ws ++ [⟨(T.getD i tTok.z).text, .empty⟩]) (by simp only []; omega) ⟨by simp only []; omega, by simp; omega, by simp only []; omega, ?_, ?_⟩)
      · exact ⟨Le.refl _, Le.refl _, Le.refl _, Le.int hw1, trivial⟩
      · refine ⟨tWrd.push 50 ws ⟨(T.getD i tTok.z).text, .empty⟩ _ (fun j hj => ?_), trivial⟩
        match j, hj with
        | 0, _ => exact Le.refl _
        | 1, _ => exact Le.refl _
      · intro w hwm
        rcases List.mem_append.mp hwm with h | h
        · have := htl w h; simp only []; omega
        · rw [List.mem_singleton.mp h]; simp
      · rw [← hab, hdrop hil]
        simp only []
        rw [absorb, if_pos hk]
    · have hil : i < T.length := by omega
      have hk : ¬ (T.getD i tTok.z).kind = 1 := by assumption
      have hw0 : ws.length = 0 := by omega
      have ht1 := hts hil
      refine Run.to _ _ ?_ ?_ (IH (i + 1, ld ++ (T.getD i tTok.z).text, ws) (by simp only []; omega) ⟨by simp only []; omega, by simp only []; omega, ?_, ?_, ?_⟩)
      · exact ⟨Le.refl _, Le.refl _, Le.refl _, Le.int hw1, trivial⟩
      · exact ⟨MOle.refl _, trivial⟩
      · simp only [ByteArray.size_append]
        show ld.size + (T.getD (↑i : Int).toNat tTok.z).text.size ≤ _
        omega
      · intro w hwm
        have := htl w hwm; simp only []; omega
      · rw [← hab, hdrop hil]
        simp only []
        rw [absorb, if_neg hk, if_pos hw0]
    · have hil : i < T.length := by omega
      have hk : ¬ (T.getD i tTok.z).kind = 1 := by assumption
      have hw0 : ¬ ws.length = 0 := by omega
      have ht1 := hts hil
      have hw2 := hwl (by omega)
      have hl2 := hlast (by omega)
      refine Run.to _ _ ?_ ?_ (IH (i + 1, ld, ws.set (ws.length - 1) ⟨(ws.getD (ws.length - 1) tWrd.z).text, (ws.getD (ws.length - 1) tWrd.z).tail ++ (T.getD i tTok.z).text⟩) (by simp only []; omega) ⟨by simp only []; omega, by simp only [List.length_set]; omega, by simp only []; omega, ?_, ?_⟩)
      · exact ⟨Le.refl _, Le.refl _, Le.refl _, Le.int hw1, trivial⟩
      · refine ⟨tWrd.setAt 50 ws (ws.length - 1) _ 1 _ ⟨(ws.getD (ws.length - 1) tWrd.z).text, (ws.getD (ws.length - 1) tWrd.z).tail ++ (T.getD i tTok.z).text⟩ (by omega) (by rw [hw2]; rfl) rfl _ (fun j y hy => ?_) (fun j hj ho => ?_), trivial⟩
        · match j, hy with
          | 0, hy =>
            injection hy with hy
            rw [← hy, hw2]; exact Le.refl _
        · match j, hj with
          | 0, _ => exact Le.refl _
          | 1, _ => exact absurd ho (by simp)
      · intro w hwm
        rcases List.mem_or_eq_of_mem_set hwm with h | h
        · have := htl w h; simp only []; omega
        · rw [h]
          simp only [ByteArray.size_append]
          rw [hw2] at hl2
          have hl3 : (ws.getD (ws.length - 1) tWrd.z).tail.size ≤ 65536 * i := hl2
          have ht3 : (T.getD i tTok.z).text.size ≤ s.size := ht1
          omega
      · rw [← hab, hdrop hil]
        simp only []
        rw [absorb, if_neg hk, if_neg hw0]
    all_goals have hie : i = T.length := by omega
    all_goals subst hie
    all_goals rw [List.drop_length] at hab
    all_goals have hab : (ld, ws) = absorb (.empty, []) T := by rw [← hab]; rfl
    all_goals rw [← hab] at hf hm
    · rw [show wordsL s = tupL [.str .empty, tWrd.L [], .int .i64 1] by unfold wordsL; rw [hm (by simp only []; omega)]]
      exact Run.leave (ts := [2,3,4]) (.inr ⟨_, rfl⟩) rfl Tryz.func70 rfl (resT ⟨Le.refl _, Le.nils _ _, Le.refl _, trivial⟩)
    · rw [show wordsL s = tupL [.str ld, tWrd.L ws, .int .i64 0] by unfold wordsL; rw [hf (by simp only []; omega)]]
      exact Run.leave (ts := [2,3,4]) (.inr ⟨_, rfl⟩) rfl Tryz.func70 rfl (resT ⟨Le.refl _, Le.refl _, Le.refl _, trivial⟩)
  · exact absurd rfl hb
theorem words15_fn (s : ByteArray) : Fn Tryz.prog 53 [.str s] (wordsL s) := by
  refine Fn.of Tryz.f53 _ Tryz.func53 rfl (by decide) (by show 1 ≤ _; decide) tbOk 93 rfl fun S w0 gl => ?_
  refine Run.go ?_; (conv => whnf); repeat' (first | ((with_reducible refine Know.mk fun _ => ?_); conv => whnf) | ((with_reducible refine Need.mk ?_ ?_); exact nd; conv => whnf) | ((with_reducible first | refine Both.mk ?_ ?_ | refine Any.mk fun b hb => ?_ | refine AskB.dec (fun hb => ?_) (fun hb => ?_) | refine AskB.ndec (fun hb => ?_) (fun hb => ?_) | refine AskB.mk (fun hb => ?_) (fun hb => ?_)) <;> conv => whnf) | ((with_reducible first | refine Run.drawX rfl (by decide +kernel) ?_ | refine Run.drawT rfl (by decide +kernel) ?_ | refine Run.drawW rfl (by decide +kernel) ?_); conv => whnf) | fail)
  refine Run.callBX (tokens31_fn s) rfl rfl ⟨Le.refl _, trivial⟩ rfl rfl rfl ?_
  by_cases hbig : 65536 < s.size
  · have hc : codeT s = 1 := by unfold codeT; rw [if_pos hbig]
    rw [hc]
    (conv => whnf); repeat' (first | ((with_reducible refine Know.mk fun _ => ?_); conv => whnf) | ((with_reducible refine Need.mk ?_ ?_); exact nd; conv => whnf) | ((with_reducible first | refine Both.mk ?_ ?_ | refine Any.mk fun b hb => ?_ | refine AskB.dec (fun hb => ?_) (fun hb => ?_) | refine AskB.ndec (fun hb => ?_) (fun hb => ?_) | refine AskB.mk (fun hb => ?_) (fun hb => ?_)) <;> conv => whnf) | ((with_reducible first | refine Run.drawX rfl (by decide +kernel) ?_ | refine Run.drawT rfl (by decide +kernel) ?_ | refine Run.drawW rfl (by decide +kernel) ?_); conv => whnf) | fail)
    · exact absurd hb (by decide)
    · rw [show wordsL s = tupL [.str .empty, tWrd.L [], .int .i64 1] by unfold wordsL; rw [wordsOf_long hbig]]
      exact Run.leave (ts := [2,3,4]) (.inr ⟨_, rfl⟩) rfl Tryz.func53 rfl (resT ⟨Le.refl _, Le.nils _ _, Le.refl _, trivial⟩)
  have hc : codeT s = 0 := by unfold codeT; rw [if_neg hbig]
  have hT0 : toksOf s = toks s 0 (cells s 0) 0 := by unfold toksOf; rw [if_neg hbig]
  obtain ⟨hTl, hTs⟩ := toks_small s (cells s 0) 0
  have hcg := toks_contig s 0
  rw [← hT0] at hTl hTs hcg
  rw [posAt_zero] at hcg
  have hcl := cells_len s 0
  have hf := wordsOf_fit (s := s) hbig
  have hm := wordsOf_many (s := s) hbig
  rw [hc]
  generalize hT : toksOf s = T at *
  rw [specW_cut hcg] at hf hm
  (conv => whnf); repeat' (first | ((with_reducible refine Know.mk fun _ => ?_); conv => whnf) | ((with_reducible refine Need.mk ?_ ?_); exact nd; conv => whnf) | ((with_reducible first | refine Both.mk ?_ ?_ | refine Any.mk fun b hb => ?_ | refine AskB.dec (fun hb => ?_) (fun hb => ?_) | refine AskB.ndec (fun hb => ?_) (fun hb => ?_) | refine AskB.mk (fun hb => ?_) (fun hb => ?_)) <;> conv => whnf) | ((with_reducible first | refine Run.drawX rfl (by decide +kernel) ?_ | refine Run.drawT rfl (by decide +kernel) ?_ | refine Run.drawW rfl (by decide +kernel) ?_); conv => whnf) | fail)
  · refine Run.holdNil 7 1000 3 1 (fun _ _ => .u) (by rfl) ?_
    refine Run.holdNil 8 1001 3 1 (fun _ _ => .u) (by rfl) ?_
    refine Run.loop [0, 21, 22] (fun (i : Nat) => [(7, .row 1000), (8, .row 1001), (23, .int .i64 (i : Int))]) (fun i => [(1000, tI.R 3 (startsI (T.take i))), (1001, tI.R 3 (endsI (T.take i)))])
      (fun i => i ≤ T.length) (fun i => T.length - i) 0 (Nat.zero_le _) ⟨Le.refl _, Le.refl _, Le.refl _, trivial⟩ ⟨⟨rfl, rfl, rfl, fun i j hi => absurd hi (Nat.not_lt_zero _)⟩, ⟨rfl, rfl, rfl, fun i j hi => absurd hi (Nat.not_lt_zero _)⟩, trivial⟩ ?_
    intro i hi IH
    have hle := startsI_len (T.take i)
    rw [List.length_take] at hle
    have hat : i < T.length → (T.getD (↑i : Int).toNat tTok.z).at' = (T.getD i tTok.z).at' ∧ 0 ≤ (T.getD i tTok.z).at' ∧ (T.getD i tTok.z).at' + ((T.getD i tTok.z).text.size : Int) ≤ s.size := fun h => ⟨rfl, by
      have := hcg.mem (T.getD i tTok.z) (by rw [List.getD, List.getElem?_eq_getElem h]; exact List.getElem_mem h)
      omega⟩
    have hstk := fun h => startsI_take T i h
    have hw1 : IntKind.i64.wrap ((i : Int) + 1) = ((i + 1 : Nat) : Int) := wrap64 (by omega) (by omega)
    refine Run.go ?_; (conv => whnf); repeat' (first | ((with_reducible refine Know.mk fun _ => ?_); conv => whnf) | ((with_reducible refine Need.mk ?_ ?_); exact nd; conv => whnf) | ((with_reducible first | refine Both.mk ?_ ?_ | refine Any.mk fun b hb => ?_ | refine AskB.dec (fun hb => ?_) (fun hb => ?_) | refine AskB.ndec (fun hb => ?_) (fun hb => ?_) | refine AskB.mk (fun hb => ?_) (fun hb => ?_)) <;> conv => whnf) | ((with_reducible first | refine Run.drawX rfl (by decide +kernel) ?_ | refine Run.drawT rfl (by decide +kernel) ?_ | refine Run.drawW rfl (by decide +kernel) ?_); conv => whnf) | fail)
    · have hil : i < T.length := by omega
      have hk : (T.getD i tTok.z).kind = 1 := by assumption
      obtain ⟨a1, a2, a3⟩ := hat hil
      obtain ⟨t1, t2⟩ := hstk hil
      rw [if_pos hk] at t1 t2
      refine Run.hold (z := 34) 7 1000 (by rfl) (by rfl) (by rfl) ?_
      refine Run.hold (z := 43) 8 1001 (by rfl) (by rfl) (by rfl) ?_
      refine Run.to _ _ ?_ ?_ (IH (i + 1) (by omega) (by omega))
      · exact ⟨Le.refl _, Le.refl _, Le.refl _, Le.refl _, Le.refl _, Le.int hw1, trivial⟩
      · refine ⟨?_, ?_, trivial⟩
        · rw [t1]
          refine tI.push 3 _ _ _ (fun j hj => ?_)
          match j, hj with
          | 0, _ => exact Le.refl _
        · rw [t2]
          refine tI.push 3 _ _ _ (fun j hj => ?_)
          match j, hj with
          | 0, _ => exact Le.int (wrap64 (x := (T.getD i tTok.z).at' + ((T.getD i tTok.z).text.size : Int)) (by omega) (by omega))
    · have hil : i < T.length := by omega
      have hk : ¬ (T.getD i tTok.z).kind = 1 := by assumption
      obtain ⟨t1, t2⟩ := hstk hil
      rw [if_neg hk, List.append_nil] at t1 t2
      refine Run.to _ _ ?_ ?_ (IH (i + 1) (by omega) (by omega))
      · exact ⟨Le.refl _, Le.refl _, Le.refl _, Le.refl _, Le.refl _, Le.int hw1, trivial⟩
      · refine ⟨?_, ?_, trivial⟩
        · rw [t1]; exact MOle.refl _
        · rw [t2]; exact MOle.refl _
    all_goals have hie : i = T.length := by omega
    all_goals subst hie
    all_goals rw [List.take_length] at *
    all_goals have hcw := cutW_len s (startsI T) (endsI T) hle.2
    · rw [show wordsL s = tupL [.str .empty, tWrd.L [], .int .i64 1] by unfold wordsL; rw [hm (by simp only []; omega)]]
      exact Run.leave (ts := [2,3,4]) (.inr ⟨_, rfl⟩) rfl Tryz.func53 rfl (resT ⟨Le.refl _, Le.nils _ _, Le.refl _, trivial⟩)
    rw [show wordsL s = tupL [.str (s.extract 0 (nextS s T).toNat), tWrd.L (cutW s (startsI T) (endsI T)), .int .i64 0] by unfold wordsL; rw [hf (by simp only []; omega)]]
    have hso := hcg.sorted
    have hnx := hcg.next
    have hnx0 : (startsI T ++ [(s.size : Int)]).getD 0 0 = nextS s T := by unfold nextS; cases startsI T <;> rfl
    have hcg2 := cutW_get s (startsI T) (endsI T)
    have hnx1 : 0 ≤ (startsI T ++ [(s.size : Int)]).getD (Int.toNat 0) tI.z ∧ (startsI T ++ [(s.size : Int)]).getD (Int.toNat 0) tI.z ≤ s.size := by
      rw [show (startsI T ++ [(s.size : Int)]).getD (Int.toNat 0) tI.z = nextS s T from hnx0]; omega
    generalize startsI T = st at *
    generalize endsI T = en at *
    generalize cutW s st en = W at *
    clear hf hm hstk
    refine Run.hold (z := 52) 7 1000 (by rfl) (by rfl) (by rfl) ?_
    refine Run.loop [0, 7, 8, 11, 57] (fun (i : Nat) => [(58, .int .i64 (i : Int))]) (fun i => [(55, tWrd.R 50 (part W tWrd.z i)), (1000, tI.R 3 (st ++ [(s.size : Int)])), (1001, tI.R 3 en)])
      (fun i => i ≤ st.length) (fun i => st.length - i) 0 (Nat.zero_le _) ⟨Le.refl _, trivial⟩ ⟨?_, ?_, MOle.refl _, trivial⟩ ?_
    · refine ⟨rfl, rfl, by rw [part_len _ _ _ (Nat.zero_le _)]; omega, fun i j hi hj => ?_⟩
      unfold Ty.G
      have hiW : i < W.length := by omega
      rw [part_none, show (List.replicate W.length tWrd.z).getD i tWrd.z = tWrd.z by simp [List.getD, hiW]]
      match j, hj with
      | 0, _ => exact Le.refl _
      | 1, _ => exact Le.refl _
    · refine tI.push 3 _ _ _ (fun j hj => ?_)
      match j, hj with
      | 0, _ => exact Le.refl _
    intro i hi2 IH2
    have hpl := part_len W tWrd.z i (by omega)
    have hw2 : IntKind.i64.wrap ((i : Int) + 1) = ((i + 1 : Nat) : Int) := wrap64 (by omega) (by omega)
    have ha1 : i < st.length → (st ++ [(s.size : Int)]).getD i 0 = st.getD i 0 := fun h => by simp [List.getD, List.getElem?_append_left h]
    have hb1 : i < st.length → 0 ≤ (st ++ [(s.size : Int)]).getD (↑i : Int).toNat tI.z ∧ (st ++ [(s.size : Int)]).getD (↑i : Int).toNat tI.z ≤ en.getD (↑i : Int).toNat tI.z ∧ en.getD (↑i : Int).toNat tI.z ≤ (st ++ [(s.size : Int)]).getD (IntKind.i64.wrap (↑i + 1)).toNat tI.z ∧ (st ++ [(s.size : Int)]).getD (IntKind.i64.wrap (↑i + 1)).toNat tI.z ≤ s.size := fun h => by
      obtain ⟨q1, q2, q3, q4⟩ := hso i h
      rw [hw2]
      refine ⟨?_, ?_, q3, q4⟩
      · show 0 ≤ (st ++ [(s.size : Int)]).getD i 0
        rw [ha1 h]; exact q1
      · show (st ++ [(s.size : Int)]).getD i 0 ≤ _
        rw [ha1 h]; exact q2
    have hsl : (st ++ [(s.size : Int)]).length = st.length + 1 := by simp
    refine Run.go ?_; (conv => whnf); repeat' (first | ((with_reducible refine Know.mk fun _ => ?_); conv => whnf) | ((with_reducible refine Need.mk ?_ ?_); exact nd; conv => whnf) | ((with_reducible first | refine Both.mk ?_ ?_ | refine Any.mk fun b hb => ?_ | refine AskB.dec (fun hb => ?_) (fun hb => ?_) | refine AskB.ndec (fun hb => ?_) (fun hb => ?_) | refine AskB.mk (fun hb => ?_) (fun hb => ?_)) <;> conv => whnf) | ((with_reducible first | refine Run.drawX rfl (by decide +kernel) ?_ | refine Run.drawT rfl (by decide +kernel) ?_ | refine Run.drawW rfl (by decide +kernel) ?_); conv => whnf) | fail)
    · have hil : i < st.length := by omega
      refine Run.to _ _ ?_ ?_ (IH2 (i + 1) (by omega) (by omega))
      · exact ⟨Le.refl _, Le.refl _, Le.refl _, Le.refl _, Le.refl _, Le.int hw2, trivial⟩
      · refine ⟨?_, MOle.refl _, MOle.refl _, trivial⟩
        rw [← part_set W tWrd.z i (by omega)]
        refine tWrd.set 50 (part W tWrd.z i) i (W.getD i tWrd.z) (by omega) _ rfl (fun j y hy => ?_)
        rw [hcg2 i hle.2 hil]
        match j, hy with
        | 0, hy =>
          injection hy with hy
          rw [← hy]
          exact Le.str (by
            show s.extract ((st ++ [(s.size : Int)]).getD i 0).toNat (en.getD i 0).toNat = _
            rw [ha1 hil])
        | 1, hy =>
          injection hy with hy
          rw [← hy]
          exact Le.str (by
            show s.extract (en.getD i 0).toNat ((st ++ [(s.size : Int)]).getD (IntKind.i64.wrap (↑i + 1)).toNat 0).toNat = _
            rw [hw2]; rfl)
    · have hie : i = W.length := by omega
      rw [hie, part_all]
      exact Run.leave (ts := [2,3,4]) (.inr ⟨_, rfl⟩) rfl Tryz.func53 rfl (resT ⟨Le.str (by show s.extract 0 ((st ++ [(s.size : Int)]).getD 0 0).toNat = _; rw [hnx0]), Le.refl _, Le.refl _, trivial⟩)
  · exact absurd rfl hb
end Go.Proofs.YteklnpgiloebcaaGreatDoor.V

namespace Go.Proofs.YteklnpgiloebcaaGreatDoor.V
set_option linter.unusedVariables false
set_option linter.unusedSimpArgs false
open Go
/-- A list's words and what stands between, on end. -/
def catW : List Wrd → ByteArray
  | [] => .empty
  | w :: l => w.text ++ (w.tail ++ catW l)
theorem catW_mem {l : List Wrd} {w : Wrd} (h : w ∈ l) : w.text.size + w.tail.size ≤ (catW l).size := by
  induction l with
  | nil => cases h
  | cons v l ih =>
    simp only [catW, ByteArray.size_append]
    rcases List.mem_cons.mp h with rfl | h
    · omega
    · have := ih h; omega
end Go.Proofs.YteklnpgiloebcaaGreatDoor.V

namespace Go.Proofs.YteklnpgiloebcaaGreatDoor.V
set_option linter.unusedVariables false
set_option linter.unusedSimpArgs false
open Go
set_option maxRecDepth 100000
deriving instance DecidableEq for Tok
end Go.Proofs.YteklnpgiloebcaaGreatDoor.V

namespace Go.Proofs.YteklnpgiloebcaaGreatDoor.V
set_option linter.unusedVariables false
set_option linter.unusedSimpArgs false
open Go Go.Proofs Go.RowKit
set_option maxRecDepth 100000
set_option maxHeartbeats 2000000
open Go Go.Proofs Go.Proofs.YteklnpgiloebcaaGreatDoor.V
theorem same17_fn (a b : List Wrd) (ha : a.length ≤ 100000) : Fn Tryz.prog 72 [tWrd.L a, tWrd.L b] (.bool (decide (a = b))) := by
  refine Fn.of Tryz.f72 _ Tryz.func72 rfl (by decide) (by show 2 ≤ _; decide) tbOk 26 rfl fun S w0 gl => ?_
  refine Run.go ?_; (conv => whnf); repeat' (first | ((with_reducible refine Know.mk fun _ => ?_); conv => whnf) | ((with_reducible refine Need.mk ?_ ?_); exact nd; conv => whnf) | ((with_reducible first | refine Both.mk ?_ ?_ | refine Any.mk fun b hb => ?_ | refine AskB.dec (fun hb => ?_) (fun hb => ?_) | refine AskB.ndec (fun hb => ?_) (fun hb => ?_) | refine AskB.mk (fun hb => ?_) (fun hb => ?_)) <;> conv => whnf) | ((with_reducible first | refine Run.drawX rfl (by decide +kernel) ?_ | refine Run.drawT rfl (by decide +kernel) ?_ | refine Run.drawW rfl (by decide +kernel) ?_); conv => whnf) | fail)
  · have hab : a.length = b.length := by omega
    refine Run.loop [0, 1] (fun (i : Nat) => [(5, .int .i64 (i : Int))]) (fun i => []) (fun i => i ≤ a.length ∧ a.take i = b.take i) (fun i => a.length - i) 0 ⟨Nat.zero_le _, rfl⟩ ⟨Le.refl _, trivial⟩ trivial ?_
    intro i ⟨hi, hc⟩ IH
    have hw : IntKind.i64.wrap ((i : Int) + 1) = ((i + 1 : Nat) : Int) := wrap64 (by omega) (by omega)
    have hat : i < a.length → a.take (i + 1) = a.take i ++ [a.getD i tWrd.z] ∧ b.take (i + 1) = b.take i ++ [b.getD i tWrd.z] := fun h => by
      rw [List.take_succ_eq_append_getElem h, List.take_succ_eq_append_getElem (hab ▸ h), List.getD, List.getD, List.getElem?_eq_getElem h, List.getElem?_eq_getElem (hab ▸ h)]
      exact ⟨rfl, rfl⟩
    refine Run.go ?_; (conv => whnf); repeat' (first | ((with_reducible refine Know.mk fun _ => ?_); conv => whnf) | ((with_reducible refine Need.mk ?_ ?_); exact nd; conv => whnf) | ((with_reducible first | refine Both.mk ?_ ?_ | refine Any.mk fun b hb => ?_ | refine AskB.dec (fun hb => ?_) (fun hb => ?_) | refine AskB.ndec (fun hb => ?_) (fun hb => ?_) | refine AskB.mk (fun hb => ?_) (fun hb => ?_)) <;> conv => whnf) | ((with_reducible first | refine Run.drawX rfl (by decide +kernel) ?_ | refine Run.drawT rfl (by decide +kernel) ?_ | refine Run.drawW rfl (by decide +kernel) ?_); conv => whnf) | fail)
    · refine Run.leave (ts := [4]) (.inr ⟨_, rfl⟩) rfl Tryz.func72 rfl (Le.ff.trans (Le.bool (decide_eq_false (fun h => ?_)).symm))
      subst h
      simp at hb
    · have hil : i < a.length := by omega
      obtain ⟨t1, t2⟩ := hat hil
      have he : a.getD i tWrd.z = b.getD i tWrd.z := by
        have hb2 : (decide ((a.getD i tWrd.z).text = (b.getD i tWrd.z).text) && (decide ((a.getD i tWrd.z).tail = (b.getD i tWrd.z).tail) && true)) = true := by simpa using hb
        simp only [Bool.and_eq_true, decide_eq_true_eq] at hb2
        generalize a.getD i tWrd.z = x at *
        generalize b.getD i tWrd.z = y at *
        obtain ⟨x1, x2⟩ := x
        obtain ⟨y1, y2⟩ := y
        simp only at hb2
        rw [hb2.1, hb2.2.1]
      refine Run.to _ _ ?_ ?_ (IH (i + 1) (by omega) ⟨by omega, ?_⟩)
      · exact ⟨Le.refl _, Le.refl _, Le.int hw, trivial⟩
      · exact trivial
      · rw [t1, t2, hc, he]
    · have hie : i = a.length := by omega
      refine Run.leave (ts := [4]) (.inr ⟨_, rfl⟩) rfl Tryz.func72 rfl (Le.tt.trans (Le.bool (decide_eq_true ?_).symm))
      rw [hie, List.take_length, hab, List.take_length] at hc
      exact hc
  · refine Run.leave (ts := [4]) (.inr ⟨_, rfl⟩) rfl Tryz.func72 rfl (Le.ff.trans (Le.bool (decide_eq_false (fun h => ?_)).symm))
    rw [h] at hb; exact hb rfl
theorem wordsOf_few (s : ByteArray) : (wordsOf s).1.2.length ≤ 1024 := by
  by_cases h : 65536 < s.size
  · rw [wordsOf_long h]; simp
  · by_cases h2 : 1024 < (specW (toksOf s)).2.length
    · rw [wordsOf_many h h2]; simp
    · rw [wordsOf_fit h h2]; simp only []; omega
end Go.Proofs.YteklnpgiloebcaaGreatDoor.V

namespace Go.Proofs.YteklnpgiloebcaaGreatDoor.V
set_option linter.unusedVariables false
set_option linter.unusedSimpArgs false
open Go Go.Proofs Go.RowKit
set_option maxRecDepth 100000
set_option maxHeartbeats 2000000
open Go Go.Proofs Go.Proofs.YteklnpgiloebcaaGreatDoor.V
theorem ws5 {N : Nat} {w0 : World} {S : Nat → Prop} {gl : GlobOk S w0} {f : FuncId} {R : Ending → World → Prop} {ops : Array Oper} {i : Nat} {rest : List Nat} {k : List Item} {env : Env} {h : Heap} {o : Oper} {x y : Operand}
    (p : AV) (t s : ByteArray) (ho : ops.toList[i]? = some o) (hc : calls? o = some (30, [x, y])) (hd : okD N o.dst = true) (hr : ready env ops o = true) (hx : ev (scrubE 900 env) x = .box 5 0) (hy : ev (scrubE 900 env) y = .str s)
    (hs : t.size + s.size ≤ 140737488355328) (hp : p = .nilp ∨ p = .box 5 0)
    (next : Run ⟨Tryz.prog, TB, tbOk, N, w0, S, gl, f, R⟩ (.inRegion ops rest :: k) (putE (envW 90 env) o.dst .u) (bldr 77 5 5 90 (heapW 90 h) (.box 5 0) (t ++ s))) :
    Run ⟨Tryz.prog, TB, tbOk, N, w0, S, gl, f, R⟩ (.inRegion ops (i :: rest) :: k) env (bldr 77 5 5 90 h p t) := by
  refine Run.inline 900 Tryz.f30 _ 19 ho hc Tryz.func30 rfl (by decide) rfl (by show 2 ≤ 19; decide) hd hr (fun a hsz hdf => ?_)
  simp only [List.map, hx, hy]
  have fin : ∀ (E : Env) (H : Heap) (X : AV), (∀ i, E i = scrub 14 (scrub 901 (scrub 900 (env i)))) → (∀ id, Nat.beq id 5 = false → Nat.beq id 90 = false → Nat.beq id 14 = false → Nat.beq id 901 = false → Nat.beq id 900 = false → H id = scrubM 90 (scrubM 14 (scrubM 901 (scrubM 900 (h id))))) →
      MOle (H 5) (.box 77 [.box 5 0, .row 90]) → MOle (H 90) (.row 5 1 (t ++ s).size (bytesG (t ++ s))) → Run ⟨Tryz.prog, TB, tbOk, N, w0, S, gl, f, R⟩ (.inRegion ops rest :: k) (scrubE 90 (putE E o.dst X)) H := by
    intro E H X hE hH h5 h90
    refine Run.weaken (fun i => ?_) (fun id => ?_) next
    · cases hdst : o.dst with
      | none => show Le (scrub 90 (E i)) _; rw [hE]; exact Le.refl _
      | some d =>
        show Le (scrub 90 (upd E d X i)) (upd (envW 90 env) d .u i)
        by_cases e : i = d
        · subst e; rw [upd_same, upd_same]; exact Le.u _
        · rw [upd_other _ _ e, upd_other _ _ e, hE]; exact Le.refl _
    · unfold bldr heapW
      cases e5 : Nat.beq id 5 with
      | true => have := Nat.eq_of_beq_eq_true e5; subst this; exact h5
      | false =>
      cases e90 : Nat.beq id 90 with
      | true => have := Nat.eq_of_beq_eq_true e90; subst this; exact h90
      | false =>
      cases e900 : Nat.beq id 900 with
      | true => simp only [upd, e5, e90, e900, cond_true, cond_false]; exact mole_dead _
      | false =>
      cases e901 : Nat.beq id 901 with
      | true => simp only [upd, e5, e90, e900, e901, cond_true, cond_false]; exact mole_dead _
      | false =>
      cases e14 : Nat.beq id 14 with
      | true => simp only [upd, e5, e90, e900, e901, e14, cond_true, cond_false]; exact mole_dead _
      | false =>
        rw [hH id e5 e90 e14 e901 e900]
        simp only [upd, e5, e90, e900, e901, e14, cond_true, cond_false]
        exact MOle.refl _
  rcases hp with rfl | rfl
  · refine Run.go ?_; (conv => whnf); repeat' (first | ((with_reducible refine Know.mk fun _ => ?_); conv => whnf) | ((with_reducible refine Need.mk ?_ ?_); exact nd; conv => whnf) | ((with_reducible first | refine Both.mk ?_ ?_ | refine Any.mk fun b hb => ?_ | refine AskB.dec (fun hb => ?_) (fun hb => ?_) | refine AskB.ndec (fun hb => ?_) (fun hb => ?_) | refine AskB.mk (fun hb => ?_) (fun hb => ?_)) <;> conv => whnf) | ((with_reducible first | refine Run.drawX rfl (by decide +kernel) ?_ | refine Run.drawT rfl (by decide +kernel) ?_ | refine Run.drawW rfl (by decide +kernel) ?_); conv => whnf) | fail)
    refine Run.inline 901 Tryz.f56 _ 20 rfl rfl Tryz.func56 rfl (by decide) rfl (by decide) rfl rfl (fun a2 hsz2 hdf2 => ?_)
    refine Run.go ?_; (conv => whnf); repeat' (first | ((with_reducible refine Know.mk fun _ => ?_); conv => whnf) | ((with_reducible refine Need.mk ?_ ?_); exact nd; conv => whnf) | ((with_reducible first | refine Both.mk ?_ ?_ | refine Any.mk fun b hb => ?_ | refine AskB.dec (fun hb => ?_) (fun hb => ?_) | refine AskB.ndec (fun hb => ?_) (fun hb => ?_) | refine AskB.mk (fun hb => ?_) (fun hb => ?_)) <;> conv => whnf) | ((with_reducible first | refine Run.drawX rfl (by decide +kernel) ?_ | refine Run.drawT rfl (by decide +kernel) ?_ | refine Run.drawW rfl (by decide +kernel) ?_); conv => whnf) | fail)
    refine Run.toUnsafe (id := 5) (l := [.nilp, .row 90]) (e := 77) (t := 77) (src := 74) (dst := 127) (x := .tmp 8) rfl rfl rfl rfl rfl rfl (by decide) (by kernel_rfl) (by kernel_rfl) (j := (Tryz.prog.info? 77).get (by kernel_rfl)) (by kernel_rfl) (by decide +kernel) ?_
    refine Run.noEscape (f := 75) (x := .tmp 9) rfl rfl rfl rfl Tryz.func75 (by kernel_rfl) (by kernel_rfl) (by kernel_rfl) (by kernel_rfl) ?_
    refine Run.fromUnsafe (id := 5) (l := [.nilp, .row 90]) (e := 77) (u := 77) (src := 127) (dst := 74) (x := .tmp 10) rfl rfl rfl rfl rfl rfl (by kernel_rfl) (by kernel_rfl) (j := (Tryz.prog.info? 77).get (by kernel_rfl)) (by kernel_rfl) (by kernel_rfl) ?_
    refine Run.go ?_; (conv => whnf); repeat' (first | ((with_reducible refine Know.mk fun _ => ?_); conv => whnf) | ((with_reducible refine Need.mk ?_ ?_); exact nd; conv => whnf) | ((with_reducible first | refine Both.mk ?_ ?_ | refine Any.mk fun b hb => ?_ | refine AskB.dec (fun hb => ?_) (fun hb => ?_) | refine AskB.ndec (fun hb => ?_) (fun hb => ?_) | refine AskB.mk (fun hb => ?_) (fun hb => ?_)) <;> conv => whnf) | ((with_reducible first | refine Run.drawX rfl (by decide +kernel) ?_ | refine Run.drawT rfl (by decide +kernel) ?_ | refine Run.drawW rfl (by decide +kernel) ?_); conv => whnf) | fail)
    refine Run.back 901 (ts := []) hsz2 hdf2 (.inl rfl) (by rfl) Tryz.func56 rfl ?_
    refine Run.go ?_; (conv => whnf); repeat' (first | ((with_reducible refine Know.mk fun _ => ?_); conv => whnf) | ((with_reducible refine Need.mk ?_ ?_); exact nd; conv => whnf) | ((with_reducible first | refine Both.mk ?_ ?_ | refine Any.mk fun b hb => ?_ | refine AskB.dec (fun hb => ?_) (fun hb => ?_) | refine AskB.ndec (fun hb => ?_) (fun hb => ?_) | refine AskB.mk (fun hb => ?_) (fun hb => ?_)) <;> conv => whnf) | ((with_reducible first | refine Run.drawX rfl (by decide +kernel) ?_ | refine Run.drawT rfl (by decide +kernel) ?_ | refine Run.drawW rfl (by decide +kernel) ?_); conv => whnf) | fail)
    refine Run.back 900 (ts := [4, 5]) hsz hdf (.inr ⟨_, rfl⟩) (by rfl) Tryz.func30 rfl ?_
    refine Run.holdBoxRow 5 1 90 14 (by rfl) (by rfl) (by rfl) rfl rfl rfl ?_
    refine fin _ _ _ (fun i => rfl) (fun id e5 e90 e14 e901 e900 => ?_) (MOle.refl _) (bytesG_join 5 t s)
    simp only [upd, scrubH, scrubM, bldr, e5, e90, e14, e901, e900, cond_false]
  · refine Run.go ?_; (conv => whnf); repeat' (first | ((with_reducible refine Know.mk fun _ => ?_); conv => whnf) | ((with_reducible refine Need.mk ?_ ?_); exact nd; conv => whnf) | ((with_reducible first | refine Both.mk ?_ ?_ | refine Any.mk fun b hb => ?_ | refine AskB.dec (fun hb => ?_) (fun hb => ?_) | refine AskB.ndec (fun hb => ?_) (fun hb => ?_) | refine AskB.mk (fun hb => ?_) (fun hb => ?_)) <;> conv => whnf) | ((with_reducible first | refine Run.drawX rfl (by decide +kernel) ?_ | refine Run.drawT rfl (by decide +kernel) ?_ | refine Run.drawW rfl (by decide +kernel) ?_); conv => whnf) | fail)
    refine Run.inline 901 Tryz.f56 _ 20 rfl rfl Tryz.func56 rfl (by decide) rfl (by decide) rfl rfl (fun a2 hsz2 hdf2 => ?_)
    refine Run.go ?_; (conv => whnf); repeat' (first | ((with_reducible refine Know.mk fun _ => ?_); conv => whnf) | ((with_reducible refine Need.mk ?_ ?_); exact nd; conv => whnf) | ((with_reducible first | refine Both.mk ?_ ?_ | refine Any.mk fun b hb => ?_ | refine AskB.dec (fun hb => ?_) (fun hb => ?_) | refine AskB.ndec (fun hb => ?_) (fun hb => ?_) | refine AskB.mk (fun hb => ?_) (fun hb => ?_)) <;> conv => whnf) | ((with_reducible first | refine Run.drawX rfl (by decide +kernel) ?_ | refine Run.drawT rfl (by decide +kernel) ?_ | refine Run.drawW rfl (by decide +kernel) ?_); conv => whnf) | fail)
    refine Run.back 901 (ts := []) hsz2 hdf2 (.inl rfl) (by rfl) Tryz.func56 rfl ?_
    refine Run.go ?_; (conv => whnf); repeat' (first | ((with_reducible refine Know.mk fun _ => ?_); conv => whnf) | ((with_reducible refine Need.mk ?_ ?_); exact nd; conv => whnf) | ((with_reducible first | refine Both.mk ?_ ?_ | refine Any.mk fun b hb => ?_ | refine AskB.dec (fun hb => ?_) (fun hb => ?_) | refine AskB.ndec (fun hb => ?_) (fun hb => ?_) | refine AskB.mk (fun hb => ?_) (fun hb => ?_)) <;> conv => whnf) | ((with_reducible first | refine Run.drawX rfl (by decide +kernel) ?_ | refine Run.drawT rfl (by decide +kernel) ?_ | refine Run.drawW rfl (by decide +kernel) ?_); conv => whnf) | fail)
    refine Run.back 900 (ts := [4, 5]) hsz hdf (.inr ⟨_, rfl⟩) (by rfl) Tryz.func30 rfl ?_
    refine Run.holdBoxRow 5 1 90 14 (by rfl) (by rfl) (by rfl) rfl rfl rfl ?_
    refine fin _ _ _ (fun i => rfl) (fun id e5 e90 e14 e901 e900 => ?_) (MOle.refl _) (bytesG_join 5 t s)
    simp only [upd, scrubH, scrubM, bldr, e5, e90, e14, e901, e900, cond_false]
theorem bs5 {N : Nat} {w0 : World} {S : Nat → Prop} {gl : GlobOk S w0} {f : FuncId} {R : Ending → World → Prop} {ops : Array Oper} {i : Nat} {rest : List Nat} {k : List Item} {env : Env} {h : Heap} {o : Oper} {x : Operand}
    (p : AV) (t : ByteArray) (ho : ops.toList[i]? = some o) (hc : calls? o = some (33, [x])) (hd : okD N o.dst = true) (hr : ready env ops o = true) (hx : ev (scrubE 900 env) x = .box 5 0)
    (next : Run ⟨Tryz.prog, TB, tbOk, N, w0, S, gl, f, R⟩ (.inRegion ops rest :: k) (putE (scrubE 900 env) o.dst (.str t)) (upd (upd (upd (scrubH 900 h) 900 .dead) 5 .dead) 90 .dead)) :
    Run ⟨Tryz.prog, TB, tbOk, N, w0, S, gl, f, R⟩ (.inRegion ops (i :: rest) :: k) env (bldr 77 5 5 90 h p t) := by
  refine Run.inline 900 Tryz.f33 _ 14 ho hc Tryz.func33 rfl (by decide) rfl (by show 1 ≤ 14; decide) hd hr (fun a hsz hdf => ?_)
  simp only [List.map, hx]
  have fin : ∀ (H : Heap), (∀ id, Nat.beq id 5 = false → Nat.beq id 90 = false → Nat.beq id 900 = false → H id = scrubM 900 (h id)) →
      Run ⟨Tryz.prog, TB, tbOk, N, w0, S, gl, f, R⟩ (.inRegion ops rest :: k) (putE (scrubE 900 env) o.dst (.str t)) H := by
    intro H hH
    refine Run.weaken (fun i => Le.refl _) (fun id => ?_) next
    cases e5 : Nat.beq id 5 with
    | true => simp only [upd, e5, cond_true, cond_false]; cases Nat.beq id 90 <;> exact mole_dead _
    | false =>
    cases e90 : Nat.beq id 90 with
    | true => simp only [upd, e5, e90, cond_true, cond_false]; exact mole_dead _
    | false =>
    cases e900 : Nat.beq id 900 with
    | true => simp only [upd, e5, e90, e900, cond_true, cond_false]; exact mole_dead _
    | false =>
      rw [hH id e5 e90 e900]
      simp only [upd, e5, e90, e900, cond_true, cond_false]
      exact MOle.refl _
  refine Run.go ?_; (conv => whnf); repeat' (first | ((with_reducible refine Know.mk fun _ => ?_); conv => whnf) | ((with_reducible refine Need.mk ?_ ?_); exact nd; conv => whnf) | ((with_reducible first | refine Both.mk ?_ ?_ | refine Any.mk fun b hb => ?_ | refine AskB.dec (fun hb => ?_) (fun hb => ?_) | refine AskB.ndec (fun hb => ?_) (fun hb => ?_) | refine AskB.mk (fun hb => ?_) (fun hb => ?_)) <;> conv => whnf) | ((with_reducible first | refine Run.drawX rfl (by decide +kernel) ?_ | refine Run.drawT rfl (by decide +kernel) ?_ | refine Run.drawW rfl (by decide +kernel) ?_); conv => whnf) | fail)
  · refine Run.unsafeString0 (i := 10) (rest := [11]) (k := [.code .ret]) (x := .tmp 7) (y := .tmp 12) (c := ⟨.builtin .unsafeString, #[.tmp 7, .tmp 12], #[106, 3]⟩) rfl rfl rfl rfl rfl rfl rfl (.inl rfl) (by show AV.int .i64 (t.size : Int) = _; rw [hb]; rfl) ?_
    have ht : t = .empty := by simpa using hb
    refine Run.go ?_; (conv => whnf); repeat' (first | ((with_reducible refine Know.mk fun _ => ?_); conv => whnf) | ((with_reducible refine Need.mk ?_ ?_); exact nd; conv => whnf) | ((with_reducible first | refine Both.mk ?_ ?_ | refine Any.mk fun b hb => ?_ | refine AskB.dec (fun hb => ?_) (fun hb => ?_) | refine AskB.ndec (fun hb => ?_) (fun hb => ?_) | refine AskB.mk (fun hb => ?_) (fun hb => ?_)) <;> conv => whnf) | ((with_reducible first | refine Run.drawX rfl (by decide +kernel) ?_ | refine Run.drawT rfl (by decide +kernel) ?_ | refine Run.drawW rfl (by decide +kernel) ?_); conv => whnf) | fail)
    refine Run.back 900 (ts := [2]) hsz hdf (.inr ⟨_, rfl⟩) (by rfl) Tryz.func33 rfl ?_
    rw [ht] at fin next ⊢
    exact fin _ (fun id e5 e90 e900 => by simp only [upd, scrubH, bldr, e5, e90, e900, cond_false])
  · refine Run.unsafeString (i := 10) (rest := [11]) (k := [.code .ret]) (x := .tmp 7) (y := .tmp 12) (c := ⟨.builtin .unsafeString, #[.tmp 7, .tmp 12], #[106, 3]⟩) t rfl rfl rfl rfl rfl rfl rfl rfl rfl (e := 5) (n := t.size) (q := 90) (get := bytesG t) rfl rfl hb (fun _ _ => rfl) (by kernel_rfl) (by kernel_rfl) ?_
    refine Run.go ?_; (conv => whnf); repeat' (first | ((with_reducible refine Know.mk fun _ => ?_); conv => whnf) | ((with_reducible refine Need.mk ?_ ?_); exact nd; conv => whnf) | ((with_reducible first | refine Both.mk ?_ ?_ | refine Any.mk fun b hb => ?_ | refine AskB.dec (fun hb => ?_) (fun hb => ?_) | refine AskB.ndec (fun hb => ?_) (fun hb => ?_) | refine AskB.mk (fun hb => ?_) (fun hb => ?_)) <;> conv => whnf) | ((with_reducible first | refine Run.drawX rfl (by decide +kernel) ?_ | refine Run.drawT rfl (by decide +kernel) ?_ | refine Run.drawW rfl (by decide +kernel) ?_); conv => whnf) | fail)
    refine Run.back 900 (ts := [2]) hsz hdf (.inr ⟨_, rfl⟩) (by rfl) Tryz.func33 rfl ?_
    exact fin _ (fun id e5 e90 e900 => by simp only [upd, scrubH, bldr, e5, e90, e900, cond_false])
theorem catW_app : ∀ (a b : List Wrd), catW (a ++ b) = catW a ++ catW b
  | [], b => by simp [catW]
  | w :: a, b => by simp [catW, catW_app a b, ByteArray.append_assoc]
theorem catW_take (l : List Wrd) (i : Nat) (h : i < l.length) : catW (l.take (i + 1)) = catW (l.take i) ++ ((l.getD i tWrd.z).text ++ (l.getD i tWrd.z).tail) := by
  rw [List.take_succ_eq_append_getElem h, catW_app, List.getD, List.getElem?_eq_getElem h]
  simp [catW]
theorem catW_takeLe (l : List Wrd) (i : Nat) : (catW (l.take i)).size ≤ (catW l).size := by
  conv => rhs; rw [← List.take_append_drop i l, catW_app, ByteArray.size_append]
  omega
theorem join18_fn (s : ByteArray) (l : List Wrd) (hl : l.length ≤ 1000000000) (hs : s.size + (catW l).size ≤ 1000000000000) : Fn Tryz.prog 54 [.str s, tWrd.L l] (.str (s ++ catW l)) := by
  refine Fn.of Tryz.f54 _ Tryz.func54 rfl (by decide) (by show 2 ≤ _; decide) tbOk 24 rfl fun S w0 gl => ?_
  refine Run.go ?_; (conv => whnf); repeat' (first | ((with_reducible refine Know.mk fun _ => ?_); conv => whnf) | ((with_reducible refine Need.mk ?_ ?_); exact nd; conv => whnf) | ((with_reducible first | refine Both.mk ?_ ?_ | refine Any.mk fun b hb => ?_ | refine AskB.dec (fun hb => ?_) (fun hb => ?_) | refine AskB.ndec (fun hb => ?_) (fun hb => ?_) | refine AskB.mk (fun hb => ?_) (fun hb => ?_)) <;> conv => whnf) | ((with_reducible first | refine Run.drawX rfl (by decide +kernel) ?_ | refine Run.drawT rfl (by decide +kernel) ?_ | refine Run.drawW rfl (by decide +kernel) ?_); conv => whnf) | fail)
  refine Run.holdBoxNil 5 1 90 5 1 (bytesG .empty) rfl rfl rfl rfl ?_
  refine Run.bldr 77 5 5 90 .nilp .empty (MOle.refl _) (MOle.refl _) ?_
  refine ws5 .nilp .empty s rfl rfl rfl rfl rfl rfl (by simp; omega) (.inl rfl) ?_
  refine Run.go ?_; (conv => whnf); repeat' (first | ((with_reducible refine Know.mk fun _ => ?_); conv => whnf) | ((with_reducible refine Need.mk ?_ ?_); exact nd; conv => whnf) | ((with_reducible first | refine Both.mk ?_ ?_ | refine Any.mk fun b hb => ?_ | refine AskB.dec (fun hb => ?_) (fun hb => ?_) | refine AskB.ndec (fun hb => ?_) (fun hb => ?_) | refine AskB.mk (fun hb => ?_) (fun hb => ?_)) <;> conv => whnf) | ((with_reducible first | refine Run.drawX rfl (by decide +kernel) ?_ | refine Run.drawT rfl (by decide +kernel) ?_ | refine Run.drawW rfl (by decide +kernel) ?_); conv => whnf) | fail)
  have hT : ∀ i, (s ++ catW (l.take i)).size ≤ 1000000000000 := fun i => by
    have h1 := catW_takeLe l i
    rw [ByteArray.size_append]; omega
  refine Run.loop [5, 10, 11] (fun (i : Nat) => [(12, .int .i64 (i : Int))]) (fun i => [(5, .box 77 [.box 5 0, .row 90]), (90, .row 5 1 (s ++ catW (l.take i)).size (bytesG (s ++ catW (l.take i))))]) (fun i => i ≤ l.length) (fun i => l.length - i) 0 (Nat.zero_le _) ⟨Le.refl _, trivial⟩ ⟨MOle.refl _, ?_, trivial⟩ ?_
  · have : ByteArray.empty ++ s = s ++ catW (l.take 0) := by simp [catW]
    rw [← this]; exact MOle.refl _
  intro i hi IH
  have hw1 : IntKind.i64.wrap ((i : Int) + 1) = ((i + 1 : Nat) : Int) := wrap64 (by omega) (by omega)
  have hTi := hT i
  refine Run.go ?_; (conv => whnf); repeat' (first | ((with_reducible refine Know.mk fun _ => ?_); conv => whnf) | ((with_reducible refine Need.mk ?_ ?_); exact nd; conv => whnf) | ((with_reducible first | refine Both.mk ?_ ?_ | refine Any.mk fun b hb => ?_ | refine AskB.dec (fun hb => ?_) (fun hb => ?_) | refine AskB.ndec (fun hb => ?_) (fun hb => ?_) | refine AskB.mk (fun hb => ?_) (fun hb => ?_)) <;> conv => whnf) | ((with_reducible first | refine Run.drawX rfl (by decide +kernel) ?_ | refine Run.drawT rfl (by decide +kernel) ?_ | refine Run.drawW rfl (by decide +kernel) ?_); conv => whnf) | fail)
  · have hil : i < l.length := by omega
    have hwi : (l.getD i tWrd.z).text.size + (l.getD i tWrd.z).tail.size ≤ 1000000000000 := by
      have h1 := catW_takeLe l (i + 1)
      rw [catW_take l i hil, ByteArray.size_append, ByteArray.size_append] at h1
      omega
    refine Run.bldr 77 5 5 90 (.box 5 0) (s ++ catW (l.take i)) (MOle.refl _) (MOle.refl _) ?_
    refine ws5 (.box 5 0) _ (l.getD i tWrd.z).text rfl rfl rfl rfl rfl rfl (by omega) (.inr rfl) ?_
    refine Run.tidy [5, 7, 10, 11, 12] [5, 7, 90] ?_; (conv => whnf)
    refine Run.go ?_; (conv => whnf); repeat' (first | ((with_reducible refine Know.mk fun _ => ?_); conv => whnf) | ((with_reducible refine Need.mk ?_ ?_); exact nd; conv => whnf) | ((with_reducible first | refine Both.mk ?_ ?_ | refine Any.mk fun b hb => ?_ | refine AskB.dec (fun hb => ?_) (fun hb => ?_) | refine AskB.ndec (fun hb => ?_) (fun hb => ?_) | refine AskB.mk (fun hb => ?_) (fun hb => ?_)) <;> conv => whnf) | ((with_reducible first | refine Run.drawX rfl (by decide +kernel) ?_ | refine Run.drawT rfl (by decide +kernel) ?_ | refine Run.drawW rfl (by decide +kernel) ?_); conv => whnf) | fail)
    refine Run.bldr 77 5 5 90 (.box 5 0) (s ++ catW (l.take i) ++ (l.getD i tWrd.z).text) (MOle.refl _) (MOle.refl _) ?_
    refine ws5 (.box 5 0) _ (l.getD i tWrd.z).tail rfl rfl rfl rfl rfl rfl (by rw [ByteArray.size_append]; omega) (.inr rfl) ?_
    refine Run.tidy [5, 10, 11, 12] [5, 90] ?_; (conv => whnf)
    refine Run.go ?_; (conv => whnf); repeat' (first | ((with_reducible refine Know.mk fun _ => ?_); conv => whnf) | ((with_reducible refine Need.mk ?_ ?_); exact nd; conv => whnf) | ((with_reducible first | refine Both.mk ?_ ?_ | refine Any.mk fun b hb => ?_ | refine AskB.dec (fun hb => ?_) (fun hb => ?_) | refine AskB.ndec (fun hb => ?_) (fun hb => ?_) | refine AskB.mk (fun hb => ?_) (fun hb => ?_)) <;> conv => whnf) | ((with_reducible first | refine Run.drawX rfl (by decide +kernel) ?_ | refine Run.drawT rfl (by decide +kernel) ?_ | refine Run.drawW rfl (by decide +kernel) ?_); conv => whnf) | fail)
    refine Run.to _ _ ?_ ?_ (IH (i + 1) (by omega) (by omega))
    · exact ⟨Le.refl _, Le.refl _, Le.refl _, Le.int hw1, trivial⟩
    · refine ⟨MOle.refl _, ?_, trivial⟩
      rw [catW_take l i hil]
      simp only [← ByteArray.append_assoc]
      exact MOle.refl _
  · have hie : i = l.length := by omega
    subst hie
    refine Run.bldr 77 5 5 90 (.box 5 0) (s ++ catW (l.take l.length)) (MOle.refl _) (MOle.refl _) ?_
    refine bs5 (.box 5 0) _ rfl rfl rfl rfl rfl ?_
    refine Run.go ?_; (conv => whnf); repeat' (first | ((with_reducible refine Know.mk fun _ => ?_); conv => whnf) | ((with_reducible refine Need.mk ?_ ?_); exact nd; conv => whnf) | ((with_reducible first | refine Both.mk ?_ ?_ | refine Any.mk fun b hb => ?_ | refine AskB.dec (fun hb => ?_) (fun hb => ?_) | refine AskB.ndec (fun hb => ?_) (fun hb => ?_) | refine AskB.mk (fun hb => ?_) (fun hb => ?_)) <;> conv => whnf) | ((with_reducible first | refine Run.drawX rfl (by decide +kernel) ?_ | refine Run.drawT rfl (by decide +kernel) ?_ | refine Run.drawW rfl (by decide +kernel) ?_); conv => whnf) | fail)
    refine Run.leave (ts := [4]) (.inr ⟨_, rfl⟩) rfl Tryz.func54 rfl (Le.str ?_)
    rw [List.take_length]
end Go.Proofs.YteklnpgiloebcaaGreatDoor.V

namespace Go.Proofs.YteklnpgiloebcaaGreatDoor.V
set_option linter.unusedVariables false
set_option linter.unusedSimpArgs false
open Go Go.Proofs Go.RowKit
set_option maxRecDepth 100000
set_option maxHeartbeats 2000000
open Go Go.Proofs Go.Proofs.YteklnpgiloebcaaGreatDoor.V
theorem equal35_fn (a b : List Wrd) (ha : a.length ≤ 100000) : Fn Tryz.prog 55 [tWrd.L a, tWrd.L b] (.bool (decide (a = b))) := by
  refine Fn.of Tryz.f55 _ Tryz.func55 rfl (by decide) (by show 2 ≤ _; decide) tbOk 26 rfl fun S w0 gl => ?_
  refine Run.go ?_; (conv => whnf); repeat' (first | ((with_reducible refine Know.mk fun _ => ?_); conv => whnf) | ((with_reducible refine Need.mk ?_ ?_); exact nd; conv => whnf) | ((with_reducible first | refine Both.mk ?_ ?_ | refine Any.mk fun b hb => ?_ | refine AskB.dec (fun hb => ?_) (fun hb => ?_) | refine AskB.ndec (fun hb => ?_) (fun hb => ?_) | refine AskB.mk (fun hb => ?_) (fun hb => ?_)) <;> conv => whnf) | ((with_reducible first | refine Run.drawX rfl (by decide +kernel) ?_ | refine Run.drawT rfl (by decide +kernel) ?_ | refine Run.drawW rfl (by decide +kernel) ?_); conv => whnf) | fail)
  · have hab : a.length = b.length := by omega
    refine Run.loop [0, 1, 12] (fun (i : Nat) => [(13, .int .i64 (i : Int))]) (fun i => []) (fun i => i ≤ a.length ∧ a.take i = b.take i) (fun i => a.length - i) 0 ⟨Nat.zero_le _, rfl⟩ ⟨Le.refl _, trivial⟩ trivial ?_
    intro i ⟨hi, hc⟩ IH
    have hw : IntKind.i64.wrap ((i : Int) + 1) = ((i + 1 : Nat) : Int) := wrap64 (by omega) (by omega)
    have hat : i < a.length → a.take (i + 1) = a.take i ++ [a.getD i tWrd.z] ∧ b.take (i + 1) = b.take i ++ [b.getD i tWrd.z] := fun h => by
      rw [List.take_succ_eq_append_getElem h, List.take_succ_eq_append_getElem (hab ▸ h), List.getD, List.getD, List.getElem?_eq_getElem h, List.getElem?_eq_getElem (hab ▸ h)]
      exact ⟨rfl, rfl⟩
    refine Run.go ?_; (conv => whnf); repeat' (first | ((with_reducible refine Know.mk fun _ => ?_); conv => whnf) | ((with_reducible refine Need.mk ?_ ?_); exact nd; conv => whnf) | ((with_reducible first | refine Both.mk ?_ ?_ | refine Any.mk fun b hb => ?_ | refine AskB.dec (fun hb => ?_) (fun hb => ?_) | refine AskB.ndec (fun hb => ?_) (fun hb => ?_) | refine AskB.mk (fun hb => ?_) (fun hb => ?_)) <;> conv => whnf) | ((with_reducible first | refine Run.drawX rfl (by decide +kernel) ?_ | refine Run.drawT rfl (by decide +kernel) ?_ | refine Run.drawW rfl (by decide +kernel) ?_); conv => whnf) | fail)
    · refine Run.leave (ts := [4]) (.inr ⟨_, rfl⟩) rfl Tryz.func55 rfl (Le.ff.trans (Le.bool (decide_eq_false (fun h => ?_)).symm))
      subst h
      simp at hb
    · have hil : i < a.length := by omega
      obtain ⟨t1, t2⟩ := hat hil
      have he : a.getD i tWrd.z = b.getD i tWrd.z := by
        have hb2 : (decide ((a.getD i tWrd.z).text = (b.getD i tWrd.z).text) && (decide ((a.getD i tWrd.z).tail = (b.getD i tWrd.z).tail) && true)) = true := by simpa using hb
        simp only [Bool.and_eq_true, decide_eq_true_eq] at hb2
        generalize a.getD i tWrd.z = x at *
        generalize b.getD i tWrd.z = y at *
        obtain ⟨x1, x2⟩ := x
        obtain ⟨y1, y2⟩ := y
        simp only at hb2
        rw [hb2.1, hb2.2.1]
      refine Run.to _ _ ?_ ?_ (IH (i + 1) (by omega) ⟨by omega, ?_⟩)
      · exact ⟨Le.refl _, Le.refl _, Le.refl _, Le.int hw, trivial⟩
      · exact trivial
      · rw [t1, t2, hc, he]
    · have hie : i = a.length := by omega
      refine Run.leave (ts := [4]) (.inr ⟨_, rfl⟩) rfl Tryz.func55 rfl (Le.tt.trans (Le.bool (decide_eq_true ?_).symm))
      rw [hie, List.take_length, hab, List.take_length] at hc
      exact hc
  · refine Run.leave (ts := [4]) (.inr ⟨_, rfl⟩) rfl Tryz.func55 rfl (Le.ff.trans (Le.bool (decide_eq_false (fun h => ?_)).symm))
    rw [h] at hb; exact hb rfl

/-- What Right answers. -/
noncomputable def rightB (hd : ByteArray) (l : List Wrd) : Bool := decide (wordsOf (hd ++ catW l) = ((hd, l), 0))
def FitW (hd : ByteArray) (l : List Wrd) : Prop := l.length ≤ 1000000000 ∧ hd.size + (catW l).size ≤ 1000000000000
theorem right19_fn (hd : ByteArray) (l : List Wrd) (hf : FitW hd l) : Fn Tryz.prog 29 [.str hd, tWrd.L l] (.bool (rightB hd l)) := by
  refine Fn.of Tryz.f29 _ Tryz.func29 rfl (by decide) (by show 2 ≤ _; decide) tbOk 28 rfl fun S w0 gl => ?_
  refine Run.go ?_; (conv => whnf); repeat' (first | ((with_reducible refine Know.mk fun _ => ?_); conv => whnf) | ((with_reducible refine Need.mk ?_ ?_); exact nd; conv => whnf) | ((with_reducible first | refine Both.mk ?_ ?_ | refine Any.mk fun b hb => ?_ | refine AskB.dec (fun hb => ?_) (fun hb => ?_) | refine AskB.ndec (fun hb => ?_) (fun hb => ?_) | refine AskB.mk (fun hb => ?_) (fun hb => ?_)) <;> conv => whnf) | ((with_reducible first | refine Run.drawX rfl (by decide +kernel) ?_ | refine Run.drawT rfl (by decide +kernel) ?_ | refine Run.drawW rfl (by decide +kernel) ?_); conv => whnf) | fail)
  refine Run.callBX (join18_fn hd l hf.1 hf.2) rfl rfl ⟨Le.refl _, Le.refl _, trivial⟩ rfl rfl rfl ?_
  (conv => whnf); repeat' (first | ((with_reducible refine Know.mk fun _ => ?_); conv => whnf) | ((with_reducible refine Need.mk ?_ ?_); exact nd; conv => whnf) | ((with_reducible first | refine Both.mk ?_ ?_ | refine Any.mk fun b hb => ?_ | refine AskB.dec (fun hb => ?_) (fun hb => ?_) | refine AskB.ndec (fun hb => ?_) (fun hb => ?_) | refine AskB.mk (fun hb => ?_) (fun hb => ?_)) <;> conv => whnf) | ((with_reducible first | refine Run.drawX rfl (by decide +kernel) ?_ | refine Run.drawT rfl (by decide +kernel) ?_ | refine Run.drawW rfl (by decide +kernel) ?_); conv => whnf) | fail)
  refine Run.callBX (words15_fn (hd ++ catW l)) rfl rfl ⟨Le.refl _, trivial⟩ rfl rfl rfl ?_
  have hfew := wordsOf_few (hd ++ catW l)
  unfold rightB
  unfold wordsL
  generalize wordsOf (hd ++ catW l) = W at *
  (conv => whnf); repeat' (first | ((with_reducible refine Know.mk fun _ => ?_); conv => whnf) | ((with_reducible refine Need.mk ?_ ?_); exact nd; conv => whnf) | ((with_reducible first | refine Both.mk ?_ ?_ | refine Any.mk fun b hb => ?_ | refine AskB.dec (fun hb => ?_) (fun hb => ?_) | refine AskB.ndec (fun hb => ?_) (fun hb => ?_) | refine AskB.mk (fun hb => ?_) (fun hb => ?_)) <;> conv => whnf) | ((with_reducible first | refine Run.drawX rfl (by decide +kernel) ?_ | refine Run.drawT rfl (by decide +kernel) ?_ | refine Run.drawW rfl (by decide +kernel) ?_); conv => whnf) | fail)
  · refine Run.callBX (equal35_fn W.1.2 l (by omega)) rfl rfl ⟨Le.refl _, Le.refl _, trivial⟩ rfl rfl rfl ?_
    (conv => whnf); repeat' (first | ((with_reducible refine Know.mk fun _ => ?_); conv => whnf) | ((with_reducible refine Need.mk ?_ ?_); exact nd; conv => whnf) | ((with_reducible first | refine Both.mk ?_ ?_ | refine Any.mk fun b hb => ?_ | refine AskB.dec (fun hb => ?_) (fun hb => ?_) | refine AskB.ndec (fun hb => ?_) (fun hb => ?_) | refine AskB.mk (fun hb => ?_) (fun hb => ?_)) <;> conv => whnf) | ((with_reducible first | refine Run.drawX rfl (by decide +kernel) ?_ | refine Run.drawT rfl (by decide +kernel) ?_ | refine Run.drawW rfl (by decide +kernel) ?_); conv => whnf) | fail)
    refine Run.leave (ts := [4]) (.inr ⟨_, rfl⟩) rfl Tryz.func29 rfl (Le.bool ?_)
    obtain ⟨⟨w1, w2⟩, w3⟩ := W
    simp only at hb
    have h3 : w3 = 0 := by assumption
    have h1 : w1 = hd := by assumption
    subst h3; subst h1; simp
  all_goals
    refine Run.leave (ts := [4]) (.inr ⟨_, rfl⟩) rfl Tryz.func29 rfl (Le.ff.trans (Le.bool ?_))
    symm
    refine decide_eq_false (fun e => ?_)
    subst e
    first | exact absurd rfl hb | exact absurd rfl ‹_›
end Go.Proofs.YteklnpgiloebcaaGreatDoor.V

namespace Go.Proofs.YteklnpgiloebcaaGreatDoor.V
set_option linter.unusedVariables false
set_option linter.unusedSimpArgs false
open Go Go.Proofs Go.RowKit
set_option maxRecDepth 100000
def bkW (w : Wrd) : Nat := w.text.size + w.tail.size + 3
theorem dWord : Dec Tryz.prog 50 tWrd bkW :=
  Dec.map (fun x : ByteArray × ByteArray × Unit => ⟨x.1, x.2.1⟩) rfl (fun x j hj => match j, hj with | 0, _ => Le.refl _ | 1, _ => Le.refl _) (fun x => by simp only [bkW]; omega)
    (Dec.struct (t := 50) (fs := #[⟨"Text", 9, 0, false, "", "", 0⟩, ⟨"Tail", 9, 1, false, "", "", 16⟩]) (by kernel_rfl) (by kernel_rfl) (DecF.cons rfl (Dec.str (by kernel_rfl) (by kernel_rfl)) (DecF.cons rfl (Dec.str (by kernel_rfl) (by kernel_rfl)) DecF.nil)))
end Go.Proofs.YteklnpgiloebcaaGreatDoor.V

namespace Go.Proofs.YteklnpgiloebcaaGreatDoor.V
set_option linter.unusedVariables false
set_option linter.unusedSimpArgs false
open Go Go.Proofs Go.RowKit
theorem bkW_sum : ∀ l : List Wrd, sumL bkW l = 3 * l.length + (catW l).size
  | [] => by simp [sumL, catW]
  | w :: l => by
    simp only [sumL, bkW_sum l, bkW, catW, ByteArray.size_append, List.length_cons]; omega
theorem fitW_of {s : ByteArray} {l : List Wrd} {n : Nat} (h : s.size + sumL bkW l ≤ n) (hn : n ≤ 100000000) : FitW s l ∧ l.length ≤ 100000000 ∧ ∀ w ∈ l, w.text.size ≤ 134217728 := by
  rw [bkW_sum] at h
  refine ⟨⟨by omega, by omega⟩, by omega, fun w hw => ?_⟩
  have := catW_mem hw
  omega
end Go.Proofs.YteklnpgiloebcaaGreatDoor.V

namespace Go.Proofs.YteklnpgiloebcaaGreatDoor.V
set_option linter.unusedVariables false
set_option linter.unusedSimpArgs false
open Go Go.Proofs Go.RowKit
structure Wit where
  name : ByteArray
  head : ByteArray
  words : List Wrd
def wit0 : Wit := ⟨.empty, .empty, []⟩
def tWit : Ty Wit := ⟨3, fun w j => match j with | 0 => .str w.name | 1 => .str w.head | _ => tWrd.L w.words, wit0⟩
structure Tab where
  wits : List Wit
  cols : List (List Int)
def tIL : Ty (List Int) := tL tI
def tabG (t : Tab) : Nat → AV := fun j => match j with | 0 => tWit.L t.wits | _ => tIL.L t.cols
def tbA (t : Tab) : AV := .agg 2 (tabG t)
def alnum (b : Int) : Prop := (65 ≤ b ∧ b ≤ 90) ∨ (97 ≤ b ∧ b ≤ 122) ∨ (48 ≤ b ∧ b ≤ 57)
def NameOk (s : ByteArray) : Prop := 1 ≤ s.size ∧ s.size ≤ 8 ∧ ∀ i, i < s.size → alnum (bt s i)
instance (b : Int) : Decidable (alnum b) := by unfold alnum; infer_instance
instance (s : ByteArray) : Decidable (NameOk s) := by unfold NameOk; infer_instance
def atC (t : Tab) (c i : Nat) : Int := (t.cols.getD c []).getD i 0
def witAt (t : Tab) (i : Nat) : Wit := t.wits.getD i wit0
/-- In how many columns a witness has a word. -/
def cnt (cols : List (List Int)) (i : Nat) : Nat := (cols.filter fun l => !decide (l.getD i 0 = -1)).length
def WitOk (t : Tab) (i : Nat) : Prop := NameOk (witAt t i).name ∧ rightB (witAt t i).head (witAt t i).words = true ∧ ∀ k, k < i → (witAt t k).name ≠ (witAt t i).name
def ColOk (t : Tab) (c : Nat) : Prop := (t.cols.getD c []).length = t.wits.length ∧
  (∀ i, i < t.wits.length → atC t c i = -1 ∨ (atC t c i = (cnt (t.cols.take c) i : Nat) ∧ cnt (t.cols.take c) i < (witAt t i).words.length)) ∧ ∃ i, i < t.wits.length ∧ atC t c i ≠ -1
/-- A table. -/
structure OkT (t : Tab) : Prop where
  n1 : 1 ≤ t.wits.length
  n12 : t.wits.length ≤ 12
  nc : t.cols.length ≤ 4096
  wit : ∀ i, i < t.wits.length → WitOk t i
  col : ∀ c, c < t.cols.length → ColOk t c
  all : ∀ i, i < t.wits.length → cnt t.cols i = (witAt t i).words.length
open Classical in
noncomputable def chkT (t : Tab) : Int := if OkT t then 0 else 121
theorem chk_ok {t : Tab} (h : OkT t) : chkT t = 0 := if_pos h
theorem chk_no {t : Tab} (h : ¬ OkT t) : chkT t = 121 := if_neg h
theorem chk_01 (t : Tab) : (OkT t ∧ chkT t = 0) ∨ (¬ OkT t ∧ chkT t = 121) := by
  by_cases h : OkT t
  · exact .inl ⟨h, chk_ok h⟩
  · exact .inr ⟨h, chk_no h⟩
/-- What the walks ask of a table's size. -/
structure FitT (t : Tab) : Prop where
  wits : t.wits.length ≤ 2000000
  cols : t.cols.length ≤ 2000000
  col : ∀ l ∈ t.cols, l.length ≤ 2000000
  name : ∀ w ∈ t.wits, w.name.size ≤ 2000000
  wit : ∀ w ∈ t.wits, FitW w.head w.words ∧ w.words.length ≤ 2000000 ∧ ∀ v ∈ w.words, v.text.size ≤ 134217728
/-! ### sums -/
def sumR (f : Nat → Nat) : Nat → Nat
  | 0 => 0
  | n + 1 => sumR f n + f n
theorem sumR_congr {f g : Nat → Nat} : ∀ n, (∀ i, i < n → f i = g i) → sumR f n = sumR g n
  | 0, _ => rfl
  | n + 1, h => by simp only [sumR]; rw [sumR_congr n (fun i hi => h i (by omega)), h n (by omega)]
theorem sumR_upd {f g : Nat → Nat} {i d : Nat} : ∀ n, i < n → g i = f i + d → (∀ j, j ≠ i → g j = f j) → sumR g n = sumR f n + d
  | 0, h, _, _ => absurd h (Nat.not_lt_zero _)
  | n + 1, h, h1, h2 => by
    simp only [sumR]
    by_cases e : i = n
    · subst e
      rw [h1, sumR_congr i (fun j hj => h2 j (by omega))]; omega
    · rw [sumR_upd n (by omega) h1 h2, h2 n (by omega)]; omega
theorem sumR_le {f g : Nat → Nat} : ∀ n, (∀ i, i < n → f i ≤ g i) → sumR f n ≤ sumR g n
  | 0, _ => Nat.le_refl _
  | n + 1, h => Nat.add_le_add (sumR_le n (fun i hi => h i (by omega))) (h n (by omega))
theorem sumR_eq {f g : Nat → Nat} : ∀ n, (∀ i, i < n → f i ≤ g i) → sumR g n ≤ sumR f n → ∀ i, i < n → f i = g i
  | 0, _, _, i, hi => absurd hi (Nat.not_lt_zero _)
  | n + 1, h, he, i, hi => by
    have h1 := sumR_le n (fun i hi => h i (by omega))
    have h2 := h n (by omega)
    simp only [sumR] at he
    by_cases e : i = n
    · subst e; omega
    · exact sumR_eq n (fun i hi => h i (by omega)) (by omega) i (by omega)
/-! ### the count of a witness's words, column by column -/
theorem cnt_take (cols : List (List Int)) (c i : Nat) (h : c < cols.length) : cnt (cols.take (c + 1)) i = cnt (cols.take c) i + if (cols.getD c []).getD i 0 = -1 then 0 else 1 := by
  unfold cnt
  rw [take_at cols c [] h, List.filter_append, List.length_append]
  congr 1
  by_cases e : (cols.getD c []).getD i 0 = -1
  · rw [if_pos e, List.filter_cons_of_neg (by rw [decide_eq_true e]; decide)]; rfl
  · rw [if_neg e, List.filter_cons_of_pos (by rw [decide_eq_false e]; rfl)]; rfl
/-- Where the walk through the columns stands: all ahead of c, and of c the cells ahead of i. -/
def nx (t : Tab) (c i j : Nat) : Nat := cnt (t.cols.take (if j < i then c + 1 else c)) j
def nextL (t : Tab) (c i : Nat) : List Int := (List.range t.wits.length).map fun j => ((nx t c i j : Nat) : Int)
theorem nextL_len (t : Tab) (c i : Nat) : (nextL t c i).length = t.wits.length := by simp [nextL]
theorem nextL_at (t : Tab) (c i j : Nat) (h : j < t.wits.length) : (nextL t c i).getD j 0 = (nx t c i j : Nat) := by
  unfold nextL
  rw [List.getD, List.getElem?_map, List.getElem?_range h]; rfl
theorem nx_same (t : Tab) (c i : Nat) : nx t c i i = cnt (t.cols.take c) i := by unfold nx; rw [if_neg (Nat.lt_irrefl _)]
theorem nx_none {t : Tab} {c i : Nat} (hc : c < t.cols.length) (h : atC t c i = -1) (j : Nat) : nx t c (i + 1) j = nx t c i j := by
  unfold nx
  by_cases e : j = i
  · subst e
    rw [if_pos (by omega), if_neg (by omega), cnt_take _ _ _ hc, if_pos (show (t.cols.getD c []).getD j 0 = -1 from h)]; omega
  · by_cases e2 : j < i
    · rw [if_pos (by omega), if_pos e2]
    · rw [if_neg (by omega), if_neg e2]
theorem nx_some {t : Tab} {c i : Nat} (hc : c < t.cols.length) (h : atC t c i ≠ -1) : nx t c (i + 1) i = nx t c i i + 1 ∧ ∀ j, j ≠ i → nx t c (i + 1) j = nx t c i j := by
  unfold nx
  refine ⟨?_, fun j e => ?_⟩
  · rw [if_pos (by omega), if_neg (by omega), cnt_take _ _ _ hc, if_neg (show ¬ (t.cols.getD c []).getD i 0 = -1 from h)]
  · by_cases e2 : j < i
    · rw [if_pos (by omega), if_pos e2]
    · rw [if_neg (by omega), if_neg e2]
theorem nx_end (t : Tab) (c j : Nat) (h : j < t.wits.length) : nx t c t.wits.length j = nx t (c + 1) 0 j := by
  unfold nx
  rw [if_pos h, if_neg (by omega)]
theorem nextL_none {t : Tab} {c i : Nat} (hc : c < t.cols.length) (h : atC t c i = -1) : nextL t c (i + 1) = nextL t c i := by
  unfold nextL
  exact List.map_congr_left (fun j _ => by rw [nx_none hc h])
theorem nextL_some {t : Tab} {c i : Nat} (hc : c < t.cols.length) (hi : i < t.wits.length) (h : atC t c i ≠ -1) : nextL t c (i + 1) = (nextL t c i).set i (((nx t c i i : Nat) : Int) + 1) := by
  obtain ⟨h1, h2⟩ := nx_some hc h
  refine List.ext_getElem? fun j => ?_
  rw [List.getElem?_set]
  unfold nextL
  simp only [List.getElem?_map, List.length_map, List.length_range]
  by_cases e : i = j
  · subst e
    rw [if_pos rfl, if_pos hi, List.getElem?_range hi, Option.map_some, h1]; rfl
  · rw [if_neg e]
    by_cases hj : j < t.wits.length
    · rw [List.getElem?_range hj, Option.map_some, Option.map_some, h2 j (fun e' => e e'.symm)]
    · rw [List.getElem?_eq_none (by simpa using hj)]; rfl
theorem nextL_end (t : Tab) (c : Nat) : nextL t c t.wits.length = nextL t (c + 1) 0 := by
  unfold nextL
  exact List.map_congr_left (fun j hj => by rw [nx_end t c j (by simpa using hj)])
theorem nextL_zero (t : Tab) : nextL t 0 0 = List.replicate t.wits.length 0 := by
  refine List.ext_getElem (by simp [nextL]) fun j k1 k2 => ?_
  simp [nextL, nx, cnt]
def lens (t : Tab) (i : Nat) : Nat := (witAt t i).words.length
def tot (t : Tab) : Nat := sumR (lens t) t.wits.length
def sumN (t : Tab) (c i : Nat) : Nat := sumR (nx t c i) t.wits.length
theorem sumN_none {t : Tab} {c i : Nat} (hc : c < t.cols.length) (h : atC t c i = -1) : sumN t c (i + 1) = sumN t c i := sumR_congr _ (fun j _ => nx_none hc h j)
theorem sumN_some {t : Tab} {c i : Nat} (hc : c < t.cols.length) (hi : i < t.wits.length) (h : atC t c i ≠ -1) : sumN t c (i + 1) = sumN t c i + 1 := sumR_upd _ hi (nx_some hc h).1 (nx_some hc h).2
theorem sumN_end (t : Tab) (c : Nat) : sumN t c t.wits.length = sumN t (c + 1) 0 := sumR_congr _ (fun j hj => nx_end t c j hj)
/-- No more words than there are. -/
def LeT (t : Tab) (c i : Nat) : Prop := ∀ j, j < t.wits.length → nx t c i j ≤ lens t j
theorem le_some {t : Tab} {c i : Nat} (hc : c < t.cols.length) (hl : LeT t c i) (h : atC t c i ≠ -1) (hlt : nx t c i i < lens t i) : LeT t c (i + 1) := fun j hj => by
  by_cases e : j = i
  · subst e; rw [(nx_some hc h).1]; exact hlt
  · rw [(nx_some hc h).2 j e]; exact hl j hj
theorem le_none {t : Tab} {c i : Nat} (hc : c < t.cols.length) (hl : LeT t c i) (h : atC t c i = -1) : LeT t c (i + 1) := fun j hj => by rw [nx_none hc h]; exact hl j hj
theorem le_end {t : Tab} {c : Nat} (hl : LeT t c t.wits.length) : LeT t (c + 1) 0 := fun j hj => by rw [← nx_end t c j hj]; exact hl j hj
theorem le_sum {t : Tab} {c i : Nat} (hl : LeT t c i) : sumN t c i ≤ tot t := sumR_le _ hl
theorem nx_last (t : Tab) (j : Nat) : nx t t.cols.length 0 j = cnt t.cols j := by unfold nx; rw [if_neg (by omega), List.take_length]
theorem all_of {t : Tab} (hl : LeT t t.cols.length 0) (h : tot t ≤ sumN t t.cols.length 0) : ∀ i, i < t.wits.length → cnt t.cols i = (witAt t i).words.length := fun i hi => by
  have := sumR_eq _ hl h i hi
  rw [nx_last] at this; exact this
theorem sum_of {t : Tab} (h : ∀ i, i < t.wits.length → cnt t.cols i = (witAt t i).words.length) : sumN t t.cols.length 0 = tot t := sumR_congr _ (fun j hj => by rw [nx_last]; exact h j hj)
theorem tb_le (t : Tab) {g : Nat → AV} (h0 : Le (g 0) (tWit.L t.wits)) (h1 : Le (g 1) (tIL.L t.cols)) : Le (.agg 2 g) (tbA t) := Le.agg fun j hj => by
  match j, hj with
  | 0, _ => exact h0
  | 1, _ => exact h1
end Go.Proofs.YteklnpgiloebcaaGreatDoor.V

namespace Go.Proofs.YteklnpgiloebcaaGreatDoor.V
set_option linter.unusedVariables false
set_option linter.unusedSimpArgs false
open Go Go.Proofs Go.RowKit
set_option maxRecDepth 100000
theorem bt_get! (s : ByteArray) (i : Nat) : ((s.get! i).toNat : Int) = bt s i := by
  unfold bt
  cases s with | mk a => 
  show ((a[i]!).toNat : Int) = _
  simp only [List.getD_eq_getElem?_getD, Array.getElem?_toList]
  rw [← Array.getD_eq_getD_getElem?]
  rfl
/-- A text of small bytes: its runes are its bytes. -/
theorem dec_ascii {s : ByteArray} {p : Nat} (h : bt s p < 128) : Utf8.decode s p = ((bt s p).toNat, 1) := by
  unfold Utf8.decode
  have e := bt_get! s p
  have h1 : (s.get! p).toNat < 128 := by omega
  simp only [Nat.add_zero, if_pos h1]
  rw [← e]; rfl
end Go.Proofs.YteklnpgiloebcaaGreatDoor.V

namespace Go.Proofs.YteklnpgiloebcaaGreatDoor.V
set_option linter.unusedVariables false
set_option linter.unusedSimpArgs false
open Go Go.Proofs Go.RowKit
set_option maxRecDepth 100000
set_option maxHeartbeats 4000000
/-- A small rune is its byte. -/
theorem dec_small (s : ByteArray) (p : Nat) (h : (Utf8.decode s p).1 < 128) : bt s p = ((Utf8.decode s p).1 : Nat) ∧ (Utf8.decode s p).2 = 1 := by
  have hb := bt_lt s p
  rw [dec_at] at h ⊢
  have k0 := bt_lt s (p + 1)
  rcases Lib.decodeN_shape (s.size - p) (bt s p).toNat (bt s (p + 1)).toNat (bt s (p + 2)).toNat (bt s (p + 3)).toNat with ⟨c, e⟩ | ⟨c1, c2, c3, cv, e⟩ | ⟨c1, c2, c3, c4, cv, cs, e⟩ | ⟨c1, c2, c3, c4, c5, cv, cw, e⟩ | e
  all_goals (rw [e] at h ⊢; simp only at h ⊢)
  · exact ⟨by omega, trivial⟩
  all_goals (exfalso; omega)
theorem named_fn (s : ByteArray) : Fn Tryz.prog 28 [.str s] (.bool (decide (NameOk s))) := by
  refine Fn.of Tryz.f28 _ Tryz.func28 rfl (by decide) (by show 1 ≤ _; decide) tbOk 40 rfl fun S w0 gl => ?_
  have hno : ¬ NameOk s → decide (NameOk s) = false := fun h => decide_eq_false h
  have hz : s.size = 0 ↔ s = ⟨#[]⟩ := ⟨fun h => by
    apply ByteArray.ext
    exact Array.eq_empty_of_size_eq_zero h, fun h => by rw [h]; rfl⟩
  refine Run.go ?_; (conv => whnf); repeat' (first | ((with_reducible refine Know.mk fun _ => ?_); conv => whnf) | ((with_reducible refine Need.mk ?_ ?_); exact nd; conv => whnf) | ((with_reducible first | refine Both.mk ?_ ?_ | refine Any.mk fun b hb => ?_ | refine AskB.dec (fun hb => ?_) (fun hb => ?_) | refine AskB.ndec (fun hb => ?_) (fun hb => ?_) | refine AskB.mk (fun hb => ?_) (fun hb => ?_)) <;> conv => whnf) | ((with_reducible first | refine Run.drawX rfl (by decide +kernel) ?_ | refine Run.drawT rfl (by decide +kernel) ?_ | refine Run.drawW rfl (by decide +kernel) ?_); conv => whnf) | fail)
  · exact Run.leave (ts := [2]) (.inr ⟨_, rfl⟩) rfl Tryz.func28 rfl (Le.ff.trans (Le.bool (hno (fun h => by have := h.1; have := hz.mpr hb; omega)).symm))
  · exact Run.leave (ts := [2]) (.inr ⟨_, rfl⟩) rfl Tryz.func28 rfl (Le.ff.trans (Le.bool (hno (fun h => by have := h.2.1; omega)).symm))
  rename_i hne _
  have hs8 : s.size ≤ 8 := by omega
  have hs1 : 1 ≤ s.size := by
    have := mt hz.mp hne
    omega
  refine Run.loop [0, 13] (fun (p : Nat) => []) (fun p => [(13, .iter s p)]) (fun p => p ≤ s.size ∧ ∀ i, i < p → alnum (bt s i)) (fun p => s.size - p) 0 ⟨Nat.zero_le _, fun i hi => absurd hi (Nat.not_lt_zero _)⟩ trivial ⟨MOle.refl _, trivial⟩ ?_
  intro p ⟨hp, ha⟩ IH
  have hsm := dec_small s p
  show Run _ _ (lst (_ ++ [])) (lstH [(13, .iter s p)])
  refine Run.go ?_; (conv => whnf); repeat' (first | ((with_reducible refine Know.mk fun _ => ?_); conv => whnf) | ((with_reducible refine Need.mk ?_ ?_); exact nd; conv => whnf) | ((with_reducible refine Both.mk ?_ ?_) <;> conv => whnf) | ((with_reducible refine Any.mk fun b hb => ?_); conv => whnf) | ((with_reducible first | refine AskB.dec (fun hb => ?_) (fun hb => ?_) | refine AskB.ndec (fun hb => ?_) (fun hb => ?_) | refine AskB.mk (fun hb => ?_) (fun hb => ?_)) <;> first | (exfalso; omega) | (conv => whnf)) | ((with_reducible first | refine Run.drawX rfl (by decide +kernel) ?_ | refine Run.drawT rfl (by decide +kernel) ?_ | refine Run.drawW rfl (by decide +kernel) ?_); conv => whnf) | fail)
  all_goals try (
    have hps : p < s.size := by omega
    have hr : (Utf8.decode s p).1 < 128 := by omega
    obtain ⟨h1, h2⟩ := hsm hr
    have hal : alnum (bt s p) := by unfold alnum; omega
    refine Run.to _ _ ?_ ?_ (IH (p + 1) (by omega) ⟨by omega, fun i hi => ?_⟩)
    · exact ⟨Le.refl _, Le.refl _, trivial⟩
    · rw [h2]; exact ⟨MOle.refl _, trivial⟩
    · by_cases e : i = p
      · subst e; exact hal
      · exact ha i (by omega))
  all_goals try (
    have hps : p < s.size := by omega
    refine Run.leave (ts := [2]) (.inr ⟨_, rfl⟩) rfl Tryz.func28 rfl (Le.ff.trans (Le.bool (hno (fun h => ?_)).symm))
    have hal := h.2.2 p hps
    have h128 : bt s p < 128 := by unfold alnum at hal; omega
    have hd := dec_ascii h128
    have hbl := bt_lt s p
    have h1 : (((Utf8.decode s p).1 : Nat) : Int) = bt s p := by rw [hd]; simp only []; omega
    unfold alnum at hal
    omega)
  all_goals (
    refine Run.leave (ts := [2]) (.inr ⟨_, rfl⟩) rfl Tryz.func28 rfl (Le.tt.trans (Le.bool (decide_eq_true ⟨hs1, hs8, fun i hi => ha i (by omega)⟩).symm)))
theorem name_fn (s : ByteArray) : Fn Tryz.prog 43 [.str s] (.bool (decide (NameOk s))) := by
  refine Fn.of Tryz.f43 _ Tryz.func43 rfl (by decide) (by show 1 ≤ _; decide) tbOk 45 rfl fun S w0 gl => ?_
  have hno : ¬ NameOk s → decide (NameOk s) = false := fun h => decide_eq_false h
  refine Run.go ?_; (conv => whnf); repeat' (first | ((with_reducible refine Know.mk fun _ => ?_); conv => whnf) | ((with_reducible refine Need.mk ?_ ?_); exact nd; conv => whnf) | ((with_reducible first | refine Both.mk ?_ ?_ | refine Any.mk fun b hb => ?_ | refine AskB.dec (fun hb => ?_) (fun hb => ?_) | refine AskB.ndec (fun hb => ?_) (fun hb => ?_) | refine AskB.mk (fun hb => ?_) (fun hb => ?_)) <;> conv => whnf) | ((with_reducible first | refine Run.drawX rfl (by decide +kernel) ?_ | refine Run.drawT rfl (by decide +kernel) ?_ | refine Run.drawW rfl (by decide +kernel) ?_); conv => whnf) | fail)
  · exact Run.leave (ts := [2]) (.inr ⟨_, rfl⟩) rfl Tryz.func43 rfl (Le.ff.trans (Le.bool (hno (fun h => by have := h.1; omega)).symm))
  · exact Run.leave (ts := [2]) (.inr ⟨_, rfl⟩) rfl Tryz.func43 rfl (Le.ff.trans (Le.bool (hno (fun h => by have := h.2.1; omega)).symm))
  have hs8 : s.size ≤ 8 := by omega
  have hs1 : 1 ≤ s.size := by omega
  refine Run.loop [0] (fun (p : Nat) => [(3, .int .i64 (p : Int))]) (fun p => []) (fun p => p ≤ s.size ∧ ∀ i, i < p → alnum (bt s i)) (fun p => s.size - p) 0 ⟨Nat.zero_le _, fun i hi => absurd hi (Nat.not_lt_zero _)⟩ ⟨Le.refl _, trivial⟩ trivial ?_
  intro p ⟨hp, ha⟩ IH
  have hwp : IntKind.i64.wrap ((p : Int) + 1) = ((p + 1 : Nat) : Int) := wrap64 (by omega) (by omega)
  refine Run.go ?_; (conv => whnf); repeat' (first | ((with_reducible refine Know.mk fun _ => ?_); conv => whnf) | ((with_reducible refine Need.mk ?_ ?_); exact nd; conv => whnf) | ((with_reducible refine Both.mk ?_ ?_) <;> conv => whnf) | ((with_reducible refine Any.mk fun b hb => ?_); conv => whnf) | ((with_reducible first | refine AskB.dec (fun hb => ?_) (fun hb => ?_) | refine AskB.ndec (fun hb => ?_) (fun hb => ?_) | refine AskB.mk (fun hb => ?_) (fun hb => ?_)) <;> first | (exfalso; omega) | (conv => whnf)) | ((with_reducible first | refine Run.drawX rfl (by decide +kernel) ?_ | refine Run.drawT rfl (by decide +kernel) ?_ | refine Run.drawW rfl (by decide +kernel) ?_); conv => whnf) | fail)
  all_goals try (
    have hps : p < s.size := by omega
    have hal : alnum (bt s p) := by unfold alnum; simp only [Int.toNat_natCast] at *; omega
    refine Run.to _ _ ?_ ?_ (IH (p + 1) (by omega) ⟨by omega, fun i hi => ?_⟩)
    · exact ⟨Le.refl _, Le.int hwp, trivial⟩
    · trivial
    · by_cases e : i = p
      · subst e; exact hal
      · exact ha i (by omega))
  all_goals try (
    have hps : p < s.size := by omega
    refine Run.leave (ts := [2]) (.inr ⟨_, rfl⟩) rfl Tryz.func43 rfl (Le.ff.trans (Le.bool (hno (fun h => ?_)).symm))
    have hal := h.2.2 p hps
    unfold alnum at hal
    simp only [Int.toNat_natCast] at *
    omega)
  all_goals (
    refine Run.leave (ts := [2]) (.inr ⟨_, rfl⟩) rfl Tryz.func43 rfl (Le.tt.trans (Le.bool (decide_eq_true ⟨hs1, hs8, fun i hi => ha i (by omega)⟩).symm)))
end Go.Proofs.YteklnpgiloebcaaGreatDoor.V

namespace Go.Proofs.YteklnpgiloebcaaGreatDoor.V
set_option linter.unusedVariables false
set_option linter.unusedSimpArgs false
open Go Go.Proofs Go.RowKit
set_option maxRecDepth 100000
set_option maxHeartbeats 4000000
theorem tot_le {t : Tab} (hf : FitT t) : ∀ n, n ≤ t.wits.length → sumR (lens t) n ≤ n * 2000000
  | 0, _ => by simp [sumR]
  | n + 1, h => by
    have h1 := tot_le hf n (by omega)
    have h2 := (hf.wit (t.wits.getD n wit0) (getD_mem' n (by omega))).2.1
    simp only [sumR, lens, witAt] at *
    rw [Nat.add_mul]; omega
theorem ins_mem {α : Type} [DecidableEq α] (k : α) : ∀ (l : List α) (x : α), x ∈ ins k l ↔ x = k ∨ x ∈ l
  | [], x => by simp [ins]
  | p :: l, x => by
    unfold ins
    split
    · rename_i e; subst e; simp
    · rw [List.mem_cons, ins_mem k l x, List.mem_cons]
      constructor
      · rintro (h | h | h)
        · exact .inr (.inl h)
        · exact .inl h
        · exact .inr (.inr h)
      · rintro (h | h | h)
        · exact .inr (.inl h)
        · exact .inl h
        · exact .inr (.inr h)
theorem check_fn (t : Tab) (hf : FitT t) : Fn Tryz.prog 14 [tbA t] (.int .i64 (chkT t)) := by
  refine Fn.of Tryz.f14 _ Tryz.func14 rfl (by decide) (by show 1 ≤ _; decide) tbOk 124 rfl fun S w0 gl => ?_
  have hno : ∀ {P : Prop}, (OkT t → ¬ P) → P → chkT t = 121 := fun h p => chk_no (fun o => h o p)
  have hfw := hf.wits
  have hfc := hf.cols
  refine Run.go ?_; (conv => whnf); repeat' (first | ((with_reducible refine Know.mk fun _ => ?_); conv => whnf) | ((with_reducible refine Need.mk ?_ ?_); exact nd; conv => whnf) | ((with_reducible first | refine Both.mk ?_ ?_ | refine Any.mk fun b hb => ?_ | refine AskB.dec (fun hb => ?_) (fun hb => ?_) | refine AskB.ndec (fun hb => ?_) (fun hb => ?_) | refine AskB.mk (fun hb => ?_) (fun hb => ?_)) <;> conv => whnf) | ((with_reducible first | refine Run.drawX rfl (by decide +kernel) ?_ | refine Run.drawT rfl (by decide +kernel) ?_ | refine Run.drawW rfl (by decide +kernel) ?_); conv => whnf) | fail)
  · exact Run.leave (ts := [2]) (.inr ⟨_, rfl⟩) rfl Tryz.func14 rfl (Le.int (hno (fun o h => by have := o.n1; omega) hb).symm)
  · exact Run.leave (ts := [2]) (.inr ⟨_, rfl⟩) rfl Tryz.func14 rfl (Le.int (hno (fun o h => by have := o.n12; omega) hb).symm)
  · exact Run.leave (ts := [2]) (.inr ⟨_, rfl⟩) rfl Tryz.func14 rfl (Le.int (hno (fun o h => by have := o.nc; omega) hb).symm)
  have hn1 : 1 ≤ t.wits.length := by omega
  have hn12 : t.wits.length ≤ 12 := by omega
  have hnc : t.cols.length ≤ 4096 := by omega
  have htl := tot_le hf
  refine Run.loop [3, 31, 32] (fun (a : Nat × List ByteArray) => [(1, .box 1 0), (4, .int .i64 ((sumR (lens t) a.1 : Nat) : Int)), (33, .int .i64 (a.1 : Int))]) (fun a => [(1, .box 35 [tWit.L t.wits, tIL.L t.cols]), (29, .mp (.sb a.2))])
    (fun a => a.1 ≤ t.wits.length ∧ (∀ i, i < a.1 → WitOk t i) ∧ ∀ s, s ∈ a.2 ↔ ∃ k, k < a.1 ∧ (witAt t k).name = s) (fun a => t.wits.length - a.1) (0, []) ⟨Nat.zero_le _, fun i hi => absurd hi (Nat.not_lt_zero _), fun s => ⟨fun h => (by cases h), fun ⟨k, hk, _⟩ => absurd hk (Nat.not_lt_zero _)⟩⟩
    ⟨Le.refl _, Le.refl _, Le.refl _, trivial⟩ ⟨MOle.refl _, MOle.refl _, trivial⟩ ?_
  intro ⟨i, l⟩ ⟨hi, hwk, hl⟩ IH
  simp only [] at hi hwk hl ⊢
  have hwi : IntKind.i64.wrap ((i : Int) + 1) = ((i + 1 : Nat) : Int) := wrap64 (by omega) (by omega)
  have hti := htl i hi
  refine Run.go ?_; (conv => whnf); repeat' (first | ((with_reducible refine Know.mk fun _ => ?_); conv => whnf) | ((with_reducible refine Need.mk ?_ ?_); exact nd; conv => whnf) | ((with_reducible first | refine Both.mk ?_ ?_ | refine Any.mk fun b hb => ?_ | refine AskB.dec (fun hb => ?_) (fun hb => ?_) | refine AskB.ndec (fun hb => ?_) (fun hb => ?_) | refine AskB.mk (fun hb => ?_) (fun hb => ?_)) <;> conv => whnf) | ((with_reducible first | refine Run.drawX rfl (by decide +kernel) ?_ | refine Run.drawT rfl (by decide +kernel) ?_ | refine Run.drawW rfl (by decide +kernel) ?_); conv => whnf) | fail)
  · have hil : i < t.wits.length := by omega
    have hwt := hf.wit (witAt t i) (getD_mem' i hil)
    refine Run.callBX (named_fn (witAt t i).name) rfl rfl ⟨Le.refl _, trivial⟩ rfl rfl rfl ?_
    (conv => whnf); repeat' (first | ((with_reducible refine Know.mk fun _ => ?_); conv => whnf) | ((with_reducible refine Need.mk ?_ ?_); exact nd; conv => whnf) | ((with_reducible first | refine Both.mk ?_ ?_ | refine Any.mk fun b hb => ?_ | refine AskB.dec (fun hb => ?_) (fun hb => ?_) | refine AskB.ndec (fun hb => ?_) (fun hb => ?_) | refine AskB.mk (fun hb => ?_) (fun hb => ?_)) <;> conv => whnf) | ((with_reducible first | refine Run.drawX rfl (by decide +kernel) ?_ | refine Run.drawT rfl (by decide +kernel) ?_ | refine Run.drawW rfl (by decide +kernel) ?_); conv => whnf) | fail)
    · have hk : ¬ WitOk t i := fun h => by
        have hd := (hasK_iff _ _).mp hb
        obtain ⟨k, hk1, hk2⟩ := (hl _).mp hd
        exact h.2.2 k hk1 hk2
      exact Run.leave (ts := [2]) (.inr ⟨_, rfl⟩) rfl Tryz.func14 rfl (Le.int (hno (fun o h => h (o.wit i hil)) hk).symm)
    · refine Run.callBX (right19_fn (witAt t i).head (witAt t i).words hwt.1) rfl rfl ⟨Le.refl _, Le.refl _, trivial⟩ rfl rfl rfl ?_
      (conv => whnf); repeat' (first | ((with_reducible refine Know.mk fun _ => ?_); conv => whnf) | ((with_reducible refine Need.mk ?_ ?_); exact nd; conv => whnf) | ((with_reducible first | refine Both.mk ?_ ?_ | refine Any.mk fun b hb => ?_ | refine AskB.dec (fun hb => ?_) (fun hb => ?_) | refine AskB.ndec (fun hb => ?_) (fun hb => ?_) | refine AskB.mk (fun hb => ?_) (fun hb => ?_)) <;> conv => whnf) | ((with_reducible first | refine Run.drawX rfl (by decide +kernel) ?_ | refine Run.drawT rfl (by decide +kernel) ?_ | refine Run.drawW rfl (by decide +kernel) ?_); conv => whnf) | fail)
      · have hk : ¬ WitOk t i := fun h => by rw [h.2.1] at hb; cases hb
        exact Run.leave (ts := [2]) (.inr ⟨_, rfl⟩) rfl Tryz.func14 rfl (Le.int (hno (fun o h => h (o.wit i hil)) hk).symm)
      · have hwt2 := hwt.2.1
        have hok : WitOk t i := ⟨by assumption, by simpa using hb, fun k hk e => (hasK_not _ _).mp (by assumption) ((hl _).mpr ⟨k, hk, e⟩)⟩
        refine Run.to _ _ ?_ ?_ (IH (i + 1, ins (witAt t i).name l) (by simp only []; omega) ⟨by simp only []; omega, fun k hk => ?_, fun s => ?_⟩)
        · refine ⟨Le.refl _, Le.refl _, Le.refl _, Le.refl _, Le.int ?_, Le.int hwi, trivial⟩
          show IntKind.i64.wrap ((sumR (lens t) i : Nat) + ((witAt t i).words.length : Int)) = _
          rw [wrap64 (by omega) (by omega)]
          simp only [sumR, lens]; omega
        · exact ⟨MOle.refl _, MOle.refl _, trivial⟩
        · by_cases e : k = i
          · subst e; exact hok
          · exact hwk k (by omega)
        · rw [ins_mem, hl]
          constructor
          · rintro (rfl | ⟨k, hk, rfl⟩)
            · exact ⟨i, Nat.lt_succ_self i, rfl⟩
            · exact ⟨k, Nat.lt_succ_of_lt hk, rfl⟩
          · rintro ⟨k, hk, rfl⟩
            by_cases e : k = i
            · subst e; exact .inl rfl
            · exact .inr ⟨k, by omega, rfl⟩
    · have hk : ¬ WitOk t i := fun h => hb h.1
      exact Run.leave (ts := [2]) (.inr ⟨_, rfl⟩) rfl Tryz.func14 rfl (Le.int (hno (fun o h => h (o.wit i hil)) hk).symm)
  obtain rfl : i = t.wits.length := by omega
  clear IH
  have htot : tot t ≤ 24000000 := by
    have := htl t.wits.length (Nat.le_refl _)
    unfold tot; omega
  refine Run.loop [1, 69, 70] (fun (c : Nat) => [(4, .int .i64 ((tot t - sumN t c 0 : Nat) : Int)), (7, .row 67), (71, .int .i64 (c : Int))]) (fun c => [(1, .box 35 [tWit.L t.wits, tIL.L t.cols]), (67, tI.R 3 (nextL t c 0))])
    (fun c => c ≤ t.cols.length ∧ (∀ k, k < c → ColOk t k) ∧ LeT t c 0) (fun c => t.cols.length - c) 0 ⟨Nat.zero_le _, fun i hi => absurd hi (Nat.not_lt_zero _), fun j hj => by simp [nx, cnt]⟩
    ⟨Le.int ?_, Le.refl _, Le.refl _, trivial⟩ ⟨MOle.refl _, ?_, trivial⟩ ?_
  · have : sumN t 0 0 = 0 := by
      unfold sumN
      have h0 : ∀ n, sumR (nx t 0 0) n = 0 := fun n => by
        induction n with
        | zero => rfl
        | succ n ih => simp only [sumR, ih]; simp [nx, cnt]
      exact h0 _
    rw [this, Nat.sub_zero]; rfl
  · rw [nextL_zero]
    refine ⟨rfl, rfl, by simp, fun i j hi hj => ?_⟩
    obtain rfl : j = 0 := by have : j < 1 := hj; omega
    refine Le.int ?_
    have hi' : i < t.wits.length := by simpa using hi
    rw [List.getD, List.getElem?_replicate, if_pos hi']; rfl
  intro c ⟨hc, hck, hle⟩ IH
  have hwc : IntKind.i64.wrap ((c : Int) + 1) = ((c + 1 : Nat) : Int) := wrap64 (by omega) (by omega)
  have hs0 := le_sum hle
  have hnl := nextL_len t c 0
  show Run _ _ (lst (_ ++ [(4, .int .i64 ((tot t - sumN t c 0 : Nat) : Int)), (7, .row 67), (71, .int .i64 (c : Int))])) (lstH [(1, .box 35 [tWit.L t.wits, tIL.L t.cols]), (67, tI.R 3 (nextL t c 0))])
  have hcl : c < t.cols.length → (t.cols.getD (c : Int).toNat tIL.z).length ≤ 2000000 := fun h => hf.col _ (getD_mem' c h)
  refine Run.go ?_; (conv => whnf); repeat' (first | ((with_reducible refine Know.mk fun _ => ?_); conv => whnf) | ((with_reducible refine Need.mk ?_ ?_); exact nd; conv => whnf) | ((with_reducible refine Both.mk ?_ ?_) <;> conv => whnf) | ((with_reducible refine Any.mk fun b hb => ?_); conv => whnf) | ((with_reducible first | refine AskB.dec (fun hb => ?_) (fun hb => ?_) | refine AskB.ndec (fun hb => ?_) (fun hb => ?_) | refine AskB.mk (fun hb => ?_) (fun hb => ?_)) <;> first | (exfalso; omega) | (conv => whnf)) | ((with_reducible first | refine Run.drawX rfl (by decide +kernel) ?_ | refine Run.drawT rfl (by decide +kernel) ?_ | refine Run.drawW rfl (by decide +kernel) ?_); conv => whnf) | fail)
  all_goals try (exfalso; omega)
  · have hcc : c < t.cols.length := by omega
    have hlen : (t.cols.getD c []).length = t.wits.length := by
      have h2 : (t.cols.getD (c : Int).toNat tIL.z).length = t.wits.length := by omega
      exact h2
    refine Run.loop [1, 10, 69, 70, 71, 81, 82] (fun (i : Nat) => [(4, .int .i64 ((tot t - sumN t c i : Nat) : Int)), (7, .row 67), (83, .int .i64 (i : Int))]) (fun i => [(1, .box 35 [tWit.L t.wits, tIL.L t.cols]), (67, tI.R 3 (nextL t c i))])
      (fun i => i ≤ t.wits.length ∧ LeT t c i ∧ (∀ k, k < i → atC t c k = -1 ∨ (atC t c k = (cnt (t.cols.take c) k : Nat) ∧ cnt (t.cols.take c) k < (witAt t k).words.length)) ∧ (sumN t c i = sumN t c 0 → ∀ k, k < i → atC t c k = -1)) (fun i => t.wits.length - i) 0 ⟨Nat.zero_le _, hle, fun i hi => absurd hi (Nat.not_lt_zero _), fun _ i hi => absurd hi (Nat.not_lt_zero _)⟩
      ⟨Le.refl _, Le.refl _, Le.refl _, trivial⟩ ⟨MOle.refl _, MOle.refl _, trivial⟩ ?_
    intro i ⟨hi, hlei, hcells, hsame⟩ IHi
    have hwi : IntKind.i64.wrap ((i : Int) + 1) = ((i + 1 : Nat) : Int) := wrap64 (by omega) (by omega)
    have hsi := le_sum hlei
    have hnli := nextL_len t c i
    have hge : sumN t c 0 ≤ sumN t c i := sumR_le _ (fun j hj => by
      unfold nx
      rw [if_neg (Nat.not_lt_zero _)]
      split
      · rw [cnt_take _ _ _ hcc]; omega
      · exact Nat.le_refl _)
    show Run _ _ (lst (_ ++ [(4, .int .i64 ((tot t - sumN t c i : Nat) : Int)), (7, .row 67), (83, .int .i64 (i : Int))])) (lstH [(1, .box 35 [tWit.L t.wits, tIL.L t.cols]), (67, tI.R 3 (nextL t c i))])
    by_cases hil : i < t.wits.length
    · have hx : (t.cols.getD (c : Int).toNat tIL.z).getD (i : Int).toNat tI.z = atC t c i := rfl
      have hn : (nextL t c i).getD (i : Int).toNat tI.z = ((cnt (t.cols.take c) i : Nat) : Int) := by
        have := nextL_at t c i i hil
        rw [nx_same] at this; exact this
      have hlw : lens t i ≤ 2000000 := (hf.wit (witAt t i) (getD_mem' i hil)).2.1
      have hcnt : cnt (t.cols.take c) i ≤ lens t i := by
        have := hlei i hil
        rw [nx_same] at this; exact this
      have hlw2 : (t.wits.getD (i : Int).toNat tWit.z).words.length = lens t i := rfl
      refine Run.go ?_; (conv => whnf); repeat' (first | ((with_reducible refine Know.mk fun _ => ?_); conv => whnf) | ((with_reducible refine Need.mk ?_ ?_); exact nd; conv => whnf) | ((with_reducible refine Both.mk ?_ ?_) <;> conv => whnf) | ((with_reducible refine Any.mk fun b hb => ?_); conv => whnf) | ((with_reducible first | refine AskB.dec (fun hb => ?_) (fun hb => ?_) | refine AskB.ndec (fun hb => ?_) (fun hb => ?_) | refine AskB.mk (fun hb => ?_) (fun hb => ?_)) <;> first | (exfalso; omega) | (conv => whnf)) | ((with_reducible first | refine Run.drawX rfl (by decide +kernel) ?_ | refine Run.drawT rfl (by decide +kernel) ?_ | refine Run.drawW rfl (by decide +kernel) ?_); conv => whnf) | fail)
      all_goals try (exfalso; omega)
      · have hm : atC t c i = -1 := by omega
        refine Run.to _ _ ?_ ?_ (IHi (i + 1) (by omega) ⟨by omega, le_none hcc hlei hm, fun k hk => ?_, fun he k hk => ?_⟩)
        · refine ⟨Le.refl _, Le.refl _, Le.refl _, Le.refl _, Le.refl _, Le.refl _, Le.refl _, ?_, Le.refl _, Le.int hwi, trivial⟩
          rw [sumN_none hcc hm]; exact Le.refl _
        · refine ⟨MOle.refl _, ?_, trivial⟩
          rw [nextL_none hcc hm]; exact MOle.refl _
        · by_cases e : k = i
          · subst e; exact .inl hm
          · exact hcells k (by omega)
        · rw [sumN_none hcc hm] at he
          by_cases e : k = i
          · subst e; exact hm
          · exact hsame he k (by omega)
      · have hxe : atC t c i = ((cnt (t.cols.take c) i : Nat) : Int) := by omega
        have hne : atC t c i ≠ -1 := by omega
        have hlt : cnt (t.cols.take c) i < lens t i := by omega
        have hle2 := le_some hcc hlei hne (by rw [nx_same]; exact hlt)
        have hs2 := le_sum hle2
        have hsm := sumN_some hcc hil hne
        refine Run.to _ _ ?_ ?_ (IHi (i + 1) (by omega) ⟨by omega, hle2, fun k hk => ?_, fun he => ?_⟩)
        · refine ⟨Le.refl _, Le.refl _, Le.refl _, Le.refl _, Le.refl _, Le.refl _, Le.refl _, Le.int ?_, Le.refl _, Le.int hwi, trivial⟩
          rw [wrap64 (by omega) (by omega)]; omega
        · refine ⟨MOle.refl _, ?_, trivial⟩
          rw [nextL_some hcc hil hne]
          refine tI.set 3 (nextL t c i) i _ (by omega) _ rfl (Le.one (Le.int ?_))
          rw [hn, nx_same, wrap64 (by omega) (by omega)]
        · by_cases e : k = i
          · subst e; exact .inr ⟨hxe, hlt⟩
          · exact hcells k (by omega)
        · omega
      all_goals
        have hk : ¬ ColOk t c := fun h => by
          rcases h.2.1 i hil with h1 | ⟨h1, h2⟩
          · omega
          · have h3 : cnt (t.cols.take c) i < lens t i := h2
            omega
        exact Run.leave (ts := [2]) (.inr ⟨_, rfl⟩) rfl Tryz.func14 rfl (Le.int (hno (fun o h => h (o.col c hcc)) hk).symm)
    · obtain rfl : i = t.wits.length := by omega
      refine Run.go ?_; (conv => whnf); repeat' (first | ((with_reducible refine Know.mk fun _ => ?_); conv => whnf) | ((with_reducible refine Need.mk ?_ ?_); exact nd; conv => whnf) | ((with_reducible refine Both.mk ?_ ?_) <;> conv => whnf) | ((with_reducible refine Any.mk fun b hb => ?_); conv => whnf) | ((with_reducible first | refine AskB.dec (fun hb => ?_) (fun hb => ?_) | refine AskB.ndec (fun hb => ?_) (fun hb => ?_) | refine AskB.mk (fun hb => ?_) (fun hb => ?_)) <;> first | (exfalso; omega) | (conv => whnf)) | ((with_reducible first | refine Run.drawX rfl (by decide +kernel) ?_ | refine Run.drawT rfl (by decide +kernel) ?_ | refine Run.drawW rfl (by decide +kernel) ?_); conv => whnf) | fail)
      all_goals try (exfalso; omega)
      · have hk : ¬ ColOk t c := fun h => by
          obtain ⟨k, hk1, hk2⟩ := h.2.2
          exact hk2 (hsame (by omega) k hk1)
        exact Run.leave (ts := [2]) (.inr ⟨_, rfl⟩) rfl Tryz.func14 rfl (Le.int (hno (fun o h => h (o.col c hcc)) hk).symm)
      · have hok : ColOk t c := ⟨hlen, hcells, by
          refine Classical.byContradiction fun hno' => ?_
          have hall : ∀ k, k < t.wits.length → atC t c k = -1 := fun k hk => Classical.byContradiction fun h => hno' ⟨k, hk, h⟩
          have hz : ∀ n, n ≤ t.wits.length → sumN t c n = sumN t c 0 := fun n => by
            induction n with
            | zero => intro _; rfl
            | succ n ih => intro h; rw [sumN_none hcc (hall n (by omega)), ih (by omega)]
          have := hz _ (Nat.le_refl _)
          omega⟩
        refine Run.to _ _ ?_ ?_ (IH (c + 1) (by omega) ⟨by omega, fun k hk => ?_, le_end hlei⟩)
        · refine ⟨Le.refl _, Le.refl _, Le.refl _, ?_, Le.refl _, Le.int hwc, trivial⟩
          rw [← sumN_end]; exact Le.refl _
        · refine ⟨MOle.refl _, ?_, trivial⟩
          rw [← nextL_end]; exact MOle.refl _
        · by_cases e : k = c
          · subst e; exact hok
          · exact hck k (by omega)
  · have hcc : c < t.cols.length := by omega
    have hk : ¬ ColOk t c := fun h => by
      have h1 := h.1
      have h2 : (t.cols.getD (c : Int).toNat tIL.z).length = t.wits.length := h1
      omega
    exact Run.leave (ts := [2]) (.inr ⟨_, rfl⟩) rfl Tryz.func14 rfl (Le.int (hno (fun o h => h (o.col c hcc)) hk).symm)
  all_goals obtain rfl : c = t.cols.length := by omega
  · refine Run.leave (ts := [2]) (.inr ⟨_, rfl⟩) rfl Tryz.func14 rfl (Le.int (hno (fun o h => ?_) hb).symm)
    have := sum_of o.all
    omega
  · refine Run.leave (ts := [2]) (.inr ⟨_, rfl⟩) rfl Tryz.func14 rfl (Le.int (chk_ok ⟨hn1, hn12, hnc, hwk, hck, all_of hle (by omega)⟩).symm)
end Go.Proofs.YteklnpgiloebcaaGreatDoor.V

namespace Go.Proofs.YteklnpgiloebcaaGreatDoor.V
set_option linter.unusedVariables false
set_option linter.unusedSimpArgs false
open Go Go.Proofs Go.RowKit
structure Rd where
  none : Bool
  text : ByteArray
  wits : List Int
deriving DecidableEq
def rd0 : Rd := ⟨false, .empty, []⟩
def tRd : Ty Rd := ⟨3, fun r j => match j with | 0 => .bool r.none | 1 => .str r.text | _ => tI.L r.wits, rd0⟩
end Go.Proofs.YteklnpgiloebcaaGreatDoor.V

namespace Go.Proofs.YteklnpgiloebcaaGreatDoor.V
set_option linter.unusedVariables false
set_option linter.unusedSimpArgs false
open Go
set_option linter.deprecated false
structure En where
  col : Int
  rds : List Rd
def tEn : Ty En := ⟨2, fun e j => match j with | 0 => .int .i64 e.col | _ => tRd.L e.rds, ⟨0, []⟩⟩
def fl (rds : List Rd) : List Int := rds.flatMap (·.wits)
structure RdOk (n : Int) (r : Rd) : Prop where
  some : r.wits ≠ []
  nons : r.none = decide (r.text = ⟨#[]⟩)
  up : r.wits.Pairwise (· < ·)
  rng : ∀ w ∈ r.wits, 0 ≤ w ∧ w < n
structure Part (n : Int) (rds : List Rd) : Prop where
  each : ∀ r ∈ rds, RdOk n r
  nodup : (fl rds).Nodup
  apart : rds.Pairwise (fun p r => p.text ≠ r.text ∧ p.wits.headD 0 < r.wits.headD 0)
def Right (n : Int) (rds : List Rd) : Prop := Part n rds ∧ 2 ≤ rds.length ∧ ((fl rds).length : Int) = n
noncomputable instance (n : Int) (rds : List Rd) : Decidable (Right n rds) := Classical.propDecidable _

theorem getD_mem {α : Type} {z : α} {l : List α} (i : Nat) (h : i < l.length) : l.getD i z ∈ l := by
  rw [List.getD, List.getElem?_eq_getElem h]; exact List.getElem_mem h
theorem take_get {α : Type} (z : α) (l : List α) (i : Nat) (h : i < l.length) : l.take (i + 1) = l.take i ++ [l.getD i z] := by
  rw [List.take_succ, List.getD, List.getElem?_eq_getElem h]; rfl
theorem all_get {α : Type} (z : α) (l : List α) (i : Nat) (h : i < l.length) : l = l.take i ++ l.getD i z :: l.drop (i + 1) := by
  rw [List.getD, List.getElem?_eq_getElem h, Option.getD_some, List.getElem_cons_drop, List.take_append_drop]
theorem fl_append (a b : List Rd) : fl (a ++ b) = fl a ++ fl b := by simp [fl]
theorem fl_take (z : Rd) (l : List Rd) (i : Nat) (h : i < l.length) : fl (l.take (i + 1)) = fl (l.take i) ++ (l.getD i z).wits := by
  rw [take_get z l i h, fl_append]; simp [fl]
theorem fl_sub (z : Rd) (l : List Rd) (i : Nat) (h : i < l.length) : ∃ rest, fl l = fl (l.take i) ++ (l.getD i z).wits ++ rest := by
  refine ⟨fl (l.drop (i + 1)), ?_⟩
  have := congrArg fl (all_get z l i h)
  rw [fl_append] at this
  rw [this]; simp [fl]
theorem pair_at {R : Int → Int → Prop} {l : List Int} (h : l.Pairwise R) {i j : Nat} (hij : i < j) (hj : j < l.length) : R (l.getD i 0) (l.getD j 0) := by
  rw [List.getD, List.getD, List.getElem?_eq_getElem hj, List.getElem?_eq_getElem (by omega)]
  exact List.pairwise_iff_getElem.mp h i j (by omega) hj hij
theorem pair_push {R : Int → Int → Prop} (tr : ∀ a b c, R a b → R b c → R a c) {l : List Int} {k : Nat} (hk : k < l.length) (h : (l.take k).Pairwise R) (hl : 0 < k → R (l.getD (k - 1) 0) (l.getD k 0)) : (l.take (k + 1)).Pairwise R := by
  rw [take_get 0 l k hk]
  refine List.pairwise_append.mpr ⟨h, by simp, fun a ha b hb => ?_⟩
  have hb' : b = l.getD k 0 := by simpa using hb
  subst hb'
  obtain ⟨j, hj, rfl⟩ := List.getElem_of_mem ha
  have hj' : j < k := by simp at hj; omega
  by_cases e : j = k - 1
  · subst e
    have := hl (by omega)
    simpa [List.getD, show k - 1 < l.length by omega] using this
  · have h1 := List.pairwise_iff_getElem.mp h j (k - 1) hj (by simp; omega) (by omega)
    refine tr _ _ _ h1 ?_
    have := hl (by omega)
    simpa [List.getD, show k - 1 < l.length by omega] using this

theorem pair_atG {α : Type} {R : α → α → Prop} {z : α} {l : List α} (h : l.Pairwise R) {i j : Nat} (hij : i < j) (hj : j < l.length) : R (l.getD i z) (l.getD j z) := by
  rw [List.getD, List.getD, List.getElem?_eq_getElem hj, List.getElem?_eq_getElem (by omega)]
  exact List.pairwise_iff_getElem.mp h i j (by omega) hj hij
theorem head_get (l : List Int) : l.headD 0 = l.getD 0 0 := by cases l <;> rfl

def lastW (l : List Rd) : Int := (l.getLast?.map fun r => r.wits.headD 0).getD (-1)
theorem ins_new {α : Type} [DecidableEq α] {k : α} : ∀ {l : List α}, k ∉ l → ins k l = l ++ [k]
  | [], _ => rfl
  | p :: l, h => by
    have h1 : ¬ k = p := fun e => h (by simp [e])
    rw [ins, if_neg h1, ins_new (fun h2 => h (by simp [h2]))]; rfl
theorem lastW_lt {n : Int} {rds : List Rd} (h : Part n rds) {i : Nat} (hi : i < rds.length) : lastW (rds.take i) < (rds.getD i tRd.z).wits.headD 0 := by
  have hr := h.each _ (getD_mem (z := tRd.z) i hi)
  cases i with
  | zero =>
    have h1 : (rds.getD 0 tRd.z).wits.headD 0 ∈ (rds.getD 0 tRd.z).wits := by
      cases hq : (rds.getD 0 tRd.z).wits with
      | nil => exact absurd hq hr.some
      | cons a l => simp
    have := (hr.rng _ h1).1
    simp only [lastW, List.take_zero, List.getLast?_nil, Option.map_none, Option.getD_none]
    omega
  | succ i =>
    have := (pair_atG (z := tRd.z) h.apart (Nat.lt_succ_self i) hi).2
    rw [take_get tRd.z rds i (by omega)]
    simpa [lastW] using this
theorem lastW_ge {n : Int} {l : List Rd} (h : Part n l) {p : Rd} (hp : p ∈ l) : p.wits.headD 0 ≤ lastW l := by
  obtain ⟨m, hm, rfl⟩ := List.getElem_of_mem hp
  have hl : 0 < l.length := by omega
  have e1 : lastW l = l[l.length - 1].wits.headD 0 := by
    unfold lastW
    rw [List.getLast?_eq_getElem?, List.getElem?_eq_getElem (by omega)]; rfl
  rw [e1]
  by_cases e : m = l.length - 1
  · subst e; exact Int.le_refl _
  · exact Int.le_of_lt (List.pairwise_iff_getElem.mp h.apart m (l.length - 1) hm (by omega) (by omega)).2

structure Good (n c : Int) (es : List En) : Prop where
  each : ∀ e ∈ es, 0 ≤ e.col ∧ e.col < c ∧ Right n e.rds
  up : (es.map (·.col)).Pairwise (· < ·)
noncomputable instance (n c : Int) (es : List En) : Decidable (Good n c es) := Classical.propDecidable _
noncomputable def chk (es : List En) (n c : Int) : Int := if n < 1 ∨ 12 < n ∨ c < 0 ∨ 4096 < c then 2 else if Good n c es then 0 else 170
theorem goodE_at {n c : Int} {es : List En} (h : Good n c es) {i j : Nat} (hij : i < j) (hj : j < es.length) : (es.getD i tEn.z).col < (es.getD j tEn.z).col := by
  have := List.pairwise_iff_getElem.mp h.up i j (by simp; omega) (by simpa using hj) hij
  rw [List.getD, List.getD, List.getElem?_eq_getElem hj, List.getElem?_eq_getElem (by omega)]
  simpa using this
theorem good_up {n c : Int} {es : List En} (h : Good n c es) {i : Nat} (hi : i < es.length) : (if i = 0 then -1 else (es.getD (i - 1) tEn.z).col) < (es.getD i tEn.z).col := by
  by_cases h0 : i = 0
  · rw [if_pos h0]
    have := (h.each _ (getD_mem (z := tEn.z) i hi)).1
    omega
  · rw [if_neg h0]; exact goodE_at h (by omega) hi
theorem good_push {n c : Int} {es : List En} {i : Nat} (h : Good n c (es.take i)) (hi : i < es.length) (h1 : (if i = 0 then -1 else (es.getD (i - 1) tEn.z).col) < (es.getD i tEn.z).col) (h2 : (es.getD i tEn.z).col < c) (h3 : Right n (es.getD i tEn.z).rds) : Good n c (es.take (i + 1)) := by
  have hlast : ∀ p ∈ es.take i, p.col < (es.getD i tEn.z).col := by
    intro p hp
    obtain ⟨m, hm, rfl⟩ := List.getElem_of_mem hp
    have hmi : m < i := by simp at hm; omega
    rw [if_neg (by omega)] at h1
    by_cases e : m = i - 1
    · subst e; simpa [List.getD, show i - 1 < es.length by omega] using h1
    · have h5 : (es.take i).getD m tEn.z = (es.take i)[m] := by rw [List.getD, List.getElem?_eq_getElem hm]; rfl
      have h6 : (es.take i).getD (i - 1) tEn.z = es.getD (i - 1) tEn.z := by simp [List.getD, show i - 1 < i by omega]
      have := goodE_at h (show m < i - 1 by omega) (by simp; omega)
      rw [h5, h6] at this
      exact Int.lt_trans this h1
  have hpos : 0 ≤ (es.getD i tEn.z).col := by
    by_cases h0 : i = 0
    · rw [if_pos h0] at h1; omega
    · have := (h.each _ (getD_mem (z := tEn.z) (l := es.take i) (i - 1) (by simp; omega))).1
      have h7 := hlast _ (getD_mem (z := tEn.z) (l := es.take i) (i - 1) (by simp; omega))
      omega
  rw [take_get tEn.z es i hi]
  refine ⟨fun e he => ?_, ?_⟩
  · rcases List.mem_append.mp he with h' | h'
    · exact h.each e h'
    · have : e = es.getD i tEn.z := by simpa using h'
      rw [this]; exact ⟨hpos, h2, h3⟩
  · rw [List.map_append]
    refine List.pairwise_append.mpr ⟨h.up, by simp, fun a ha b hb => ?_⟩
    obtain ⟨p, hp, rfl⟩ := List.mem_map.mp ha
    have : b = (es.getD i tEn.z).col := by simpa using hb
    rw [this]; exact hlast p hp

end Go.Proofs.YteklnpgiloebcaaGreatDoor.V

namespace Go.Proofs.YteklnpgiloebcaaGreatDoor.V
set_option linter.unusedVariables false
set_option linter.unusedSimpArgs false
open Go Go.Proofs Go.RowKit
set_option maxRecDepth 100000
set_option maxHeartbeats 2000000
open Go Go.Proofs Go.Proofs.YteklnpgiloebcaaGreatDoor.V
def tRow : Ty (List Int) := ⟨1, fun l _ => tI.L l, []⟩
def RowOk (m : List (List Int)) (i : Nat) : Prop := (m.getD i tRow.z).length = (m.getD 0 tRow.z).length ∧ (m.getD i tRow.z).length ≤ 4096 ∧ ∀ j, j < (m.getD i tRow.z).length → -1 ≤ (m.getD i tRow.z).getD j tI.z ∧ (m.getD i tRow.z).getD j tI.z < 12
def OkM (m : List (List Int)) : Prop := 0 < m.length ∧ m.length ≤ 12 ∧ ∀ i, i < m.length → RowOk m i
open Classical in
noncomputable def codeM (m : List (List Int)) : Int := if OkM m then 0 else 190
end Go.Proofs.YteklnpgiloebcaaGreatDoor.V

namespace Go.Proofs.YteklnpgiloebcaaGreatDoor.V
set_option linter.unusedVariables false
set_option linter.unusedSimpArgs false
open Go
def bs (l : List UInt8) : ByteArray := ⟨l.toArray⟩
theorem bs_size (l : List UInt8) : (bs l).size = l.length := by simp [bs, ByteArray.size]
theorem bs_data (l : List UInt8) : (bs l).data.toList = l := by simp [bs]
end Go.Proofs.YteklnpgiloebcaaGreatDoor.V

namespace Go.Proofs.YteklnpgiloebcaaGreatDoor.V
set_option linter.unusedVariables false
set_option linter.unusedSimpArgs false
open Go Go.Proofs Go.RowKit
set_option maxRecDepth 100000
set_option maxHeartbeats 2000000
open Go Go.Proofs Go.Proofs.YteklnpgiloebcaaGreatDoor.V
theorem ib60_fn (l : List UInt8) (c : Int) : Fn Tryz.prog 84 [.str (bs l), .int .u8 c] (.int .i64 (Lib.indexByte l c.toNat.toUInt8)) := by
  refine Fn.of Tryz.f84 _ Tryz.func84 rfl (by decide) (by show 2 ≤ _; decide) tbOk 8 rfl fun S w0 gl => ?_
  refine Run.go ?_; (conv => whnf); repeat' (first | ((with_reducible refine Know.mk fun _ => ?_); conv => whnf) | ((with_reducible refine Need.mk ?_ ?_); exact nd; conv => whnf) | ((with_reducible first | refine Both.mk ?_ ?_ | refine Any.mk fun b hb => ?_ | refine AskB.dec (fun hb => ?_) (fun hb => ?_) | refine AskB.ndec (fun hb => ?_) (fun hb => ?_) | refine AskB.mk (fun hb => ?_) (fun hb => ?_)) <;> conv => whnf) | ((with_reducible first | refine Run.drawX rfl (by decide +kernel) ?_ | refine Run.drawT rfl (by decide +kernel) ?_ | refine Run.drawW rfl (by decide +kernel) ?_); conv => whnf) | fail)
  refine Run.indexByteS (f := 112) (x := .tmp 5) (y := .tmp 6) (bs l) c rfl rfl rfl rfl Tryz.func112 (by kernel_rfl) (by kernel_rfl) (by kernel_rfl) (by kernel_rfl) rfl rfl ?_
  rw [bs_data]
  refine Run.go ?_; (conv => whnf); repeat' (first | ((with_reducible refine Know.mk fun _ => ?_); conv => whnf) | ((with_reducible refine Need.mk ?_ ?_); exact nd; conv => whnf) | ((with_reducible first | refine Both.mk ?_ ?_ | refine Any.mk fun b hb => ?_ | refine AskB.dec (fun hb => ?_) (fun hb => ?_) | refine AskB.ndec (fun hb => ?_) (fun hb => ?_) | refine AskB.mk (fun hb => ?_) (fun hb => ?_)) <;> conv => whnf) | ((with_reducible first | refine Run.drawX rfl (by decide +kernel) ?_ | refine Run.drawT rfl (by decide +kernel) ?_ | refine Run.drawW rfl (by decide +kernel) ?_); conv => whnf) | fail)
  exact Run.leave (ts := [4]) (.inr ⟨_, rfl⟩) rfl Tryz.func84 rfl (Le.refl _)
theorem ib47_fn (l : List UInt8) (c : Int) : Fn Tryz.prog 76 [.str (bs l), .int .u8 c] (.int .i64 (Lib.indexByte l c.toNat.toUInt8)) := by
  refine Fn.of Tryz.f76 _ Tryz.func76 rfl (by decide) (by show 2 ≤ _; decide) tbOk 8 rfl fun S w0 gl => ?_
  refine Run.go ?_; (conv => whnf); repeat' (first | ((with_reducible refine Know.mk fun _ => ?_); conv => whnf) | ((with_reducible refine Need.mk ?_ ?_); exact nd; conv => whnf) | ((with_reducible first | refine Both.mk ?_ ?_ | refine Any.mk fun b hb => ?_ | refine AskB.dec (fun hb => ?_) (fun hb => ?_) | refine AskB.ndec (fun hb => ?_) (fun hb => ?_) | refine AskB.mk (fun hb => ?_) (fun hb => ?_)) <;> conv => whnf) | ((with_reducible first | refine Run.drawX rfl (by decide +kernel) ?_ | refine Run.drawT rfl (by decide +kernel) ?_ | refine Run.drawW rfl (by decide +kernel) ?_); conv => whnf) | fail)
  refine Run.callBX (ib60_fn l c) rfl rfl ⟨Le.refl _, Le.refl _, trivial⟩ rfl rfl rfl ?_
  (conv => whnf); repeat' (first | ((with_reducible refine Know.mk fun _ => ?_); conv => whnf) | ((with_reducible refine Need.mk ?_ ?_); exact nd; conv => whnf) | ((with_reducible first | refine Both.mk ?_ ?_ | refine Any.mk fun b hb => ?_ | refine AskB.dec (fun hb => ?_) (fun hb => ?_) | refine AskB.ndec (fun hb => ?_) (fun hb => ?_) | refine AskB.mk (fun hb => ?_) (fun hb => ?_)) <;> conv => whnf) | ((with_reducible first | refine Run.drawX rfl (by decide +kernel) ?_ | refine Run.drawT rfl (by decide +kernel) ?_ | refine Run.drawW rfl (by decide +kernel) ?_); conv => whnf) | fail)
  exact Run.leave (ts := [4]) (.inr ⟨_, rfl⟩) rfl Tryz.func76 rfl (Le.refl _)
theorem nl_size : (bs [10]).size = 1 := rfl
theorem bs_inj {a b : List UInt8} (h : bs a = bs b) : a = b := by
  have := congrArg (fun x : ByteArray => x.data.toList) h
  simpa [bs] using this
theorem index100_fn (l : List UInt8) : Fn Tryz.prog 62 [.str (bs l), .str (bs [10])] (.int .i64 (Lib.indexByte l 10)) := by
  refine Fn.of Tryz.f62 _ Tryz.func62 rfl (by decide) (by show 2 ≤ _; decide) tbOk 143 rfl fun S w0 gl => ?_
  have hs := nl_size
  refine Run.go ?_; (conv => whnf); repeat' (first | ((with_reducible refine Know.mk fun _ => ?_); conv => whnf) | ((with_reducible refine Need.mk ?_ ?_); exact nd; conv => whnf) | ((with_reducible first | refine Both.mk ?_ ?_ | refine Any.mk fun b hb => ?_ | refine AskB.dec (fun hb => ?_) (fun hb => ?_) | refine AskB.ndec (fun hb => ?_) (fun hb => ?_) | refine AskB.mk (fun hb => ?_) (fun hb => ?_)) <;> conv => whnf) | ((with_reducible first | refine Run.drawX rfl (by decide +kernel) ?_ | refine Run.drawT rfl (by decide +kernel) ?_ | refine Run.drawW rfl (by decide +kernel) ?_); conv => whnf) | fail)
  all_goals try (exfalso; omega)
  · have := bs_inj hb
    subst this
    exact Run.leave (ts := [4]) (.inr ⟨_, rfl⟩) rfl Tryz.func62 rfl (Le.int (by decide))
  · refine Run.callBX (ib60_fn l 10) rfl rfl ⟨Le.refl _, Le.refl _, trivial⟩ rfl rfl rfl ?_
    (conv => whnf); repeat' (first | ((with_reducible refine Know.mk fun _ => ?_); conv => whnf) | ((with_reducible refine Need.mk ?_ ?_); exact nd; conv => whnf) | ((with_reducible first | refine Both.mk ?_ ?_ | refine Any.mk fun b hb => ?_ | refine AskB.dec (fun hb => ?_) (fun hb => ?_) | refine AskB.ndec (fun hb => ?_) (fun hb => ?_) | refine AskB.mk (fun hb => ?_) (fun hb => ?_)) <;> conv => whnf) | ((with_reducible first | refine Run.drawX rfl (by decide +kernel) ?_ | refine Run.drawT rfl (by decide +kernel) ?_ | refine Run.drawW rfl (by decide +kernel) ?_); conv => whnf) | fail)
    exact Run.leave (ts := [4]) (.inr ⟨_, rfl⟩) rfl Tryz.func62 rfl (Le.refl _)
end Go.Proofs.YteklnpgiloebcaaGreatDoor.V

namespace Go.Proofs.YteklnpgiloebcaaGreatDoor.V
set_option linter.unusedVariables false
set_option linter.unusedSimpArgs false
open Go Go.Proofs Go.RowKit
set_option maxRecDepth 100000
set_option maxHeartbeats 2000000
open Go Go.Proofs Go.Proofs.YteklnpgiloebcaaGreatDoor.V
def signL : List UInt8 := [63, 48, 49, 50, 51, 52, 53, 54, 55, 56, 57, 97, 98]
def signC (x : Int) : UInt8 := signL.getD (x + 1).toNat 0
/-- A matrix's bytes. -/
def prL (m : List (List Int)) : List UInt8 := m.flatMap (fun r => r.map signC ++ [10])
theorem bs_push (a : List UInt8) (u : UInt8) : bs a ++ ⟨#[u]⟩ = bs (a ++ [u]) := by
  apply ByteArray.ext; apply Array.ext'; simp [bs]
open Classical in
noncomputable def printS (m : List (List Int)) : ByteArray := if OkM m then bs (prL m) else .empty
end Go.Proofs.YteklnpgiloebcaaGreatDoor.V

namespace Go.Proofs.YteklnpgiloebcaaGreatDoor.V
set_option linter.unusedVariables false
set_option linter.unusedSimpArgs false
open Go Go.Proofs Go.RowKit
set_option maxRecDepth 100000
set_option maxHeartbeats 1000000
/-- Witnesses without words. -/
def nmWit (s : ByteArray) : Wit := ⟨s, .empty, []⟩
def nmTab (names : List ByteArray) : Tab := ⟨names.map nmWit, []⟩
theorem nmFit {names : List ByteArray} (h : names.length ≤ 2000000) (h2 : ∀ s ∈ names, s.size ≤ 2000000) : FitT (nmTab names) where
  wits := by simpa [nmTab] using h
  cols := by simp [nmTab]
  col := fun l hl => absurd hl List.not_mem_nil
  name := fun w hw => by
    obtain ⟨s, hs, rfl⟩ := List.mem_map.mp hw
    exact h2 s hs
  wit := fun w hw => by
    obtain ⟨s, hs, rfl⟩ := List.mem_map.mp hw
    exact ⟨⟨by simp [nmWit], by simp [nmWit, catW]⟩, by simp [nmWit], fun v hv => absurd hv List.not_mem_nil⟩
noncomputable def nmOk (names : List ByteArray) : Bool := decide (chkT (nmTab names) = 0)
theorem named17_fn (names : List ByteArray) (h1 : names.length ≤ 2000000) (h2 : ∀ s ∈ names, s.size ≤ 2000000) : Fn Tryz.prog 21 [tS.L names] (.bool (nmOk names)) := by
  refine Fn.of Tryz.f21 _ Tryz.func21 rfl (by decide) (by show 1 ≤ _; decide) tbOk 26 rfl fun S w0 gl => ?_
  refine Run.go ?_; (conv => whnf); repeat' (first | ((with_reducible refine Know.mk fun _ => ?_); conv => whnf) | ((with_reducible refine Need.mk ?_ ?_); exact nd; conv => whnf) | ((with_reducible first | refine Both.mk ?_ ?_ | refine Any.mk fun b hb => ?_ | refine AskB.dec (fun hb => ?_) (fun hb => ?_) | refine AskB.ndec (fun hb => ?_) (fun hb => ?_) | refine AskB.mk (fun hb => ?_) (fun hb => ?_)) <;> conv => whnf) | ((with_reducible first | refine Run.drawX rfl (by decide +kernel) ?_ | refine Run.drawT rfl (by decide +kernel) ?_ | refine Run.drawW rfl (by decide +kernel) ?_); conv => whnf) | fail)
  · refine Run.leave (ts := [2]) (.inr ⟨_, rfl⟩) rfl Tryz.func21 rfl (Le.ff.trans (Le.bool (decide_eq_false (fun h => ?_)).symm))
    have h4 : (nmTab names).wits.length = names.length := by simp [nmTab]
    rw [chk_no (fun hok => by have := hok.n1; omega)] at h
    exact absurd h (by decide)
  refine Run.holdBoxNil 3 0 90 44 3 (fun _ _ => .u) rfl rfl rfl rfl ?_
  refine Run.loop [9, 10] (fun (i : Nat) => [(3, .box 3 0), (11, .int .i64 (i : Int))]) (fun i => [(3, .box 35 [.row 90, .nils]), (90, tWit.R 44 ((names.take i).map nmWit))]) (fun i => i ≤ names.length) (fun i => names.length - i) 0 (Nat.zero_le _) ⟨Le.refl _, Le.refl _, trivial⟩ ⟨MOle.refl _, ⟨rfl, rfl, rfl, fun i j hi => absurd hi (Nat.not_lt_zero _)⟩, trivial⟩ ?_
  intro i hi IH
  have hwi : IntKind.i64.wrap ((i : Int) + 1) = ((i + 1 : Nat) : Int) := wrap64 (by omega) (by omega)
  have htl : ((names.take i).map nmWit).length = i := by rw [List.length_map, List.length_take]; omega
  by_cases hil : i < names.length
  · have hn : (names.take (i + 1)).map nmWit = (names.take i).map nmWit ++ [nmWit (names.getD i .empty)] := by rw [take_at names i .empty hil, List.map_append]; rfl
    have IH := IH (i + 1) (by omega) (by omega)
    rw [hn] at IH
    generalize (names.take i).map nmWit = L at htl IH ⊢
    show Run _ _ (lst (_ ++ [(3, .box 3 0), (11, .int .i64 (i : Int))])) (lstH [(3, .box 35 [.row 90, .nils]), (90, tWit.R 44 L)])
    refine Run.go ?_; (conv => whnf); repeat' (first | ((with_reducible refine Know.mk fun _ => ?_); conv => whnf) | ((with_reducible refine Need.mk ?_ ?_); exact nd; conv => whnf) | ((with_reducible refine Both.mk ?_ ?_) <;> conv => whnf) | ((with_reducible refine Any.mk fun b hb => ?_); conv => whnf) | ((with_reducible first | refine AskB.dec (fun hb => ?_) (fun hb => ?_) | refine AskB.ndec (fun hb => ?_) (fun hb => ?_) | refine AskB.mk (fun hb => ?_) (fun hb => ?_)) <;> first | (exfalso; omega) | (conv => whnf)) | ((with_reducible first | refine Run.drawX rfl (by decide +kernel) ?_ | refine Run.drawT rfl (by decide +kernel) ?_ | refine Run.drawW rfl (by decide +kernel) ?_); conv => whnf) | fail)
    all_goals try (exfalso; omega)
    refine Run.holdBoxRow 3 0 90 20 (by rfl) (by rfl) (by rfl) rfl rfl rfl ?_
    refine Run.to _ _ ?_ ?_ IH
    · exact ⟨Le.refl _, Le.refl _, Le.refl _, Le.int hwi, trivial⟩
    · refine ⟨MOle.refl _, ?_, trivial⟩
      refine tWit.push 44 L (nmWit (names.getD i .empty)) _ (fun q hq => ?_)
      match q, hq with
      | 0, _ => exact Le.refl _
      | 1, _ => exact Le.refl _
      | 2, _ => exact tWrd.nil
  · obtain rfl : i = names.length := by omega
    rw [List.take_length]
    refine Run.freeze 90 (by rfl) ?_
    refine Run.go ?_; (conv => whnf); repeat' (first | ((with_reducible refine Know.mk fun _ => ?_); conv => whnf) | ((with_reducible refine Need.mk ?_ ?_); exact nd; conv => whnf) | ((with_reducible refine Both.mk ?_ ?_) <;> conv => whnf) | ((with_reducible refine Any.mk fun b hb => ?_); conv => whnf) | ((with_reducible first | refine AskB.dec (fun hb => ?_) (fun hb => ?_) | refine AskB.ndec (fun hb => ?_) (fun hb => ?_) | refine AskB.mk (fun hb => ?_) (fun hb => ?_)) <;> first | (exfalso; omega) | (conv => whnf)) | ((with_reducible first | refine Run.drawX rfl (by decide +kernel) ?_ | refine Run.drawT rfl (by decide +kernel) ?_ | refine Run.drawW rfl (by decide +kernel) ?_); conv => whnf) | fail)
    all_goals try (exfalso; omega)
    refine Run.callBX (check_fn (nmTab names) (nmFit h1 h2)) rfl rfl ⟨tb_le (nmTab names) (Le.refl _) tIL.nil, trivial⟩ rfl rfl rfl ?_
    (conv => whnf); repeat' (first | ((with_reducible refine Know.mk fun _ => ?_); conv => whnf) | ((with_reducible refine Need.mk ?_ ?_); exact nd; conv => whnf) | ((with_reducible first | refine Both.mk ?_ ?_ | refine Any.mk fun b hb => ?_ | refine AskB.dec (fun hb => ?_) (fun hb => ?_) | refine AskB.ndec (fun hb => ?_) (fun hb => ?_) | refine AskB.mk (fun hb => ?_) (fun hb => ?_)) <;> conv => whnf) | ((with_reducible first | refine Run.drawX rfl (by decide +kernel) ?_ | refine Run.drawT rfl (by decide +kernel) ?_ | refine Run.drawW rfl (by decide +kernel) ?_); conv => whnf) | fail)
    exact Run.leave (ts := [2]) (.inr ⟨_, rfl⟩) rfl Tryz.func21 rfl (Le.refl _)
/-- Bytes that a form shows as they are. -/
def plainB (c : UInt8) : Bool := decide (32 < c.toNat) && decide (c.toNat ≤ 126) && (Lib.indexByte [59, 93, 92] c == -1)
def dashB : ByteArray := ⟨#[45]⟩
theorem wb3 {N : Nat} {w0 : World} {S : Nat → Prop} {gl : GlobOk S w0} {f : FuncId} {R : Ending → World → Prop} {ops : Array Oper} {i : Nat} {rest : List Nat} {k : List Item} {env : Env} {h : Heap} {o : Oper} {x y : Operand}
    (p : AV) (t : ByteArray) (u : UInt8) (ho : ops.toList[i]? = some o) (hc : calls? o = some (77, [x, y])) (hd : okD N o.dst = true) (hr : ready env ops o = true) (hx : ev (scrubE 900 env) x = .box 3 0) (hy : ev (scrubE 900 env) y = .int .u8 (u.toNat : Int))
    (hs : t.size + 1 ≤ 34359738368) (hp : p = .nilp ∨ p = .box 3 0)
    (next : Run ⟨Tryz.prog, TB, tbOk, N, w0, S, gl, f, R⟩ (.inRegion ops rest :: k) (putE (envB 90 env) o.dst .u) (bldr 77 5 3 90 (heapB 90 h) (.box 3 0) (t ++ ⟨#[u]⟩))) :
    Run ⟨Tryz.prog, TB, tbOk, N, w0, S, gl, f, R⟩ (.inRegion ops (i :: rest) :: k) env (bldr 77 5 3 90 h p t) := by
  refine Run.inline 900 Tryz.f77 _ 17 ho hc Tryz.func77 rfl (by decide) rfl (by show 2 ≤ 17; decide) hd hr (fun a hsz hdf => ?_)
  simp only [List.map, hx, hy]
  have fin : ∀ (E : Env) (H : Heap) (X : AV), (∀ i, E i = scrub 14 (scrub 13 (scrub 901 (scrub 900 (env i))))) → (∀ id, Nat.beq id 3 = false → Nat.beq id 90 = false → Nat.beq id 14 = false → Nat.beq id 13 = false → Nat.beq id 901 = false → Nat.beq id 900 = false → H id = scrubM 90 (scrubM 14 (scrubM 13 (scrubM 901 (scrubM 900 (h id)))))) →
      MOle (H 3) (.box 77 [.box 3 0, .row 90]) → MOle (H 90) (.row 5 1 (t ++ ⟨#[u]⟩).size (bytesG (t ++ ⟨#[u]⟩))) → Run ⟨Tryz.prog, TB, tbOk, N, w0, S, gl, f, R⟩ (.inRegion ops rest :: k) (scrubE 90 (putE E o.dst X)) H := by
    intro E H X hE hH h5 h90
    refine Run.weaken (fun i => ?_) (fun id => ?_) next
    · cases hdst : o.dst with
      | none => show Le (scrub 90 (E i)) _; rw [hE]; exact Le.refl _
      | some d =>
        show Le (scrub 90 (upd E d X i)) (upd (envB 90 env) d .u i)
        by_cases e : i = d
        · subst e; rw [upd_same, upd_same]; exact Le.u _
        · rw [upd_other _ _ e, upd_other _ _ e, hE]; exact Le.refl _
    · unfold bldr heapB
      cases e5 : Nat.beq id 3 with
      | true => have := Nat.eq_of_beq_eq_true e5; subst this; exact h5
      | false =>
      cases e90 : Nat.beq id 90 with
      | true => have := Nat.eq_of_beq_eq_true e90; subst this; exact h90
      | false =>
      cases e900 : Nat.beq id 900 with
      | true => simp only [upd, e5, e90, e900, cond_true, cond_false]; exact mole_dead _
      | false =>
      cases e901 : Nat.beq id 901 with
      | true => simp only [upd, e5, e90, e900, e901, cond_true, cond_false]; exact mole_dead _
      | false =>
      cases e13 : Nat.beq id 13 with
      | true => simp only [upd, e5, e90, e900, e901, e13, cond_true, cond_false]; exact mole_dead _
      | false =>
      cases e14 : Nat.beq id 14 with
      | true => simp only [upd, e5, e90, e900, e901, e13, e14, cond_true, cond_false]; exact mole_dead _
      | false =>
        rw [hH id e5 e90 e14 e13 e901 e900]
        simp only [upd, e5, e90, e900, e901, e13, e14, cond_true, cond_false]
        exact MOle.refl _
  rcases hp with rfl | rfl
  · refine Run.go ?_; (conv => whnf); repeat' (first | ((with_reducible refine Know.mk fun _ => ?_); conv => whnf) | ((with_reducible refine Need.mk ?_ ?_); exact nd; conv => whnf) | ((with_reducible first | refine Both.mk ?_ ?_ | refine Any.mk fun b hb => ?_ | refine AskB.dec (fun hb => ?_) (fun hb => ?_) | refine AskB.ndec (fun hb => ?_) (fun hb => ?_) | refine AskB.mk (fun hb => ?_) (fun hb => ?_)) <;> conv => whnf) | ((with_reducible first | refine Run.drawX rfl (by decide +kernel) ?_ | refine Run.drawT rfl (by decide +kernel) ?_ | refine Run.drawW rfl (by decide +kernel) ?_); conv => whnf) | fail)
    refine Run.inline 901 Tryz.f56 _ 20 rfl rfl Tryz.func56 rfl (by decide) rfl (by decide) rfl rfl (fun a2 hsz2 hdf2 => ?_)
    refine Run.go ?_; (conv => whnf); repeat' (first | ((with_reducible refine Know.mk fun _ => ?_); conv => whnf) | ((with_reducible refine Need.mk ?_ ?_); exact nd; conv => whnf) | ((with_reducible first | refine Both.mk ?_ ?_ | refine Any.mk fun b hb => ?_ | refine AskB.dec (fun hb => ?_) (fun hb => ?_) | refine AskB.ndec (fun hb => ?_) (fun hb => ?_) | refine AskB.mk (fun hb => ?_) (fun hb => ?_)) <;> conv => whnf) | ((with_reducible first | refine Run.drawX rfl (by decide +kernel) ?_ | refine Run.drawT rfl (by decide +kernel) ?_ | refine Run.drawW rfl (by decide +kernel) ?_); conv => whnf) | fail)
    refine Run.toUnsafe (id := 3) (l := [.nilp, .row 90]) (e := 77) (t := 77) (src := 74) (dst := 127) (x := .tmp 8) rfl rfl rfl rfl rfl rfl (by decide) (by kernel_rfl) (by kernel_rfl) (j := (Tryz.prog.info? 77).get (by kernel_rfl)) (by kernel_rfl) (by decide +kernel) ?_
    refine Run.noEscape (f := 75) (x := .tmp 9) rfl rfl rfl rfl Tryz.func75 (by kernel_rfl) (by kernel_rfl) (by kernel_rfl) (by kernel_rfl) ?_
    refine Run.fromUnsafe (id := 3) (l := [.nilp, .row 90]) (e := 77) (u := 77) (src := 127) (dst := 74) (x := .tmp 10) rfl rfl rfl rfl rfl rfl (by kernel_rfl) (by kernel_rfl) (j := (Tryz.prog.info? 77).get (by kernel_rfl)) (by kernel_rfl) (by kernel_rfl) ?_
    refine Run.go ?_; (conv => whnf); repeat' (first | ((with_reducible refine Know.mk fun _ => ?_); conv => whnf) | ((with_reducible refine Need.mk ?_ ?_); exact nd; conv => whnf) | ((with_reducible first | refine Both.mk ?_ ?_ | refine Any.mk fun b hb => ?_ | refine AskB.dec (fun hb => ?_) (fun hb => ?_) | refine AskB.ndec (fun hb => ?_) (fun hb => ?_) | refine AskB.mk (fun hb => ?_) (fun hb => ?_)) <;> conv => whnf) | ((with_reducible first | refine Run.drawX rfl (by decide +kernel) ?_ | refine Run.drawT rfl (by decide +kernel) ?_ | refine Run.drawW rfl (by decide +kernel) ?_); conv => whnf) | fail)
    refine Run.back 901 (ts := []) hsz2 hdf2 (.inl rfl) (by rfl) Tryz.func56 rfl ?_
    refine Run.go ?_; (conv => whnf); repeat' (first | ((with_reducible refine Know.mk fun _ => ?_); conv => whnf) | ((with_reducible refine Need.mk ?_ ?_); exact nd; conv => whnf) | ((with_reducible first | refine Both.mk ?_ ?_ | refine Any.mk fun b hb => ?_ | refine AskB.dec (fun hb => ?_) (fun hb => ?_) | refine AskB.ndec (fun hb => ?_) (fun hb => ?_) | refine AskB.mk (fun hb => ?_) (fun hb => ?_)) <;> conv => whnf) | ((with_reducible first | refine Run.drawX rfl (by decide +kernel) ?_ | refine Run.drawT rfl (by decide +kernel) ?_ | refine Run.drawW rfl (by decide +kernel) ?_); conv => whnf) | fail)
    refine Run.back 900 (ts := [4]) hsz hdf (.inr ⟨_, rfl⟩) (by rfl) Tryz.func77 rfl ?_
    refine Run.holdBoxRow 3 1 90 14 (by rfl) (by rfl) (by rfl) rfl rfl rfl ?_
    refine fin _ _ _ (fun i => rfl) (fun id e5 e90 e14 e13 e901 e900 => ?_) (MOle.refl _) (bytesG_push 5 t u _ rfl)
    simp only [upd, scrubH, scrubM, bldr, e5, e90, e14, e13, e901, e900, cond_false]
  · refine Run.go ?_; (conv => whnf); repeat' (first | ((with_reducible refine Know.mk fun _ => ?_); conv => whnf) | ((with_reducible refine Need.mk ?_ ?_); exact nd; conv => whnf) | ((with_reducible first | refine Both.mk ?_ ?_ | refine Any.mk fun b hb => ?_ | refine AskB.dec (fun hb => ?_) (fun hb => ?_) | refine AskB.ndec (fun hb => ?_) (fun hb => ?_) | refine AskB.mk (fun hb => ?_) (fun hb => ?_)) <;> conv => whnf) | ((with_reducible first | refine Run.drawX rfl (by decide +kernel) ?_ | refine Run.drawT rfl (by decide +kernel) ?_ | refine Run.drawW rfl (by decide +kernel) ?_); conv => whnf) | fail)
    refine Run.inline 901 Tryz.f56 _ 20 rfl rfl Tryz.func56 rfl (by decide) rfl (by decide) rfl rfl (fun a2 hsz2 hdf2 => ?_)
    refine Run.go ?_; (conv => whnf); repeat' (first | ((with_reducible refine Know.mk fun _ => ?_); conv => whnf) | ((with_reducible refine Need.mk ?_ ?_); exact nd; conv => whnf) | ((with_reducible first | refine Both.mk ?_ ?_ | refine Any.mk fun b hb => ?_ | refine AskB.dec (fun hb => ?_) (fun hb => ?_) | refine AskB.ndec (fun hb => ?_) (fun hb => ?_) | refine AskB.mk (fun hb => ?_) (fun hb => ?_)) <;> conv => whnf) | ((with_reducible first | refine Run.drawX rfl (by decide +kernel) ?_ | refine Run.drawT rfl (by decide +kernel) ?_ | refine Run.drawW rfl (by decide +kernel) ?_); conv => whnf) | fail)
    refine Run.back 901 (ts := []) hsz2 hdf2 (.inl rfl) (by rfl) Tryz.func56 rfl ?_
    refine Run.go ?_; (conv => whnf); repeat' (first | ((with_reducible refine Know.mk fun _ => ?_); conv => whnf) | ((with_reducible refine Need.mk ?_ ?_); exact nd; conv => whnf) | ((with_reducible first | refine Both.mk ?_ ?_ | refine Any.mk fun b hb => ?_ | refine AskB.dec (fun hb => ?_) (fun hb => ?_) | refine AskB.ndec (fun hb => ?_) (fun hb => ?_) | refine AskB.mk (fun hb => ?_) (fun hb => ?_)) <;> conv => whnf) | ((with_reducible first | refine Run.drawX rfl (by decide +kernel) ?_ | refine Run.drawT rfl (by decide +kernel) ?_ | refine Run.drawW rfl (by decide +kernel) ?_); conv => whnf) | fail)
    refine Run.back 900 (ts := [4]) hsz hdf (.inr ⟨_, rfl⟩) (by rfl) Tryz.func77 rfl ?_
    refine Run.holdBoxRow 3 1 90 14 (by rfl) (by rfl) (by rfl) rfl rfl rfl ?_
    refine fin _ _ _ (fun i => rfl) (fun id e5 e90 e14 e13 e901 e900 => ?_) (MOle.refl _) (bytesG_push 5 t u _ rfl)
    simp only [upd, scrubH, scrubM, bldr, e5, e90, e14, e13, e901, e900, cond_false]

theorem bs3 {N : Nat} {w0 : World} {S : Nat → Prop} {gl : GlobOk S w0} {f : FuncId} {R : Ending → World → Prop} {ops : Array Oper} {i : Nat} {rest : List Nat} {k : List Item} {env : Env} {h : Heap} {o : Oper} {x : Operand}
    (p : AV) (t : ByteArray) (ho : ops.toList[i]? = some o) (hc : calls? o = some (33, [x])) (hd : okD N o.dst = true) (hr : ready env ops o = true) (hx : ev (scrubE 900 env) x = .box 3 0)
    (next : Run ⟨Tryz.prog, TB, tbOk, N, w0, S, gl, f, R⟩ (.inRegion ops rest :: k) (putE (scrubE 900 env) o.dst (.str t)) (upd (upd (upd (scrubH 900 h) 900 .dead) 3 .dead) 90 .dead)) :
    Run ⟨Tryz.prog, TB, tbOk, N, w0, S, gl, f, R⟩ (.inRegion ops (i :: rest) :: k) env (bldr 77 5 3 90 h p t) := by
  refine Run.inline 900 Tryz.f33 _ 14 ho hc Tryz.func33 rfl (by decide) rfl (by show 1 ≤ 14; decide) hd hr (fun a hsz hdf => ?_)
  simp only [List.map, hx]
  have fin : ∀ (H : Heap), (∀ id, Nat.beq id 3 = false → Nat.beq id 90 = false → Nat.beq id 900 = false → H id = scrubM 900 (h id)) →
      Run ⟨Tryz.prog, TB, tbOk, N, w0, S, gl, f, R⟩ (.inRegion ops rest :: k) (putE (scrubE 900 env) o.dst (.str t)) H := by
    intro H hH
    refine Run.weaken (fun i => Le.refl _) (fun id => ?_) next
    cases e5 : Nat.beq id 3 with
    | true => simp only [upd, e5, cond_true, cond_false]; cases Nat.beq id 90 <;> exact mole_dead _
    | false =>
    cases e90 : Nat.beq id 90 with
    | true => simp only [upd, e5, e90, cond_true, cond_false]; exact mole_dead _
    | false =>
    cases e900 : Nat.beq id 900 with
    | true => simp only [upd, e5, e90, e900, cond_true, cond_false]; exact mole_dead _
    | false =>
      rw [hH id e5 e90 e900]
      simp only [upd, e5, e90, e900, cond_true, cond_false]
      exact MOle.refl _
  refine Run.go ?_; (conv => whnf); repeat' (first | ((with_reducible refine Know.mk fun _ => ?_); conv => whnf) | ((with_reducible refine Need.mk ?_ ?_); exact nd; conv => whnf) | ((with_reducible first | refine Both.mk ?_ ?_ | refine Any.mk fun b hb => ?_ | refine AskB.dec (fun hb => ?_) (fun hb => ?_) | refine AskB.ndec (fun hb => ?_) (fun hb => ?_) | refine AskB.mk (fun hb => ?_) (fun hb => ?_)) <;> conv => whnf) | ((with_reducible first | refine Run.drawX rfl (by decide +kernel) ?_ | refine Run.drawT rfl (by decide +kernel) ?_ | refine Run.drawW rfl (by decide +kernel) ?_); conv => whnf) | fail)
  · refine Run.unsafeString0 (i := 10) (rest := [11]) (k := [.code .ret]) (x := .tmp 7) (y := .tmp 12) (c := ⟨.builtin .unsafeString, #[.tmp 7, .tmp 12], #[106, 3]⟩) rfl rfl rfl rfl rfl rfl rfl (.inl rfl) (by show AV.int .i64 (t.size : Int) = _; rw [hb]; rfl) ?_
    have ht : t = .empty := by simpa using hb
    refine Run.go ?_; (conv => whnf); repeat' (first | ((with_reducible refine Know.mk fun _ => ?_); conv => whnf) | ((with_reducible refine Need.mk ?_ ?_); exact nd; conv => whnf) | ((with_reducible first | refine Both.mk ?_ ?_ | refine Any.mk fun b hb => ?_ | refine AskB.dec (fun hb => ?_) (fun hb => ?_) | refine AskB.ndec (fun hb => ?_) (fun hb => ?_) | refine AskB.mk (fun hb => ?_) (fun hb => ?_)) <;> conv => whnf) | ((with_reducible first | refine Run.drawX rfl (by decide +kernel) ?_ | refine Run.drawT rfl (by decide +kernel) ?_ | refine Run.drawW rfl (by decide +kernel) ?_); conv => whnf) | fail)
    refine Run.back 900 (ts := [2]) hsz hdf (.inr ⟨_, rfl⟩) (by rfl) Tryz.func33 rfl ?_
    rw [ht] at fin next ⊢
    exact fin _ (fun id e5 e90 e900 => by simp only [upd, scrubH, bldr, e5, e90, e900, cond_false])
  · refine Run.unsafeString (i := 10) (rest := [11]) (k := [.code .ret]) (x := .tmp 7) (y := .tmp 12) (c := ⟨.builtin .unsafeString, #[.tmp 7, .tmp 12], #[106, 3]⟩) t rfl rfl rfl rfl rfl rfl rfl rfl rfl (e := 5) (n := t.size) (q := 90) (get := bytesG t) rfl rfl hb (fun _ _ => rfl) (by kernel_rfl) (by kernel_rfl) ?_
    refine Run.go ?_; (conv => whnf); repeat' (first | ((with_reducible refine Know.mk fun _ => ?_); conv => whnf) | ((with_reducible refine Need.mk ?_ ?_); exact nd; conv => whnf) | ((with_reducible first | refine Both.mk ?_ ?_ | refine Any.mk fun b hb => ?_ | refine AskB.dec (fun hb => ?_) (fun hb => ?_) | refine AskB.ndec (fun hb => ?_) (fun hb => ?_) | refine AskB.mk (fun hb => ?_) (fun hb => ?_)) <;> conv => whnf) | ((with_reducible first | refine Run.drawX rfl (by decide +kernel) ?_ | refine Run.drawT rfl (by decide +kernel) ?_ | refine Run.drawW rfl (by decide +kernel) ?_); conv => whnf) | fail)
    refine Run.back 900 (ts := [2]) hsz hdf (.inr ⟨_, rfl⟩) (by rfl) Tryz.func33 rfl ?_
    exact fin _ (fun id e5 e90 e900 => by simp only [upd, scrubH, bldr, e5, e90, e900, cond_false])
theorem bt_bs (l : List UInt8) (i : Nat) : bt (bs l) i = ((l.getD i 0).toNat : Int) := by
  unfold bt bs
  simp [List.getD, Array.getD_eq_getD_getElem?]
theorem form1_fn (nn : Bool) (l : List UInt8) (ws : List Int) (hn : nn = false → bs l ≠ dashB) (hp : ∀ i, i < l.length → plainB (l.getD i 0) = true) (hs : l.length ≤ 1000000) : Fn Tryz.prog 57 [.agg 3 (tRd.enc ⟨nn, bs l, ws⟩)] (.str (if nn = true then dashB else bs l)) := by
  refine Fn.of Tryz.f57 _ Tryz.func57 rfl (by decide) (by show 1 ≤ _; decide) tbOk 54 rfl fun S w0 gl => ?_
  refine Run.go ?_; (conv => whnf); repeat' (first | ((with_reducible refine Know.mk fun _ => ?_); conv => whnf) | ((with_reducible refine Need.mk ?_ ?_); exact nd; conv => whnf) | ((with_reducible first | refine Both.mk ?_ ?_ | refine Any.mk fun b hb => ?_ | refine AskB.dec (fun hb => ?_) (fun hb => ?_) | refine AskB.ndec (fun hb => ?_) (fun hb => ?_) | refine AskB.mk (fun hb => ?_) (fun hb => ?_)) <;> conv => whnf) | ((with_reducible first | refine Run.drawX rfl (by decide +kernel) ?_ | refine Run.drawT rfl (by decide +kernel) ?_ | refine Run.drawW rfl (by decide +kernel) ?_); conv => whnf) | fail)
  · rw [if_pos hb]
    exact Run.leave (ts := [2]) (.inr ⟨_, rfl⟩) rfl Tryz.func57 rfl (Le.refl _)
  · exact absurd hb (hn (by assumption))
  have hnn : nn = false := by assumption
  rw [if_neg (by rw [hnn]; decide)]
  refine Run.holdBoxNil 3 1 90 5 1 (bytesG .empty) rfl rfl rfl rfl ?_
  refine Run.loop [1, 3, 15] (fun (a : Nat × AV) => [(16, .int .i64 (a.1 : Int))]) (fun a => [(1, .box 62 [.bool nn, .str (bs l), tI.L ws]), (3, .box 77 [a.2, .row 90]), (90, .row 5 1 (bs (l.take a.1)).size (bytesG (bs (l.take a.1))))]) (fun a => a.1 ≤ l.length ∧ (a.2 = .nilp ∨ a.2 = .box 3 0)) (fun a => l.length - a.1) (0, .nilp) ⟨Nat.zero_le _, .inl rfl⟩ ⟨Le.refl _, trivial⟩ ⟨MOle.refl _, MOle.refl _, MOle.refl _, trivial⟩ ?_
  intro ⟨i, p⟩ ⟨hi, hp2⟩ IH
  simp only [] at hi hp2 ⊢
  have hwi : IntKind.i64.wrap ((i : Int) + 1) = ((i + 1 : Nat) : Int) := wrap64 (by omega) (by omega)
  have hsz := bs_size l
  have hst : (bs (l.take i)).size ≤ 1000000 := by rw [bs_size, List.length_take]; omega
  by_cases hil : i < l.length
  · have hpi := hp i hil
    unfold plainB at hpi
    rw [Bool.and_eq_true, Bool.and_eq_true, decide_eq_true_eq, decide_eq_true_eq, beq_iff_eq] at hpi
    have hc : bt (bs l) (i : Int).toNat = ((l.getD i 0).toNat : Int) := bt_bs l i
    have hib : Lib.indexByte [59, 93, 92] (bt (bs l) (i : Int).toNat).toNat.toUInt8 = -1 := by
      rw [hc, Int.toNat_natCast, Nat.toUInt8, UInt8.ofNat_toNat]; exact hpi.2
    refine Run.go ?_; (conv => whnf); repeat' (first | ((with_reducible refine Know.mk fun _ => ?_); conv => whnf) | ((with_reducible refine Need.mk ?_ ?_); exact nd; conv => whnf) | ((with_reducible refine Both.mk ?_ ?_) <;> conv => whnf) | ((with_reducible refine Any.mk fun b hb => ?_); conv => whnf) | ((with_reducible first | refine AskB.dec (fun hb => ?_) (fun hb => ?_) | refine AskB.ndec (fun hb => ?_) (fun hb => ?_) | refine AskB.mk (fun hb => ?_) (fun hb => ?_)) <;> first | (exfalso; omega) | (conv => whnf)) | ((with_reducible first | refine Run.drawX rfl (by decide +kernel) ?_ | refine Run.drawT rfl (by decide +kernel) ?_ | refine Run.drawW rfl (by decide +kernel) ?_); conv => whnf) | fail)
    all_goals try (exfalso; omega)
    refine Run.callBX (ib47_fn [59, 93, 92] _) rfl rfl ⟨Le.refl _, Le.refl _, trivial⟩ rfl rfl rfl ?_
    rw [hib]
    (conv => whnf); repeat' (first | ((with_reducible refine Know.mk fun _ => ?_); conv => whnf) | ((with_reducible refine Need.mk ?_ ?_); exact nd; conv => whnf) | ((with_reducible refine Both.mk ?_ ?_) <;> conv => whnf) | ((with_reducible refine Any.mk fun b hb => ?_); conv => whnf) | ((with_reducible first | refine AskB.dec (fun hb => ?_) (fun hb => ?_) | refine AskB.ndec (fun hb => ?_) (fun hb => ?_) | refine AskB.mk (fun hb => ?_) (fun hb => ?_)) <;> first | (exfalso; omega) | (conv => whnf)) | ((with_reducible first | refine Run.drawX rfl (by decide +kernel) ?_ | refine Run.drawT rfl (by decide +kernel) ?_ | refine Run.drawW rfl (by decide +kernel) ?_); conv => whnf) | fail)
    all_goals try (exfalso; omega)
    refine Run.bldr 77 5 3 90 p (bs (l.take i)) (MOle.refl _) (MOle.refl _) ?_
    refine wb3 p _ (l.getD i 0) rfl rfl rfl rfl rfl ?_ (by omega) hp2 ?_
    · show AV.int .u8 (bt (bs l) (i : Int).toNat) = _
      rw [hc]
    refine Run.tidy [1, 3, 15, 16] [1, 3, 90] ?_; (conv => whnf)
    refine Run.go ?_; (conv => whnf); repeat' (first | ((with_reducible refine Know.mk fun _ => ?_); conv => whnf) | ((with_reducible refine Need.mk ?_ ?_); exact nd; conv => whnf) | ((with_reducible first | refine Both.mk ?_ ?_ | refine Any.mk fun b hb => ?_ | refine AskB.dec (fun hb => ?_) (fun hb => ?_) | refine AskB.ndec (fun hb => ?_) (fun hb => ?_) | refine AskB.mk (fun hb => ?_) (fun hb => ?_)) <;> conv => whnf) | ((with_reducible first | refine Run.drawX rfl (by decide +kernel) ?_ | refine Run.drawT rfl (by decide +kernel) ?_ | refine Run.drawW rfl (by decide +kernel) ?_); conv => whnf) | fail)
    refine Run.to _ _ ?_ ?_ (IH (i + 1, .box 3 0) (by simp only []; omega) ⟨by simp only []; omega, .inr rfl⟩)
    · exact ⟨Le.refl _, Le.refl _, Le.refl _, Le.int hwi, trivial⟩
    · refine ⟨MOle.refl _, MOle.refl _, ?_, trivial⟩
      have : bs (l.take i) ++ ⟨#[l.getD i 0]⟩ = bs (l.take (i + 1)) := by rw [bs_push, take_at l i 0 hil]
      rw [← this]
      exact MOle.refl _
  · obtain rfl : i = l.length := by omega
    refine Run.go ?_; (conv => whnf); repeat' (first | ((with_reducible refine Know.mk fun _ => ?_); conv => whnf) | ((with_reducible refine Need.mk ?_ ?_); exact nd; conv => whnf) | ((with_reducible refine Both.mk ?_ ?_) <;> conv => whnf) | ((with_reducible refine Any.mk fun b hb => ?_); conv => whnf) | ((with_reducible first | refine AskB.dec (fun hb => ?_) (fun hb => ?_) | refine AskB.ndec (fun hb => ?_) (fun hb => ?_) | refine AskB.mk (fun hb => ?_) (fun hb => ?_)) <;> first | (exfalso; omega) | (conv => whnf)) | ((with_reducible first | refine Run.drawX rfl (by decide +kernel) ?_ | refine Run.drawT rfl (by decide +kernel) ?_ | refine Run.drawW rfl (by decide +kernel) ?_); conv => whnf) | fail)
    all_goals try (exfalso; omega)
    refine Run.bldr 77 5 3 90 p (bs (l.take l.length)) (MOle.refl _) (MOle.refl _) ?_
    refine bs3 p _ rfl rfl rfl rfl rfl ?_
    refine Run.go ?_; (conv => whnf); repeat' (first | ((with_reducible refine Know.mk fun _ => ?_); conv => whnf) | ((with_reducible refine Need.mk ?_ ?_); exact nd; conv => whnf) | ((with_reducible first | refine Both.mk ?_ ?_ | refine Any.mk fun b hb => ?_ | refine AskB.dec (fun hb => ?_) (fun hb => ?_) | refine AskB.ndec (fun hb => ?_) (fun hb => ?_) | refine AskB.mk (fun hb => ?_) (fun hb => ?_)) <;> conv => whnf) | ((with_reducible first | refine Run.drawX rfl (by decide +kernel) ?_ | refine Run.drawT rfl (by decide +kernel) ?_ | refine Run.drawW rfl (by decide +kernel) ?_); conv => whnf) | fail)
    exact Run.leave (ts := [2]) (.inr ⟨_, rfl⟩) rfl Tryz.func57 rfl (Le.str (by rw [List.take_length]))
theorem small1_fn : Fn Tryz.prog 130 [.int .i64 1] (.str ⟨#[49]⟩) := by
  refine Fn.of Tryz.f130 _ Tryz.func130 rfl (by decide) (by show 1 ≤ _; decide) tbOk 15 rfl fun S w0 gl => ?_
  refine Run.go ?_; (conv => whnf); repeat' (first | ((with_reducible refine Know.mk fun _ => ?_); conv => whnf) | ((with_reducible refine Need.mk ?_ ?_); exact nd; conv => whnf) | ((with_reducible first | refine Both.mk ?_ ?_ | refine Any.mk fun b hb => ?_ | refine AskB.dec (fun hb => ?_) (fun hb => ?_) | refine AskB.ndec (fun hb => ?_) (fun hb => ?_) | refine AskB.mk (fun hb => ?_) (fun hb => ?_)) <;> conv => whnf) | ((with_reducible first | refine Run.drawX rfl (by decide +kernel) ?_ | refine Run.drawT rfl (by decide +kernel) ?_ | refine Run.drawW rfl (by decide +kernel) ?_); conv => whnf) | fail)
  all_goals first
    | exact Run.leave (ts := [2]) (.inr ⟨_, rfl⟩) rfl Tryz.func130 rfl (Le.str (by decide +kernel))
    | (exfalso; omega)
theorem fmtInt1_fn : Fn Tryz.prog 102 [.int .i64 1, .int .i64 10] (.str ⟨#[49]⟩) := by
  refine Fn.of Tryz.f102 _ Tryz.func102 rfl (by decide) (by show 2 ≤ _; decide) tbOk 54 rfl fun S w0 gl => ?_
  refine Run.go ?_; (conv => whnf); repeat' (first | ((with_reducible refine Know.mk fun _ => ?_); conv => whnf) | ((with_reducible refine Need.mk ?_ ?_); exact nd; conv => whnf) | ((with_reducible refine Both.mk ?_ ?_) <;> conv => whnf) | ((with_reducible refine Any.mk fun b hb => ?_); conv => whnf) | ((with_reducible first | refine AskB.dec (fun hb => ?_) (fun hb => ?_) | refine AskB.ndec (fun hb => ?_) (fun hb => ?_) | refine AskB.mk (fun hb => ?_) (fun hb => ?_)) <;> first | (exfalso; omega) | (conv => whnf)) | ((with_reducible first | refine Run.drawX rfl (by decide +kernel) ?_ | refine Run.drawT rfl (by decide +kernel) ?_ | refine Run.drawW rfl (by decide +kernel) ?_); conv => whnf) | fail)
  all_goals try (exfalso; omega)
  refine Run.callBX small1_fn rfl rfl ⟨Le.refl _, trivial⟩ rfl rfl rfl ?_
  (conv => whnf); repeat' (first | ((with_reducible refine Know.mk fun _ => ?_); conv => whnf) | ((with_reducible refine Need.mk ?_ ?_); exact nd; conv => whnf) | ((with_reducible first | refine Both.mk ?_ ?_ | refine Any.mk fun b hb => ?_ | refine AskB.dec (fun hb => ?_) (fun hb => ?_) | refine AskB.ndec (fun hb => ?_) (fun hb => ?_) | refine AskB.mk (fun hb => ?_) (fun hb => ?_)) <;> conv => whnf) | ((with_reducible first | refine Run.drawX rfl (by decide +kernel) ?_ | refine Run.drawT rfl (by decide +kernel) ?_ | refine Run.drawW rfl (by decide +kernel) ?_); conv => whnf) | fail)
  exact Run.leave (ts := [4]) (.inr ⟨_, rfl⟩) rfl Tryz.func102 rfl (Le.refl _)
theorem itoaI1_fn : Fn Tryz.prog 78 [.int .i64 1] (.str ⟨#[49]⟩) := by
  refine Fn.of Tryz.f78 _ Tryz.func78 rfl (by decide) (by show 1 ≤ _; decide) tbOk 5 rfl fun S w0 gl => ?_
  refine Run.go ?_; (conv => whnf); repeat' (first | ((with_reducible refine Know.mk fun _ => ?_); conv => whnf) | ((with_reducible refine Need.mk ?_ ?_); exact nd; conv => whnf) | ((with_reducible first | refine Both.mk ?_ ?_ | refine Any.mk fun b hb => ?_ | refine AskB.dec (fun hb => ?_) (fun hb => ?_) | refine AskB.ndec (fun hb => ?_) (fun hb => ?_) | refine AskB.mk (fun hb => ?_) (fun hb => ?_)) <;> conv => whnf) | ((with_reducible first | refine Run.drawX rfl (by decide +kernel) ?_ | refine Run.drawT rfl (by decide +kernel) ?_ | refine Run.drawW rfl (by decide +kernel) ?_); conv => whnf) | fail)
  refine Run.callBX fmtInt1_fn rfl rfl ⟨Le.refl _, Le.refl _, trivial⟩ rfl rfl rfl ?_
  (conv => whnf); repeat' (first | ((with_reducible refine Know.mk fun _ => ?_); conv => whnf) | ((with_reducible refine Need.mk ?_ ?_); exact nd; conv => whnf) | ((with_reducible first | refine Both.mk ?_ ?_ | refine Any.mk fun b hb => ?_ | refine AskB.dec (fun hb => ?_) (fun hb => ?_) | refine AskB.ndec (fun hb => ?_) (fun hb => ?_) | refine AskB.mk (fun hb => ?_) (fun hb => ?_)) <;> conv => whnf) | ((with_reducible first | refine Run.drawX rfl (by decide +kernel) ?_ | refine Run.drawT rfl (by decide +kernel) ?_ | refine Run.drawW rfl (by decide +kernel) ?_); conv => whnf) | fail)
  exact Run.leave (ts := [2]) (.inr ⟨_, rfl⟩) rfl Tryz.func78 rfl (Le.refl _)
theorem itoa1_fn : Fn Tryz.prog 58 [.int .i64 1] (.str ⟨#[49]⟩) := by
  refine Fn.of Tryz.f58 _ Tryz.func58 rfl (by decide) (by show 1 ≤ _; decide) tbOk 5 rfl fun S w0 gl => ?_
  refine Run.go ?_; (conv => whnf); repeat' (first | ((with_reducible refine Know.mk fun _ => ?_); conv => whnf) | ((with_reducible refine Need.mk ?_ ?_); exact nd; conv => whnf) | ((with_reducible first | refine Both.mk ?_ ?_ | refine Any.mk fun b hb => ?_ | refine AskB.dec (fun hb => ?_) (fun hb => ?_) | refine AskB.ndec (fun hb => ?_) (fun hb => ?_) | refine AskB.mk (fun hb => ?_) (fun hb => ?_)) <;> conv => whnf) | ((with_reducible first | refine Run.drawX rfl (by decide +kernel) ?_ | refine Run.drawT rfl (by decide +kernel) ?_ | refine Run.drawW rfl (by decide +kernel) ?_); conv => whnf) | fail)
  refine Run.callBX itoaI1_fn rfl rfl ⟨Le.refl _, trivial⟩ rfl rfl rfl ?_
  (conv => whnf); repeat' (first | ((with_reducible refine Know.mk fun _ => ?_); conv => whnf) | ((with_reducible refine Need.mk ?_ ?_); exact nd; conv => whnf) | ((with_reducible first | refine Both.mk ?_ ?_ | refine Any.mk fun b hb => ?_ | refine AskB.dec (fun hb => ?_) (fun hb => ?_) | refine AskB.ndec (fun hb => ?_) (fun hb => ?_) | refine AskB.mk (fun hb => ?_) (fun hb => ?_)) <;> conv => whnf) | ((with_reducible first | refine Run.drawX rfl (by decide +kernel) ?_ | refine Run.drawT rfl (by decide +kernel) ?_ | refine Run.drawW rfl (by decide +kernel) ?_); conv => whnf) | fail)
  exact Run.leave (ts := [2]) (.inr ⟨_, rfl⟩) rfl Tryz.func58 rfl (Le.refl _)
theorem join1_fn (s sep : ByteArray) : Fn Tryz.prog 59 [tS.L [s], .str sep] (.str s) := by
  refine Fn.of Tryz.f59 _ Tryz.func59 rfl (by decide) (by show 2 ≤ _; decide) tbOk 75 rfl fun S w0 gl => ?_
  have hl : [s].length = 1 := rfl
  refine Run.go ?_; (conv => whnf); repeat' (first | ((with_reducible refine Know.mk fun _ => ?_); conv => whnf) | ((with_reducible refine Need.mk ?_ ?_); exact nd; conv => whnf) | ((with_reducible refine Both.mk ?_ ?_) <;> conv => whnf) | ((with_reducible refine Any.mk fun b hb => ?_); conv => whnf) | ((with_reducible first | refine AskB.dec (fun hb => ?_) (fun hb => ?_) | refine AskB.ndec (fun hb => ?_) (fun hb => ?_) | refine AskB.mk (fun hb => ?_) (fun hb => ?_)) <;> first | (exfalso; omega) | (conv => whnf)) | ((with_reducible first | refine Run.drawX rfl (by decide +kernel) ?_ | refine Run.drawT rfl (by decide +kernel) ?_ | refine Run.drawW rfl (by decide +kernel) ?_); conv => whnf) | fail)
  all_goals try (exfalso; omega)
  exact Run.leave (ts := [4]) (.inr ⟨_, rfl⟩) rfl Tryz.func59 rfl (Le.refl _)
end Go.Proofs.YteklnpgiloebcaaGreatDoor.V

namespace Go.Proofs.YteklnpgiloebcaaGreatDoor.V
set_option linter.unusedVariables false
set_option linter.unusedSimpArgs false
open Go Go.Proofs Go.RowKit
set_option maxRecDepth 100000
set_option maxHeartbeats 1000000
theorem right_fn (e : En) (n : Int) (h0 : 1 ≤ n) (h1 : n ≤ 12) : Fn Tryz.prog 34 [.agg 2 (tEn.enc e), .int .i64 n] (.bool (decide (Right n e.rds))) := by
  refine Fn.of Tryz.f34 _ Tryz.func34 rfl (by decide) (by show 2 ≤ _; decide) tbOk 90 rfl fun S w0 gl => ?_
  refine Run.go ?_; (conv => whnf); repeat' (first | ((with_reducible refine Know.mk fun _ => ?_); conv => whnf) | ((with_reducible refine Need.mk ?_ ?_); exact nd; conv => whnf) | ((with_reducible first | refine Both.mk ?_ ?_ | refine Any.mk fun b hb => ?_ | refine AskB.dec (fun hb => ?_) (fun hb => ?_) | refine AskB.ndec (fun hb => ?_) (fun hb => ?_) | refine AskB.mk (fun hb => ?_) (fun hb => ?_)) <;> conv => whnf) | ((with_reducible first | refine Run.drawX rfl (by decide +kernel) ?_ | refine Run.drawT rfl (by decide +kernel) ?_ | refine Run.drawW rfl (by decide +kernel) ?_); conv => whnf) | fail)
  refine Run.loop [1,2,5,6,16,17] (fun i : Nat => [(7, .int .i64 (lastW (e.rds.take i))), (18, .int .i64 (i : Int))])
    (fun i => [(2, .box 59 [.int .i64 e.col, tRd.L e.rds]), (13, .mp (.ib (fl (e.rds.take i)))), (14, .mp (.sb ((e.rds.take i).map (·.text))))])
    (fun i => i ≤ e.rds.length ∧ Part n (e.rds.take i)) (fun i => e.rds.length - i) 0 ⟨Nat.zero_le _, ⟨by simp, by simp [fl], by simp⟩⟩ ⟨Le.refl _, Le.refl _, trivial⟩ ⟨MOle.refl _, rfl, rfl, trivial⟩ ?_
  intro i ⟨hi, hP⟩ IH
  refine Run.go ?_; (conv => whnf); repeat' (first | ((with_reducible refine Know.mk fun _ => ?_); conv => whnf) | ((with_reducible refine Need.mk ?_ ?_); exact nd; conv => whnf) | ((with_reducible first | refine Both.mk ?_ ?_ | refine Any.mk fun b hb => ?_ | refine AskB.dec (fun hb => ?_) (fun hb => ?_) | refine AskB.ndec (fun hb => ?_) (fun hb => ?_) | refine AskB.mk (fun hb => ?_) (fun hb => ?_)) <;> conv => whnf) | ((with_reducible first | refine Run.drawX rfl (by decide +kernel) ?_ | refine Run.drawT rfl (by decide +kernel) ?_ | refine Run.drawW rfl (by decide +kernel) ?_); conv => whnf) | fail)
  · refine Run.leave (ts := [4]) (.inr ⟨_, rfl⟩) rfl Tryz.func34 rfl (Le.bool (decide_eq_false fun hR => ?_).symm)
    rw [Int.toNat_natCast] at hb
    exact (hR.1.each _ (getD_mem (z := tRd.z) i (by omega))).some (List.length_eq_zero_iff.mp (by omega))
  · refine Run.leave (ts := [4]) (.inr ⟨_, rfl⟩) rfl Tryz.func34 rfl (Le.bool (decide_eq_false fun hR => ?_).symm)
    rw [Int.toNat_natCast] at hb
    exact absurd (lastW_lt hR.1 (show i < e.rds.length by omega)) (Int.not_lt.mpr (by rw [head_get]; exact hb))
  · refine Run.leave (ts := [4]) (.inr ⟨_, rfl⟩) rfl Tryz.func34 rfl (Le.bool (decide_eq_false fun hR => ?_).symm)
    rw [Int.toNat_natCast] at hb
    have := (hR.1.each _ (getD_mem (z := tRd.z) _ (show i < e.rds.length by omega))).nons
    rw [this] at hb
    simp at hb
  · refine Run.leave (ts := [4]) (.inr ⟨_, rfl⟩) rfl Tryz.func34 rfl (Le.bool (decide_eq_false fun hR => ?_).symm)
    rw [Int.toNat_natCast, hasK_iff] at hb
    obtain ⟨p, hp, hpt⟩ := List.mem_map.mp hb
    obtain ⟨m, hm, rfl⟩ := List.getElem_of_mem hp
    have hmi : m < i := by simp at hm; omega
    have := (pair_atG (z := tRd.z) hR.1.apart hmi (by omega)).1
    refine this ?_
    rw [← hpt]
    simp [List.getD, show m < e.rds.length by omega]
  · have hil : i < e.rds.length := by omega
    have hmem : e.rds.getD (↑i : Int).toNat tRd.z ∈ e.rds := by rw [Int.toNat_natCast]; exact getD_mem i hil
    have hfl : fl (e.rds.take (i + 1)) = fl (e.rds.take i) ++ (e.rds.getD (↑i : Int).toNat tRd.z).wits := by rw [Int.toNat_natCast]; exact fl_take _ _ _ hil
    have hsub : ∃ rest, fl e.rds = fl (e.rds.take i) ++ (e.rds.getD (↑i : Int).toNat tRd.z).wits ++ rest := by rw [Int.toNat_natCast]; exact fl_sub _ _ _ hil
    have htk : e.rds.take (i + 1) = e.rds.take i ++ [e.rds.getD (↑i : Int).toNat tRd.z] := by rw [Int.toNat_natCast]; exact take_get _ _ _ hil
    rename_i hwl hlast hrn0 hkn
    generalize hr : e.rds.getD (↑i : Int).toNat tRd.z = r at *
    rw [hasK_not] at hb
    have hbt := hb
    have htx : ins r.text ((e.rds.take i).map (·.text)) = (e.rds.take (i + 1)).map (·.text) := by rw [ins_new hb, htk]; simp
    refine Run.loop [1,2,5,6,7,16,17,18,56,57] (fun k : Nat => [(10, .int .i64 (if k = 0 then -1 else r.wits.getD (k - 1) 0)), (58, .int .i64 (k : Int))])
      (fun k => [(2, .box 59 [.int .i64 e.col, tRd.L e.rds]), (13, .mp (.ib (fl (e.rds.take i) ++ r.wits.take k))), (14, .mp (.sb ((e.rds.take (i + 1)).map (·.text))))])
      (fun k => k ≤ r.wits.length ∧ (r.wits.take k).Pairwise (· < ·) ∧ (∀ w ∈ r.wits.take k, 0 ≤ w ∧ w < n) ∧ (fl (e.rds.take i) ++ r.wits.take k).Nodup) (fun k => r.wits.length - k) 0
      ⟨Nat.zero_le _, by simp, by simp, by simpa using hP.nodup⟩ ⟨Le.refl _, Le.refl _, trivial⟩ ⟨?_, ?_, ?_, trivial⟩ ?_
    · exact MOle.refl _
    · simp only [List.take_zero, List.append_nil]; exact MOle.refl _
    · rw [← htx]; exact MOle.refl _
    intro k ⟨hk, hup, hrng, hnd⟩ IHk
    refine Run.go ?_; (conv => whnf); repeat' (first | ((with_reducible refine Know.mk fun _ => ?_); conv => whnf) | ((with_reducible refine Need.mk ?_ ?_); exact nd; conv => whnf) | ((with_reducible first | refine Both.mk ?_ ?_ | refine Any.mk fun b hb => ?_ | refine AskB.dec (fun hb => ?_) (fun hb => ?_) | refine AskB.ndec (fun hb => ?_) (fun hb => ?_) | refine AskB.mk (fun hb => ?_) (fun hb => ?_)) <;> conv => whnf) | ((with_reducible first | refine Run.drawX rfl (by decide +kernel) ?_ | refine Run.drawT rfl (by decide +kernel) ?_ | refine Run.drawW rfl (by decide +kernel) ?_); conv => whnf) | fail)
    · refine Run.leave (ts := [4]) (.inr ⟨_, rfl⟩) rfl Tryz.func34 rfl (Le.bool (decide_eq_false fun hR => ?_).symm)
      rw [Int.toNat_natCast] at hb
      have h9 := (hR.1.each _ hmem).rng _ (getD_mem (z := 0) k (show k < r.wits.length by omega))
      have hb' : r.wits.getD k 0 ≤ if k = 0 then -1 else r.wits.getD (k - 1) 0 := hb
      by_cases hk0 : k = 0
      · rw [if_pos hk0] at hb'; omega
      · rw [if_neg hk0] at hb'
        have := pair_at (hR.1.each _ hmem).up (show k - 1 < k by omega) (by omega)
        omega
    · refine Run.leave (ts := [4]) (.inr ⟨_, rfl⟩) rfl Tryz.func34 rfl (Le.bool (decide_eq_false fun hR => ?_).symm)
      rw [Int.toNat_natCast] at hb
      have := ((hR.1.each _ hmem).rng _ (getD_mem (z := tI.z) k (by omega))).2
      omega
    · refine Run.leave (ts := [4]) (.inr ⟨_, rfl⟩) rfl Tryz.func34 rfl (Le.bool (decide_eq_false fun hR => ?_).symm)
      rw [Int.toNat_natCast, hasK_iff] at hb
      obtain ⟨rest, hrest⟩ := hsub
      have hn := hR.1.nodup
      rw [hrest, all_get tI.z r.wits k (by omega), ← List.append_assoc, List.append_assoc] at hn
      exact (List.nodup_append.mp hn).2.2 _ hb _ (by simp) rfl
    · rename_i hpv hwn
      rw [Int.toNat_natCast, hasK_not] at hb
      have hb : r.wits.getD k 0 ∉ fl (e.rds.take i) ++ r.wits.take k := hb
      rw [Int.toNat_natCast] at hpv hwn
      have hpv' : (if k = 0 then -1 else r.wits.getD (k - 1) 0) < r.wits.getD k 0 := Int.not_le.mp hpv
      have hwn' : r.wits.getD k 0 < n := Int.not_le.mp hwn
      have htk2 := take_get 0 r.wits k (by omega)
      have hw0' : 0 ≤ r.wits.getD k 0 := by
        by_cases hk0 : k = 0
        · rw [if_pos hk0] at hpv'; omega
        · rw [if_neg hk0] at hpv'
          have : r.wits.getD (k - 1) 0 ∈ r.wits.take k := by
            have h2 : (r.wits.take k).getD (k - 1) 0 = r.wits.getD (k - 1) 0 := by simp [List.getD, show k - 1 < k by omega]
            rw [← h2]; exact getD_mem (k - 1) (by simp; omega)
          have := (hrng _ this).1; omega
      refine Run.to _ _ ?_ ?_ (IHk (k + 1) (by omega) ⟨by omega, pair_push (R := fun a b => a < b) (fun a b c => Int.lt_trans) (show k < r.wits.length by omega) hup (fun h => by rw [if_neg (by omega)] at hpv'; exact hpv'), fun w hw => ?_, ?_⟩)
      · refine ⟨Le.refl _, Le.refl _, Le.refl _, Le.refl _, Le.refl _, Le.refl _, Le.refl _, Le.refl _, Le.refl _, Le.refl _, ?_, Le.wrap64 (by omega) (by omega) (by omega), trivial⟩
        show Le (.int .i64 (r.wits.getD k 0)) (.int .i64 (if k + 1 = 0 then -1 else r.wits.getD (k + 1 - 1) 0))
        rw [if_neg (Nat.succ_ne_zero k)]
        exact Le.refl _
      · refine ⟨MOle.refl _, ?_, MOle.refl _, trivial⟩
        show MOle (.mp (.ib (ins (r.wits.getD k 0) (fl (e.rds.take i) ++ r.wits.take k)))) (.mp (.ib (fl (e.rds.take i) ++ r.wits.take (k + 1))))
        rw [htk2, ← List.append_assoc, ins_new hb]
        exact MOle.refl _
      · rw [htk2] at hw
        rcases List.mem_append.mp hw with hw | hw
        · exact hrng w hw
        · have : w = r.wits.getD k 0 := by simpa using hw
          omega
      · rw [htk2, ← List.append_assoc]
        exact List.nodup_append.mpr ⟨hnd, by simp, fun a ha b hb2 e => hb (by rw [← (show b = r.wits.getD k 0 by simpa using hb2), ← e]; exact ha)⟩
    · have hkl : k = r.wits.length := by omega
      subst hkl
      rw [List.take_length] at hnd hrng hup
      have hnew : Part n (e.rds.take (i + 1)) := by
        rw [htk]
        refine ⟨fun r' hr' => ?_, ?_, ?_⟩
        · rcases List.mem_append.mp hr' with h | h
          · exact hP.each r' h
          · have : r' = r := by simpa using h
            subst this
            exact ⟨fun e9 => hwl (by rw [e9]; rfl), by simpa using hrn0, hup, hrng⟩
        · rw [fl_append]; simpa [fl] using hnd
        · refine List.pairwise_append.mpr ⟨hP.apart, by simp, fun p hp q hq => ?_⟩
          have : q = r := by simpa using hq
          subst this
          refine ⟨fun e9 => ?_, ?_⟩
          · exact hbt (List.mem_map.mpr ⟨p, hp, e9⟩)
          · rw [head_get q.wits]
            exact Int.lt_of_le_of_lt (lastW_ge hP hp) (Int.not_le.mp hlast)
      refine Run.to _ _ ?_ ?_ (IH (i + 1) (by omega) ⟨by omega, hnew⟩)
      · refine ⟨Le.refl _, Le.refl _, Le.refl _, Le.refl _, Le.refl _, Le.refl _, Le.int ?_, Le.wrap64 (by omega) (by omega) (by omega), trivial⟩
        rw [htk]; simp only [lastW, List.getLast?_append, List.getLast?_singleton, Option.some_or, Option.map_some, Option.getD_some, head_get]; rfl
      · refine ⟨MOle.refl _, ?_, MOle.refl _, trivial⟩
        rw [hfl, List.take_length]; exact MOle.refl _
  · refine Run.leave (ts := [4]) (.inr ⟨_, rfl⟩) rfl Tryz.func34 rfl (Le.bool ?_)
    have : i = e.rds.length := by omega
    subst this
    rw [List.take_length] at hP ⊢
    rw [decide_eq_decide]
    exact ⟨fun h => ⟨hP, by omega, h⟩, fun h => h.2.2⟩
  · refine Run.leave (ts := [4]) (.inr ⟨_, rfl⟩) rfl Tryz.func34 rfl (Le.bool (decide_eq_false ?_).symm)
    rintro ⟨_, h2, _⟩; omega

end Go.Proofs.YteklnpgiloebcaaGreatDoor.V

namespace Go.Proofs.YteklnpgiloebcaaGreatDoor.V
set_option linter.unusedVariables false
set_option linter.unusedSimpArgs false
open Go Go.Proofs Go.RowKit
set_option maxRecDepth 100000
set_option maxHeartbeats 1000000
theorem appCheck_fn (es : List En) (n c : Int) : Fn Tryz.prog 16 [tEn.L es, .int .i64 n, .int .i64 c] (.int .i64 (chk es n c)) := by
  refine Fn.of Tryz.f16 _ Tryz.func16 rfl (by decide) (by show 3 ≤ _; decide) tbOk 49 rfl fun S w0 gl => ?_
  refine Run.go ?_; (conv => whnf); repeat' (first | ((with_reducible refine Know.mk fun _ => ?_); conv => whnf) | ((with_reducible refine Need.mk ?_ ?_); exact nd; conv => whnf) | ((with_reducible first | refine Both.mk ?_ ?_ | refine Any.mk fun b hb => ?_ | refine AskB.dec (fun hb => ?_) (fun hb => ?_) | refine AskB.ndec (fun hb => ?_) (fun hb => ?_) | refine AskB.mk (fun hb => ?_) (fun hb => ?_)) <;> conv => whnf) | ((with_reducible first | refine Run.drawX rfl (by decide +kernel) ?_ | refine Run.drawT rfl (by decide +kernel) ?_ | refine Run.drawW rfl (by decide +kernel) ?_); conv => whnf) | fail)
  iterate 4 (· exact Run.leave (ts := [6]) (.inr ⟨_, rfl⟩) rfl Tryz.func16 rfl (Le.int (by unfold chk; rw [if_pos (by omega)])))
  refine Run.loop [1,2,24,25] (fun i : Nat => [(7, .int .i64 (if i = 0 then -1 else (es.getD (i - 1) tEn.z).col)), (26, .int .i64 (i : Int))]) (fun i => [])
    (fun i => i ≤ es.length ∧ Good n c (es.take i)) (fun i => es.length - i) 0 ⟨Nat.zero_le _, ⟨by simp, by simp⟩⟩ ⟨Le.refl _, Le.refl _, trivial⟩ trivial ?_
  intro i ⟨hi, hG⟩ IH
  refine Run.go ?_; (conv => whnf); repeat' (first | ((with_reducible refine Know.mk fun _ => ?_); conv => whnf) | ((with_reducible refine Need.mk ?_ ?_); exact nd; conv => whnf) | ((with_reducible first | refine Both.mk ?_ ?_ | refine Any.mk fun b hb => ?_ | refine AskB.dec (fun hb => ?_) (fun hb => ?_) | refine AskB.ndec (fun hb => ?_) (fun hb => ?_) | refine AskB.mk (fun hb => ?_) (fun hb => ?_)) <;> conv => whnf) | ((with_reducible first | refine Run.drawX rfl (by decide +kernel) ?_ | refine Run.drawT rfl (by decide +kernel) ?_ | refine Run.drawW rfl (by decide +kernel) ?_); conv => whnf) | fail)
  · refine Run.leave (ts := [6]) (.inr ⟨_, rfl⟩) rfl Tryz.func16 rfl (Le.int ?_)
    rw [Int.toNat_natCast] at hb
    unfold chk
    rw [if_neg (by omega), if_neg (fun hG' => ?_)]
    exact absurd (good_up hG' (show i < es.length by omega)) (Int.not_lt.mpr hb)
  · refine Run.leave (ts := [6]) (.inr ⟨_, rfl⟩) rfl Tryz.func16 rfl (Le.int ?_)
    rw [Int.toNat_natCast] at hb
    unfold chk
    rw [if_neg (by omega), if_neg (fun hG' => ?_)]
    have := (hG'.each _ (getD_mem (z := tEn.z) i (by omega))).2.1
    omega
  · refine Run.callAX (right_fn (es.getD i tEn.z) n (by omega) (by omega)) rfl rfl ⟨?_, ?_, trivial⟩ rfl rfl rfl ?_
    · refine Le.agg fun j hj => ?_
      match j, hj with
      | 0, _ => exact Le.refl _
      | 1, _ => exact Le.refl _
    · exact Le.refl _
    (conv => whnf); repeat' (first | ((with_reducible refine Know.mk fun _ => ?_); conv => whnf) | ((with_reducible refine Need.mk ?_ ?_); exact nd; conv => whnf) | ((with_reducible first | refine Both.mk ?_ ?_ | refine Any.mk fun b hb => ?_ | refine AskB.dec (fun hb => ?_) (fun hb => ?_) | refine AskB.ndec (fun hb => ?_) (fun hb => ?_) | refine AskB.mk (fun hb => ?_) (fun hb => ?_)) <;> conv => whnf) | ((with_reducible first | refine Run.drawX rfl (by decide +kernel) ?_ | refine Run.drawT rfl (by decide +kernel) ?_ | refine Run.drawW rfl (by decide +kernel) ?_); conv => whnf) | fail)
    · rename_i hlast hcol
      rw [Int.toNat_natCast] at hlast hcol
      refine Run.to _ _ ?_ ?_ (IH (i + 1) (by omega) ⟨by omega, ?_⟩)
      · exact ⟨Le.refl _, Le.refl _, Le.refl _, Le.refl _, Le.int (by rw [Int.toNat_natCast, if_neg (Nat.succ_ne_zero i)]; rfl), Le.wrap64 (by omega) (by omega) (by omega), trivial⟩
      · exact trivial
      · exact good_push hG (by omega) (Int.not_le.mp hlast) (Int.not_le.mp hcol) hb
    · refine Run.leave (ts := [6]) (.inr ⟨_, rfl⟩) rfl Tryz.func16 rfl (Le.int ?_)
      unfold chk
      rw [if_neg (by omega), if_neg (fun hG' => ?_)]
      exact hb (hG'.each _ (getD_mem (z := tEn.z) i (by omega))).2.2
  · refine Run.leave (ts := [6]) (.inr ⟨_, rfl⟩) rfl Tryz.func16 rfl (Le.int ?_)
    have : i = es.length := by omega
    subst this
    rw [List.take_length] at hG
    unfold chk
    rw [if_neg (by omega), if_pos hG]

end Go.Proofs.YteklnpgiloebcaaGreatDoor.V

namespace Go.Proofs.YteklnpgiloebcaaGreatDoor.V
set_option linter.unusedVariables false
set_option linter.unusedSimpArgs false
open Go Go.Proofs Go.RowKit
set_option maxRecDepth 100000
theorem noCells : wordsOf .empty = ((.empty, []), 0) := by
  have ht : toksOf .empty = [] := by
    unfold toksOf
    rw [if_neg (by decide), cells_out (by decide), toks_out (by decide)]
  rw [wordsOf_fit (by decide) (by rw [ht]; decide), ht]; rfl
theorem awRight0 : rightB .empty [] = true := by
  unfold rightB
  rw [show ByteArray.empty ++ catW [] = .empty by decide +kernel, noCells]
  exact decide_eq_true rfl
theorem two {P : Nat → Prop} (h0 : P 0) (h1 : P 1) : ∀ i, i < 2 → P i
  | 0, _ => h0
  | 1, _ => h1
  | i + 2, h => absurd h (by omega)
end Go.Proofs.YteklnpgiloebcaaGreatDoor.V

