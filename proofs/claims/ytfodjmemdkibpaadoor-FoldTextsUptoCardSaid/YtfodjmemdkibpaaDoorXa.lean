/-
The proof of life of folding's laws: a ligature, a case, a bad byte, a wrong number.
-/
import Derived.Test.YtfodjmemdkibpaaDoorWz
import Derived.Test.YtfodjmemdkibpaaDoorRe
namespace Go.Proofs.YtfodjmemdkibpaaDoor.V
open Go Go.Proofs Go.RowKit
set_option linter.unusedVariables false
set_option linter.unusedSimpArgs false
set_option maxRecDepth 100000
set_option maxHeartbeats 4000000
open Go Go.Proofs Go.Proofs.YtfodjmemdkibpaaDoor.V
theorem bt_get! (s : ByteArray) (i : Nat) : ((s.get! i).toNat : Int) = bt s i := by
  unfold bt
  cases s with | mk a => 
  show ((a[i]!).toNat : Int) = _
  simp only [List.getD_eq_getElem?_getD, Array.getElem?_toList]
  rw [← Array.getD_eq_getD_getElem?]
  rfl
/-- A text of small bytes: its runes are its bytes. -/
theorem dec_ascii {s : ByteArray} {p : Nat} (h : bt s p < 128) : Utf8.decode s p = ((bt s p).toNat, 1) := by
  unfold Utf8.decode
  have e := bt_get! s p
  have h1 : (s.get! p).toNat < 128 := by omega
  simp only [Nat.add_zero, if_pos h1]
  rw [← e]; rfl
theorem runes_ascii (s : ByteArray) (h : ∀ i, bt s i < 128) (p : Nat) : runesE s p = (s.data.toList.drop p).map fun b => (b.toNat : Int) := by
  by_cases hp : p < s.size
  · have hp' : p < s.data.toList.length := by simpa using hp
    rw [runesE_in hp, dec_ascii (h p), runes_ascii s h (p + 1), List.drop_eq_getElem_cons hp', List.map_cons]
    congr 1
    unfold bt
    rw [List.getD, List.getElem?_eq_getElem hp']
    simp
  · have hp' : s.data.toList.length ≤ p := by simpa using hp
    rw [runesE_out hp, List.drop_eq_nil_of_le hp']; rfl
termination_by s.size - p
def bytesI (s : ByteArray) : List Int := s.data.toList.map fun b => (b.toNat : Int)
theorem ligB_ascii (r : Int) (i : Nat) : bt (ligB r) i < 128 := by
  have key : ∀ s : ByteArray, (s.data.toList.all fun b => b.toNat < 128) = true → bt s i < 128 := fun s hs => by
    unfold bt
    by_cases hi : i < s.data.toList.length
    · rw [List.getD, List.getElem?_eq_getElem hi]
      have := List.all_eq_true.mp hs _ (List.getElem_mem hi)
      have := of_decide_eq_true this
      simp only [Option.getD_some]; omega
    · rw [List.getD, List.getElem?_eq_none (by omega)]; decide
  apply key
  unfold ligB
  repeat' split
  all_goals first | rfl | skip
  rename_i h
  obtain ⟨k, hk⟩ : ∃ k : Fin 7, k.val = (r - 64256).toNat := ⟨⟨(r - 64256).toNat, by omega⟩, rfl⟩
  rw [← hk]
  clear hk h
  revert k; decide +kernel
theorem runes_lig (r : Int) : runesE (ligB r) 0 = bytesI (ligB r) := runes_ascii _ (ligB_ascii r) 0
theorem runesV_eq (r o : Int) : runesV r o = if isLig r = true ∧ o / 4 % 2 = 1 then bytesI (ligB r) else [r] := by
  unfold runesV
  rw [runes_lig]
def awF : ByteArray := ⟨#[197, 146, 117, 118, 114, 101, 255]⟩
def awG : ByteArray := ⟨#[111, 101, 117, 117, 114, 101, 255]⟩
def awC : List Cel := [⟨0, 2, 338, false, 0⟩, ⟨2, 1, 117, false, 0⟩, ⟨3, 1, 118, false, 0⟩, ⟨4, 1, 114, false, 0⟩, ⟨5, 1, 101, false, 0⟩, ⟨6, 1, 65533, true, 255⟩]
theorem awFcells : cells awF 0 = awC := by
  have c : ∀ p r w, Utf8.decode awF p = (r, w) → ¬ (r = 65533 ∧ w = 1) → p < 7 → cells awF p = ⟨p, w, r, false, 0⟩ :: cells awF (p + w) := fun p r w h hr hp => by
    rw [cells_in (show p < awF.size from hp), cellAt_good awF p r w h hr, h]
  rw [c 0 338 2 (by decide +kernel) (by decide) (by decide), c 2 117 1 (by decide +kernel) (by decide) (by decide), c 3 118 1 (by decide +kernel) (by decide) (by decide), c 4 114 1 (by decide +kernel) (by decide) (by decide), c 5 101 1 (by decide +kernel) (by decide) (by decide),
    cells_in (by decide), cellAt_bad awF 6 (by decide +kernel), cells_out (by decide +kernel)]
  rfl
theorem awFtext : textF awF 31 = awG := by
  unfold textF
  rw [awFcells]
  simp only [awC, catC, cellF, foldR, runesV_eq]
  decide +kernel
theorem awake24_fn : Fn Tryd.prog 24 [] .tt := by
  have h1 : textL awF 31 = tupL [.str awG, .int .i64 0] := by unfold textL; rw [awFtext, if_neg (by decide), if_neg (by decide)]
  have h2 : textL ⟨#[97]⟩ 32 = tupL [.str .empty, .int .i64 2] := by unfold textL; rw [if_pos (by decide), if_pos (by decide)]
  refine Fn.of Tryd.f24 _ Tryd.func24 rfl (by decide) (by show 0 ≤ _; decide) tbOk 23 rfl fun S w0 gl => ?_
  refine Run.go ?_; (conv => whnf); repeat' (first | ((with_reducible refine Know.mk fun _ => ?_); conv => whnf) | ((with_reducible refine Need.mk ?_ ?_); (first | omega | (dsimp only; omega) | decide | exact bytes_le (by rfl) (by omega) | exact ⟨rfl, by omega, bytes_le (by rfl) (by omega), by omega⟩ | (refine ⟨?_, ?_⟩ <;> (rw [wrap64 (by omega) (by omega)]; omega))); conv => whnf) | ((with_reducible refine Both.mk ?_ ?_) <;> conv => whnf) | ((with_reducible refine Any.mk fun b hb => ?_); conv => whnf) | ((with_reducible refine AskB.dec (fun hb => ?_) (fun hb => ?_)) <;> conv => whnf) | ((with_reducible refine AskB.ndec (fun hb => ?_) (fun hb => ?_)) <;> conv => whnf) | ((with_reducible refine AskB.mk (fun hb => ?_) (fun hb => ?_)) <;> conv => whnf) | ((with_reducible refine Run.drawX rfl (by decide +kernel) ?_); conv => whnf) | ((with_reducible refine Run.drawT rfl (by decide +kernel) ?_); conv => whnf) | ((with_reducible refine Run.drawW rfl (by decide +kernel) ?_); conv => whnf) | fail)
  refine Run.callBX (text26_fn awF 31 (by decide)) rfl rfl ⟨Le.refl _, Le.refl _, trivial⟩ rfl rfl rfl ?_
  rw [h1]
  (conv => whnf); repeat' (first | ((with_reducible refine Know.mk fun _ => ?_); conv => whnf) | ((with_reducible refine Need.mk ?_ ?_); (first | omega | (dsimp only; omega) | decide | exact bytes_le (by rfl) (by omega) | exact ⟨rfl, by omega, bytes_le (by rfl) (by omega), by omega⟩ | (refine ⟨?_, ?_⟩ <;> (rw [wrap64 (by omega) (by omega)]; omega))); conv => whnf) | ((with_reducible refine Both.mk ?_ ?_) <;> conv => whnf) | ((with_reducible refine Any.mk fun b hb => ?_); conv => whnf) | ((with_reducible refine AskB.dec (fun hb => ?_) (fun hb => ?_)) <;> conv => whnf) | ((with_reducible refine AskB.ndec (fun hb => ?_) (fun hb => ?_)) <;> conv => whnf) | ((with_reducible refine AskB.mk (fun hb => ?_) (fun hb => ?_)) <;> conv => whnf) | ((with_reducible refine Run.drawX rfl (by decide +kernel) ?_); conv => whnf) | ((with_reducible refine Run.drawT rfl (by decide +kernel) ?_); conv => whnf) | ((with_reducible refine Run.drawW rfl (by decide +kernel) ?_); conv => whnf) | fail)
  refine Run.callBX (text26_fn ⟨#[97]⟩ 32 (by decide)) rfl rfl ⟨Le.refl _, Le.refl _, trivial⟩ rfl rfl rfl ?_
  rw [h2]
  (conv => whnf); repeat' (first | ((with_reducible refine Know.mk fun _ => ?_); conv => whnf) | ((with_reducible refine Need.mk ?_ ?_); (first | omega | (dsimp only; omega) | decide | exact bytes_le (by rfl) (by omega) | exact ⟨rfl, by omega, bytes_le (by rfl) (by omega), by omega⟩ | (refine ⟨?_, ?_⟩ <;> (rw [wrap64 (by omega) (by omega)]; omega))); conv => whnf) | ((with_reducible refine Both.mk ?_ ?_) <;> conv => whnf) | ((with_reducible refine Any.mk fun b hb => ?_); conv => whnf) | ((with_reducible refine AskB.dec (fun hb => ?_) (fun hb => ?_)) <;> conv => whnf) | ((with_reducible refine AskB.ndec (fun hb => ?_) (fun hb => ?_)) <;> conv => whnf) | ((with_reducible refine AskB.mk (fun hb => ?_) (fun hb => ?_)) <;> conv => whnf) | ((with_reducible refine Run.drawX rfl (by decide +kernel) ?_); conv => whnf) | ((with_reducible refine Run.drawT rfl (by decide +kernel) ?_); conv => whnf) | ((with_reducible refine Run.drawW rfl (by decide +kernel) ?_); conv => whnf) | fail)
  all_goals first
    | exact absurd rfl hb
    | exact Run.leave (ts := [0]) (.inr ⟨_, rfl⟩) rfl Tryd.func24 rfl (Le.refl _)
    | trace_state
end Go.Proofs.YtfodjmemdkibpaaDoor.V
