/-
Parts of folding walked (V).
-/
import Derived.Test.YtfodjmemdkibpaaDoorMD
import Derived.Test.YtfodjmemdkibpaaDoorVt
namespace Go.Proofs.YtfodjmemdkibpaaDoor.V
open Go Go.Proofs Go.RowKit
set_option linter.unusedVariables false
set_option linter.unusedSimpArgs false
set_option maxRecDepth 100000
set_option maxHeartbeats 4000000
open Go Go.Proofs Go.Proofs.YtfodjmemdkibpaaDoor.V
def ffB : ByteArray := ⟨#[102, 102, 32, 102, 105, 32, 102, 108, 32, 102, 102, 105, 32, 102, 102, 108, 32, 115, 116, 32, 115, 116]⟩
def ffL : List ByteArray := [⟨#[102, 102]⟩, ⟨#[102, 105]⟩, ⟨#[102, 108]⟩, ⟨#[102, 102, 105]⟩, ⟨#[102, 102, 108]⟩, ⟨#[115, 116]⟩, ⟨#[115, 116]⟩]
def ffN : List Nat := [0, 1, 1, 1, 2, 2, 2, 3, 3, 3, 4, 4, 4, 4, 5, 5, 5, 5, 6, 6, 6, 7, 7]
def ffW : List Nat := [1, 0, 0, 1, 0, 0, 1, 0, 0, 1, 0, 0, 0, 1, 0, 0, 0, 1, 0, 0, 1, 0, 0]
def ffS : List Nat := [0, 102, 102, 102, 102, 111, 111, 111, 111, 111, 111, 111, 111, 111, 111, 111, 111, 111, 127, 127, 127, 127, 127]
def ffA : List Nat := [0, 0, 0, 1, 1, 1, 2, 2, 2, 3, 3, 3, 3, 4, 4, 4, 4, 5, 5, 5, 6, 6, 6]
def ffT : List Nat := [0, 0, 0, 3, 3, 3, 6, 6, 6, 9, 9, 9, 9, 13, 13, 13, 13, 17, 17, 17, 20, 20, 20]
def ffR (j : Nat) : List ByteArray := ffL.take (ffA.getD j 0) ++ List.replicate (7 - ffA.getD j 0) .empty
theorem ffR_len : ∀ j : Fin 23, (ffR j.val).length = 7 := by decide +kernel
theorem ff_idx : ∀ j : Fin 22, ((ascT (idx (bt ffB ((j.val : Nat) : Int).toNat).toNat 1 0) = 0 ∧ ffA.getD (j.val + 1) 0 = ffA.getD j.val 0 ∧ ffT.getD (j.val + 1) 0 = ffT.getD j.val 0) ∨
    (ascT (idx (bt ffB ((j.val : Nat) : Int).toNat).toNat 1 0) = 1 ∧ ffA.getD (j.val + 1) 0 = ffA.getD j.val 0 + 1 ∧ ffT.getD (j.val + 1) 0 = j.val + 1 ∧ j.val + 1 < 22 ∧ ascT (idx (bt ffB (IntKind.i64.wrap (((j.val : Nat) : Int) + 1)).toNat).toNat 1 0) = 0 ∧ ffA.getD j.val 0 < 7)) ∧ ffT.getD j.val 0 ≤ j.val := by decide +kernel
theorem ff_set : ∀ j : Fin 22, ffA.getD (j.val + 1) 0 = ffA.getD j.val 0 + 1 → (ffR j.val).set (ffA.getD j.val 0) (ffB.extract (ffT.getD j.val 0) j.val) = ffR (j.val + 1) := by decide +kernel
theorem fields73_fn : Fn Tryd.prog 73 [.str ffB] (tS.L ffL) := by
  have hsz : ffB.size = 22 := rfl
  have hbt : ∀ i, 0 ≤ bt ffB i ∧ bt ffB i < 256 := fun i => ⟨Int.natCast_nonneg _, by unfold bt; have := (ffB.data.toList.getD i 0).toNat_lt; omega⟩
  refine Fn.of Tryd.f73 _ Tryd.func73 rfl (by decide) (by show 1 ≤ _; decide) tbOk 106 rfl fun S w0 gl => ?_
  refine Run.go ?_; (conv => whnf); repeat' (first | ((with_reducible refine Know.mk fun _ => ?_); conv => whnf) | ((with_reducible refine Need.mk ?_ ?_); (first | omega | (dsimp only; omega) | decide | exact bytes_le (by rfl) (by omega) | exact ⟨rfl, by omega, bytes_le (by rfl) (by omega), by omega⟩ | (refine ⟨?_, ?_⟩ <;> (rw [wrap64 (by omega) (by omega)]; omega))); conv => whnf) | ((with_reducible refine Both.mk ?_ ?_) <;> conv => whnf) | ((with_reducible refine Any.mk fun b hb => ?_); conv => whnf) | ((with_reducible refine AskB.dec (fun hb => ?_) (fun hb => ?_)) <;> conv => whnf) | ((with_reducible refine AskB.ndec (fun hb => ?_) (fun hb => ?_)) <;> conv => whnf) | ((with_reducible refine AskB.mk (fun hb => ?_) (fun hb => ?_)) <;> conv => whnf) | ((with_reducible refine Run.drawX rfl (by decide +kernel) ?_); conv => whnf) | ((with_reducible refine Run.drawT rfl (by decide +kernel) ?_); conv => whnf) | ((with_reducible refine Run.drawW rfl (by decide +kernel) ?_); conv => whnf) | fail)
  refine Run.loop [0] (fun (j : Nat) => [(3, .int .i64 (ffN.getD j 0)), (4, .int .i64 (ffW.getD j 0)), (5, .int .u8 (ffS.getD j 0)), (6, .int .i64 j)]) (fun _ => []) (fun j => j ≤ 22) (fun j => 22 - j) 0 (by omega) ⟨Le.refl _, Le.refl _, Le.refl _, Le.refl _, trivial⟩ trivial ?_
  intro j hj IH
  show Run _ _ (lst (_ ++ [(3, .int .i64 (ffN.getD j 0)), (4, .int .i64 (ffW.getD j 0)), (5, .int .u8 (ffS.getD j 0)), (6, .int .i64 j)])) (lstH [])
  have hb8 := hbt (j : Int).toNat
  by_cases hj22 : j = 22
  · subst hj22
    show Run _ _ (lst [(0, .str ffB), (3, .int .i64 7), (4, .int .i64 0), (5, .int .u8 127), (6, .int .i64 22)]) (lstH [])
    refine Run.go ?_; (conv => whnf); repeat' (first | ((with_reducible refine Know.mk fun _ => ?_); conv => whnf) | ((with_reducible refine Need.mk ?_ ?_); (first | omega | (dsimp only; omega) | decide | exact bytes_le (by rfl) (by omega) | exact ⟨rfl, by omega, bytes_le (by rfl) (by omega), by omega⟩ | (refine ⟨?_, ?_⟩ <;> (rw [wrap64 (by omega) (by omega)]; omega))); conv => whnf) | ((with_reducible refine Both.mk ?_ ?_) <;> conv => whnf) | ((with_reducible refine Any.mk fun b hb => ?_); conv => whnf) | ((with_reducible refine AskB.dec (fun hb => ?_) (fun hb => ?_)) <;> conv => whnf) | ((with_reducible refine AskB.ndec (fun hb => ?_) (fun hb => ?_)) <;> conv => whnf) | ((with_reducible refine AskB.mk (fun hb => ?_) (fun hb => ?_)) <;> conv => whnf) | ((with_reducible refine Run.drawX rfl (by decide +kernel) ?_); conv => whnf) | ((with_reducible refine Run.drawT rfl (by decide +kernel) ?_); conv => whnf) | ((with_reducible refine Run.drawW rfl (by decide +kernel) ?_); conv => whnf) | fail)
    all_goals try exact absurd hb (by decide)
    refine Run.go ?_; (conv => whnf); repeat' (first | ((with_reducible refine Know.mk fun _ => ?_); conv => whnf) | ((with_reducible refine Need.mk ?_ ?_); (first | omega | (dsimp only; omega) | decide | exact bytes_le (by rfl) (by omega) | exact ⟨rfl, by omega, bytes_le (by rfl) (by omega), by omega⟩ | (refine ⟨?_, ?_⟩ <;> (rw [wrap64 (by omega) (by omega)]; omega))); conv => whnf) | ((with_reducible refine Both.mk ?_ ?_) <;> conv => whnf) | ((with_reducible refine Any.mk fun b hb => ?_); conv => whnf) | ((with_reducible refine AskB.dec (fun hb => ?_) (fun hb => ?_)) <;> conv => whnf) | ((with_reducible refine AskB.ndec (fun hb => ?_) (fun hb => ?_)) <;> conv => whnf) | ((with_reducible refine AskB.mk (fun hb => ?_) (fun hb => ?_)) <;> conv => whnf) | ((with_reducible refine Run.drawX rfl (by decide +kernel) ?_); conv => whnf) | ((with_reducible refine Run.drawT rfl (by decide +kernel) ?_); conv => whnf) | ((with_reducible refine Run.drawW rfl (by decide +kernel) ?_); conv => whnf) | fail)
    case _ =>
      refine Run.loop [0, 9] (fun (j : Nat) => [(10, .int .i64 (ffA.getD j 0)), (11, .int .i64 (ffT.getD j 0)), (12, .int .i64 j)]) (fun j => [(41, tS.R 9 (ffR j))]) (fun j => j ≤ 22) (fun j => 22 - j) 0 (by omega) ⟨Le.refl _, Le.refl _, Le.refl _, trivial⟩ ⟨⟨rfl, rfl, rfl, fun i j hi hj => ?_⟩, trivial⟩ ?_
      · have hj0 : j = 0 := by have : j < 1 := hj; omega
        subst hj0
        have hi7 : i < 7 := hi
        obtain ⟨i, rfl⟩ : ∃ k : Fin 7, k.val = i := ⟨⟨i, hi7⟩, rfl⟩
        have : (ffR 0).getD i.val .empty = .empty := by clear hi hi7 hj hbt hb8 hb; revert i; decide +kernel
        exact Le.str this.symm
      intro j hj IH
      show Run _ _ (lst (_ ++ [(10, .int .i64 (ffA.getD j 0)), (11, .int .i64 (ffT.getD j 0)), (12, .int .i64 j)])) (lstH [(41, tS.R 9 (ffR j))])
      by_cases hj22 : j = 22
      · subst hj22
        show Run _ _ (lst [(0, .str ffB), (9, .row 41), (10, .int .i64 6), (11, .int .i64 20), (12, .int .i64 22)]) (lstH [(41, tS.R 9 (ffR 22))])
        have h8 : ((ffR 22).length : Int) = 7 := rfl
        refine Run.go ?_; (conv => whnf); repeat' (first | ((with_reducible refine Know.mk fun _ => ?_); conv => whnf) | ((with_reducible refine Need.mk ?_ ?_); (first | omega | (dsimp only; omega) | decide | exact bytes_le (by rfl) (by omega) | exact ⟨rfl, by omega, bytes_le (by rfl) (by omega), by omega⟩ | (refine ⟨?_, ?_⟩ <;> (rw [wrap64 (by omega) (by omega)]; omega))); conv => whnf) | ((with_reducible refine Both.mk ?_ ?_) <;> conv => whnf) | ((with_reducible refine Any.mk fun b hb => ?_); conv => whnf) | ((with_reducible refine AskB.dec (fun hb => ?_) (fun hb => ?_)) <;> conv => whnf) | ((with_reducible refine AskB.ndec (fun hb => ?_) (fun hb => ?_)) <;> conv => whnf) | ((with_reducible refine AskB.mk (fun hb => ?_) (fun hb => ?_)) <;> conv => whnf) | ((with_reducible refine Run.drawX rfl (by decide +kernel) ?_); conv => whnf) | ((with_reducible refine Run.drawT rfl (by decide +kernel) ?_); conv => whnf) | ((with_reducible refine Run.drawW rfl (by decide +kernel) ?_); conv => whnf) | fail)
        all_goals try (exfalso; omega)
        refine Run.leave (ts := [2]) (.inr ⟨_, rfl⟩) rfl Tryd.func73 rfl ?_
        show Le (.sl 7 1 _) (.sl 7 1 (tS.G ffL))
        refine Le.sl (fun i k hi hk => ?_)
        obtain rfl : k = 0 := by omega
        match i, hi with
        | 0, _ => exact Le.refl _
        | 1, _ => exact Le.refl _
        | 2, _ => exact Le.refl _
        | 3, _ => exact Le.refl _
        | 4, _ => exact Le.refl _
        | 5, _ => exact Le.refl _
        | 6, _ => exact Le.refl _
      have hb9 := hbt (j : Int).toNat
      have hb10 := hbt (IntKind.i64.wrap ((j : Int) + 1)).toNat
      obtain ⟨hf1, hf2⟩ := ff_idx ⟨j, by omega⟩
      simp only [] at hf1 hf2
      have hwj : IntKind.i64.wrap ((j : Int) + 1) = ((j + 1 : Nat) : Int) := by rw [wrap64 (by omega) (by omega)]; omega
      have hla : (ffR j).length = 7 := (ffR_len ⟨j, by omega⟩)
      refine Run.go ?_; (conv => whnf); repeat' (first | ((with_reducible refine Know.mk fun _ => ?_); conv => whnf) | ((with_reducible refine Need.mk ?_ ?_); (first | omega | (dsimp only; omega) | decide | exact bytes_le (by rfl) (by omega) | exact ⟨rfl, by omega, bytes_le (by rfl) (by omega), by omega⟩ | (refine ⟨?_, ?_⟩ <;> (rw [wrap64 (by omega) (by omega)]; omega))); conv => whnf) | ((with_reducible refine Both.mk ?_ ?_) <;> conv => whnf) | ((with_reducible refine Any.mk fun b hb => ?_); conv => whnf) | ((with_reducible refine AskB.dec (fun hb => ?_) (fun hb => ?_)) <;> conv => whnf) | ((with_reducible refine AskB.ndec (fun hb => ?_) (fun hb => ?_)) <;> conv => whnf) | ((with_reducible refine AskB.mk (fun hb => ?_) (fun hb => ?_)) <;> conv => whnf) | ((with_reducible refine Run.drawX rfl (by decide +kernel) ?_); conv => whnf) | ((with_reducible refine Run.drawT rfl (by decide +kernel) ?_); conv => whnf) | ((with_reducible refine Run.drawW rfl (by decide +kernel) ?_); conv => whnf) | fail)
      all_goals try (exfalso; omega)
      case _ =>
        refine Run.to _ _ ?_ ?_ (IH (j + 1) (by omega) (by omega))
        · exact ⟨Le.refl _, Le.refl _, Le.int (by omega), Le.int (by omega), Le.int hwj, trivial⟩
        · refine ⟨?_, trivial⟩
          rw [show ffR (j + 1) = ffR j by unfold ffR; rw [show ffA.getD (j + 1) 0 = ffA.getD j 0 by omega]]
          exact MOle.refl _
      have hcut := ff_set ⟨j, by omega⟩ (by simp only []; omega)
      simp only [] at hcut
      refine Run.go ?_; (conv => whnf); repeat' (first | ((with_reducible refine Know.mk fun _ => ?_); conv => whnf) | ((with_reducible refine Need.mk ?_ ?_); (first | omega | (dsimp only; omega) | decide | exact bytes_le (by rfl) (by omega) | exact ⟨rfl, by omega, bytes_le (by rfl) (by omega), by omega⟩ | (refine ⟨?_, ?_⟩ <;> (rw [wrap64 (by omega) (by omega)]; omega))); conv => whnf) | ((with_reducible refine Both.mk ?_ ?_) <;> conv => whnf) | ((with_reducible refine Any.mk fun b hb => ?_); conv => whnf) | ((with_reducible refine AskB.dec (fun hb => ?_) (fun hb => ?_)) <;> conv => whnf) | ((with_reducible refine AskB.ndec (fun hb => ?_) (fun hb => ?_)) <;> conv => whnf) | ((with_reducible refine AskB.mk (fun hb => ?_) (fun hb => ?_)) <;> conv => whnf) | ((with_reducible refine Run.drawX rfl (by decide +kernel) ?_); conv => whnf) | ((with_reducible refine Run.drawT rfl (by decide +kernel) ?_); conv => whnf) | ((with_reducible refine Run.drawW rfl (by decide +kernel) ?_); conv => whnf) | fail)
      all_goals try (exfalso; omega)
      refine Run.to _ _ ?_ ?_ (IH (j + 1) (by omega) (by omega))
      · exact ⟨Le.refl _, Le.refl _, Le.int (by rw [wrap64 (by omega) (by omega)]; omega), Le.int (by omega), Le.int hwj, trivial⟩
      · refine ⟨?_, trivial⟩
        rw [← hcut]
        exact tS.set 9 (ffR j) _ _ (by rw [hla]; omega) _ rfl (fun k y hk => by
          match k, hk with
          | 0, hk => cases hk; exact Le.refl _)
    case _ => exact absurd hb (by decide)
    all_goals exact absurd hb (by decide)
  refine Run.go ?_; (conv => whnf); repeat' (first | ((with_reducible refine Know.mk fun _ => ?_); conv => whnf) | ((with_reducible refine Need.mk ?_ ?_); (first | omega | (dsimp only; omega) | decide | exact bytes_le (by rfl) (by omega) | exact ⟨rfl, by omega, bytes_le (by rfl) (by omega), by omega⟩ | (refine ⟨?_, ?_⟩ <;> (rw [wrap64 (by omega) (by omega)]; omega))); conv => whnf) | ((with_reducible refine Both.mk ?_ ?_) <;> conv => whnf) | ((with_reducible refine Any.mk fun b hb => ?_); conv => whnf) | ((with_reducible refine AskB.dec (fun hb => ?_) (fun hb => ?_)) <;> conv => whnf) | ((with_reducible refine AskB.ndec (fun hb => ?_) (fun hb => ?_)) <;> conv => whnf) | ((with_reducible refine AskB.mk (fun hb => ?_) (fun hb => ?_)) <;> conv => whnf) | ((with_reducible refine Run.drawX rfl (by decide +kernel) ?_); conv => whnf) | ((with_reducible refine Run.drawT rfl (by decide +kernel) ?_); conv => whnf) | ((with_reducible refine Run.drawW rfl (by decide +kernel) ?_); conv => whnf) | fail)
  all_goals try (exfalso; omega)
  refine Run.to _ _ ?_ ?_ (IH (j + 1) (by omega) (by omega))
  · obtain ⟨j, rfl⟩ : ∃ k : Fin 22, k.val = j := ⟨⟨j, by omega⟩, rfl⟩
    clear IH hb8 hj hbt hsz hb
    refine ⟨Le.refl _, Le.int ?_, Le.int ?_, Le.int ?_, Le.int ?_, trivial⟩
    · revert j; decide +kernel
    · revert j; decide +kernel
    · revert j; decide +kernel
    · revert j; decide +kernel
  · trivial
/-- What a rune stands for. -/
def isLig (r : Int) : Bool := decide (r = 198 ∨ r = 230 ∨ r = 338 ∨ r = 339 ∨ r = 223 ∨ r = 383 ∨ r = 306 ∨ r = 307 ∨ (64256 ≤ r ∧ r ≤ 64262))
def ligB (r : Int) : ByteArray := if r = 198 then ⟨#[65, 69]⟩ else if r = 230 then ⟨#[97, 101]⟩ else if r = 338 then ⟨#[79, 69]⟩ else if r = 339 then ⟨#[111, 101]⟩ else if r = 223 then ⟨#[115, 115]⟩ else if r = 383 then ⟨#[115]⟩
  else if r = 306 then ⟨#[73, 74]⟩ else if r = 307 then ⟨#[105, 106]⟩ else if 64256 ≤ r ∧ r ≤ 64262 then ffL.getD (r - 64256).toNat .empty else .empty
theorem ligature59_fn (r : Int) : Fn Tryd.prog 59 [.int .i32 r] (tupL [.str (ligB r), .bool (isLig r)]) := by
  have h32 : 64256 ≤ r → r ≤ 64262 → IntKind.i32.wrap (r - 64256) = r - 64256 := fun h1 h2 => wrap32 (by omega) (by omega)
  have hyes : (r = 198 ∨ r = 230 ∨ r = 338 ∨ r = 339 ∨ r = 223 ∨ r = 383 ∨ r = 306 ∨ r = 307 ∨ (64256 ≤ r ∧ r ≤ 64262)) → isLig r = true := fun h => decide_eq_true h
  have hno : ¬ (r = 198 ∨ r = 230 ∨ r = 338 ∨ r = 339 ∨ r = 223 ∨ r = 383 ∨ r = 306 ∨ r = 307 ∨ (64256 ≤ r ∧ r ≤ 64262)) → isLig r = false := fun h => decide_eq_false h
  refine Fn.of Tryd.f59 _ Tryd.func59 rfl (by decide) (by show 1 ≤ _; decide) tbOk 32 rfl fun S w0 gl => ?_
  refine Run.go ?_; (conv => whnf); repeat' (first | ((with_reducible refine Know.mk fun _ => ?_); conv => whnf) | ((with_reducible refine Need.mk ?_ ?_); (first | omega | (dsimp only; omega) | decide | exact bytes_le (by rfl) (by omega) | exact ⟨rfl, by omega, bytes_le (by rfl) (by omega), by omega⟩ | (refine ⟨?_, ?_⟩ <;> (rw [wrap64 (by omega) (by omega)]; omega))); conv => whnf) | ((with_reducible refine Both.mk ?_ ?_) <;> conv => whnf) | ((with_reducible refine Any.mk fun b hb => ?_); conv => whnf) | ((with_reducible refine AskB.dec (fun hb => ?_) (fun hb => ?_)) <;> first | (exfalso; omega) | (conv => whnf)) | ((with_reducible refine AskB.ndec (fun hb => ?_) (fun hb => ?_)) <;> first | (exfalso; omega) | (conv => whnf)) | ((with_reducible refine AskB.mk (fun hb => ?_) (fun hb => ?_)) <;> first | (exfalso; omega) | (conv => whnf)) | ((with_reducible refine Run.drawX rfl (by decide +kernel) ?_); conv => whnf) | ((with_reducible refine Run.drawT rfl (by decide +kernel) ?_); conv => whnf) | ((with_reducible refine Run.drawW rfl (by decide +kernel) ?_); conv => whnf) | fail)
  iterate 8 (· exact Run.leave (ts := [2,3]) (.inr ⟨_, rfl⟩) rfl Tryd.func59 rfl (resT ⟨Le.str (by subst hb; rfl), Le.tt.trans (Le.bool (hyes (by omega)).symm), trivial⟩))
  · rename_i hb1
    refine Run.callBX fields73_fn rfl rfl ⟨Le.refl _, trivial⟩ rfl rfl rfl ?_
    have hw := h32 hb1 hb
    have hl : (ffL.length : Int) = 7 := rfl
    (conv => whnf); repeat' (first | ((with_reducible refine Know.mk fun _ => ?_); conv => whnf) | ((with_reducible refine Need.mk ?_ ?_); (first | omega | (dsimp only; omega) | decide | exact bytes_le (by rfl) (by omega) | exact ⟨rfl, by omega, bytes_le (by rfl) (by omega), by omega⟩ | (refine ⟨?_, ?_⟩ <;> (rw [wrap64 (by omega) (by omega)]; omega))); conv => whnf) | ((with_reducible refine Both.mk ?_ ?_) <;> conv => whnf) | ((with_reducible refine Any.mk fun b hb => ?_); conv => whnf) | ((with_reducible refine AskB.dec (fun hb => ?_) (fun hb => ?_)) <;> conv => whnf) | ((with_reducible refine AskB.ndec (fun hb => ?_) (fun hb => ?_)) <;> conv => whnf) | ((with_reducible refine AskB.mk (fun hb => ?_) (fun hb => ?_)) <;> conv => whnf) | ((with_reducible refine Run.drawX rfl (by decide +kernel) ?_); conv => whnf) | ((with_reducible refine Run.drawT rfl (by decide +kernel) ?_); conv => whnf) | ((with_reducible refine Run.drawW rfl (by decide +kernel) ?_); conv => whnf) | fail)
    refine Run.leave (ts := [2,3]) (.inr ⟨_, rfl⟩) rfl Tryd.func59 rfl (resT ⟨Le.str ?_, Le.tt.trans (Le.bool (hyes (by omega)).symm), trivial⟩)
    rw [hw]
    unfold ligB
    rw [if_neg (by omega), if_neg (by omega), if_neg (by omega), if_neg (by omega), if_neg (by omega), if_neg (by omega), if_neg (by omega), if_neg (by omega), if_pos ⟨hb1, hb⟩]
    rfl
  all_goals refine Run.leave (ts := [2,3]) (.inr ⟨_, rfl⟩) rfl Tryd.func59 rfl (resT ⟨Le.str ?_, Le.ff.trans (Le.bool (hno (by omega)).symm), trivial⟩)
  all_goals
    unfold ligB
    rw [if_neg (by omega), if_neg (by omega), if_neg (by omega), if_neg (by omega), if_neg (by omega), if_neg (by omega), if_neg (by omega), if_neg (by omega), if_neg (by omega)]
    rfl
end Go.Proofs.YtfodjmemdkibpaaDoor.V
