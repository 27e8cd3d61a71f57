/-
The texts BBg, BBc, BAa, BAc, BAd, BBa, BBd, BBf, BBb, BGe, BGh, BGi, BMc, BBh, BAf, BBj, BTe, of each what the law needs.
-/
import Derived.Test.YtjoecebimleoaaaDoorQBa3
namespace Go.Proofs.YtjoecebimleoaaaDoor.V
set_option linter.unusedVariables false
set_option linter.unusedSimpArgs false
open Go Go.Proofs Go.RowKit
set_option maxRecDepth 100000
set_option maxHeartbeats 1000000
def hasAt (t : Tab) (c i : Nat) : Bool := !decide (atC t c i < 0)
def rowT (t : Tab) (w : Nat) : List ByteArray := (List.range t.cols.length).map (fun c => textAt t c w)
def rowH (t : Tab) (w : Nat) : List Bool := (List.range t.cols.length).map (fun c => hasAt t c w)
theorem rowT_len (t : Tab) (w : Nat) : (rowT t w).length = t.cols.length := by simp [rowT]
theorem rowH_len (t : Tab) (w : Nat) : (rowH t w).length = t.cols.length := by simp [rowH]
theorem rowT_at {t : Tab} {w c : Nat} (h : c < t.cols.length) (z : ByteArray) : (rowT t w).getD c z = textAt t c w := by
  unfold rowT
  rw [List.getD, List.getElem?_map, List.getElem?_range h]; rfl
theorem rowH_at {t : Tab} {w c : Nat} (h : c < t.cols.length) (z : Bool) : (rowH t w).getD c z = hasAt t c w := by
  unfold rowH
  rw [List.getD, List.getElem?_map, List.getElem?_range h]; rfl
theorem partM_skip {α : Type} (l : List α) (z : α) (i : Nat) (h : i < l.length) (e : l.getD i z = z) : partM l z (i + 1) = partM l z i := by
  unfold partM
  rw [take_at l i z h, e, show l.length - i = (l.length - (i + 1)) + 1 by omega, List.replicate_succ, List.append_assoc]
  rfl
open Classical in
noncomputable def rowCode (t : Tab) (w : Int) : Int := if ¬ OkT t then 121 else if w < 0 ∨ (t.wits.length : Int) ≤ w then 2 else 0
noncomputable def rowL (t : Tab) (w : Int) : AV := tupL [tS.L (if rowCode t w = 0 then rowT t w.toNat else []), tB.L (if rowCode t w = 0 then rowH t w.toNat else []), .int .i64 (rowCode t w)]
theorem rowL_no {t : Tab} (w : Int) (h : ¬ OkT t) : rowL t w = tupL [tS.L [], tB.L [], .int .i64 121] := by
  have hc : rowCode t w = 121 := if_pos h
  unfold rowL
  rw [hc, if_neg (by decide), if_neg (by decide)]
theorem rowL_bad {t : Tab} {w : Int} (h : OkT t) (hb : w < 0 ∨ (t.wits.length : Int) ≤ w) : rowL t w = tupL [tS.L [], tB.L [], .int .i64 2] := by
  have hc : rowCode t w = 2 := by unfold rowCode; rw [if_neg (not_not_intro h), if_pos hb]
  unfold rowL
  rw [hc, if_neg (by decide), if_neg (by decide)]
theorem rowL_ok {t : Tab} {i : Nat} (h : OkT t) (hi : i < t.wits.length) : rowL t i = tupL [tS.L (rowT t i), tB.L (rowH t i), .int .i64 0] := by
  have hc : rowCode t i = 0 := by unfold rowCode; rw [if_neg (not_not_intro h), if_neg (by omega)]
  unfold rowL
  rw [hc, if_pos rfl, if_pos rfl]; rfl
theorem brow_fn (t : Tab) (w : Int) (hf : FitT t) : Fn Tryd.prog 6 [tbA t, .int .i64 w] (rowL t w) := by
  refine Fn.of Tryd.f6 _ Tryd.func6 rfl (by decide) (by show 2 ≤ _; decide) tbOk 68 rfl fun S w0 gl => ?_
  have hfc := hf.cols
  have hfw := hf.wits
  refine Run.go ?_; (conv => whnf); repeat' (first | ((with_reducible refine Know.mk fun _ => ?_); conv => whnf) | ((with_reducible refine Need.mk ?_ ?_); exact nd; conv => whnf) | ((with_reducible first | refine Both.mk ?_ ?_ | refine Any.mk fun b hb => ?_ | refine AskB.dec (fun hb => ?_) (fun hb => ?_) | refine AskB.ndec (fun hb => ?_) (fun hb => ?_) | refine AskB.mk (fun hb => ?_) (fun hb => ?_)) <;> conv => whnf) | ((with_reducible first | refine Run.drawX rfl (by decide +kernel) ?_ | refine Run.drawT rfl (by decide +kernel) ?_ | refine Run.drawW rfl (by decide +kernel) ?_); conv => whnf))
  refine Run.callBX (check_fn t hf) rfl rfl ⟨tb_le t (Le.refl _) (Le.refl _), trivial⟩ rfl rfl rfl ?_
  rcases chk_01 t with ⟨hok, he⟩ | ⟨hok, he⟩
  · rw [he]
    (conv => whnf); repeat' (first | ((with_reducible refine Know.mk fun _ => ?_); conv => whnf) | ((with_reducible refine Need.mk ?_ ?_); exact nd; conv => whnf) | ((with_reducible refine Both.mk ?_ ?_) <;> conv => whnf) | ((with_reducible refine Any.mk fun b hb => ?_); conv => whnf) | ((with_reducible first | refine AskB.dec (fun hb => ?_) (fun hb => ?_) | refine AskB.ndec (fun hb => ?_) (fun hb => ?_) | refine AskB.mk (fun hb => ?_) (fun hb => ?_)) <;> first | (exfalso; omega) | (conv => whnf)) | ((with_reducible first | refine Run.drawX rfl (by decide +kernel) ?_ | refine Run.drawT rfl (by decide +kernel) ?_ | refine Run.drawW rfl (by decide +kernel) ?_); conv => whnf))
    all_goals try (exfalso; omega)
    · rw [rowL_bad hok (.inl (by omega))]
      exact Run.leave (ts := [4,5,6]) (.inr ⟨_, rfl⟩) rfl Tryd.func6 rfl (resT ⟨tS.nil, tB.nil, Le.refl _, trivial⟩)
    · rw [rowL_bad hok (.inr (by omega))]
      exact Run.leave (ts := [4,5,6]) (.inr ⟨_, rfl⟩) rfl Tryd.func6 rfl (resT ⟨tS.nil, tB.nil, Le.refl _, trivial⟩)
    obtain ⟨i, rfl⟩ : ∃ i : Nat, w = i := ⟨w.toNat, by omega⟩
    have hil : i < t.wits.length := by omega
    have hnc := hok.nc
    have hfi : (t.wits.getD (i : Int).toNat tWit.z).words.length ≤ 2000000 := (hf.wit _ (getD_mem' i hil)).2.1
    rw [rowL_ok hok hil]
    refine Run.loop [1, 8, 9, 36, 37] (fun (c : Nat) => [(2, .box 2 0), (38, .int .i64 (c : Int))]) (fun c => [(2, .box 25 [tWit.L t.wits, tIL.L t.cols]), (30, tS.R 9 (partM (rowT t i) .empty c)), (34, tB.R 4 (partM (rowH t i) false c))]) (fun c => c ≤ t.cols.length) (fun c => t.cols.length - c) 0 (Nat.zero_le _) ⟨Le.refl _, Le.refl _, trivial⟩ ⟨MOle.refl _, ?_, ?_, trivial⟩ ?_
    · rw [partM_none]
      refine ⟨rfl, rfl, by simp [rowT_len], fun i j hi hj => ?_⟩
      have hj0 : j = 0 := by have : j < 1 := hj; omega
      subst hj0
      unfold Ty.G
      rw [List.getD, List.getElem?_replicate]
      split <;> exact Le.refl _
    · rw [partM_none]
      refine ⟨rfl, rfl, by simp [rowH_len], fun i j hi hj => ?_⟩
      have hj0 : j = 0 := by have : j < 1 := hj; omega
      subst hj0
      unfold Ty.G
      rw [List.getD, List.getElem?_replicate]
      split <;> exact Le.ff
    intro c hc IH
    have hwc : IntKind.i64.wrap ((c : Int) + 1) = ((c + 1 : Nat) : Int) := wrap64 (by omega) (by omega)
    have hl1 := rowT_len t i
    have hl2 := rowH_len t i
    have hp1 := partM_len (rowT t i) .empty c (by omega)
    have hp2 := partM_len (rowH t i) false c (by omega)
    show Run _ _ (lst (_ ++ [(2, .box 2 0), (38, .int .i64 (c : Int))])) (lstH [(2, .box 25 [tWit.L t.wits, tIL.L t.cols]), (30, tS.R 9 (partM (rowT t i) .empty c)), (34, tB.R 4 (partM (rowH t i) false c))])
    by_cases hcl : c < t.cols.length
    · obtain ⟨hlen, hat⟩ := at_ok hok hcl hil
      have hx : (t.cols.getD (c : Int).toNat tIL.z).getD (i : Int).toNat tI.z = atC t c i := rfl
      have hlc : (t.cols.getD (c : Int).toNat tIL.z).length = t.wits.length := hlen
      have hlw2 : (t.wits.getD (i : Int).toNat tWit.z).words.length = (witAt t i).words.length := rfl
      refine Run.go ?_; (conv => whnf); repeat' (first | ((with_reducible refine Know.mk fun _ => ?_); conv => whnf) | ((with_reducible refine Need.mk ?_ ?_); exact nd; conv => whnf) | ((with_reducible refine Both.mk ?_ ?_) <;> conv => whnf) | ((with_reducible refine Any.mk fun b hb => ?_); conv => whnf) | ((with_reducible first | refine AskB.dec (fun hb => ?_) (fun hb => ?_) | refine AskB.ndec (fun hb => ?_) (fun hb => ?_) | refine AskB.mk (fun hb => ?_) (fun hb => ?_)) <;> first | (exfalso; omega) | (conv => whnf)) | ((with_reducible first | refine Run.drawX rfl (by decide +kernel) ?_ | refine Run.drawT rfl (by decide +kernel) ?_ | refine Run.drawW rfl (by decide +kernel) ?_); conv => whnf))
      all_goals try (exfalso; omega)
      · have h0 : ¬ atC t c i < 0 := by omega
        refine Run.to _ _ ?_ ?_ (IH (c + 1) (by omega) (by omega))
        · exact ⟨Le.refl _, Le.refl _, Le.refl _, Le.refl _, Le.refl _, Le.refl _, Le.int hwc, trivial⟩
        · refine ⟨MOle.refl _, ?_, ?_, trivial⟩
          · rw [← partM_set (rowT t i) .empty c (by omega), rowT_at hcl]
            exact tS.set 9 _ _ _ (by omega) _ rfl (Le.one (Le.str (by unfold textAt; rw [if_neg h0]; rfl)))
          · rw [← partM_set (rowH t i) false c (by omega), rowH_at hcl]
            exact tB.set 4 _ _ _ (by omega) _ rfl (Le.one (Le.tt.trans (Le.bool (by unfold hasAt; rw [decide_eq_false h0]; rfl))))
      · have h0 : atC t c i < 0 := by omega
        refine Run.to _ _ ?_ ?_ (IH (c + 1) (by omega) (by omega))
        · exact ⟨Le.refl _, Le.refl _, Le.refl _, Le.refl _, Le.refl _, Le.refl _, Le.int hwc, trivial⟩
        · refine ⟨MOle.refl _, ?_, ?_, trivial⟩
          · rw [partM_skip (rowT t i) .empty c (by omega) (by rw [rowT_at hcl]; unfold textAt; rw [if_pos h0])]
            exact MOle.refl _
          · rw [partM_skip (rowH t i) false c (by omega) (by rw [rowH_at hcl]; unfold hasAt; rw [decide_eq_true h0]; rfl)]
            exact MOle.refl _
    · obtain rfl : c = t.cols.length := by omega
      rw [show partM (rowT t i) .empty t.cols.length = rowT t i by rw [← hl1, partM_all], show partM (rowH t i) false t.cols.length = rowH t i by rw [← hl2, partM_all]]
      refine Run.go ?_; (conv => whnf); repeat' (first | ((with_reducible refine Know.mk fun _ => ?_); conv => whnf) | ((with_reducible refine Need.mk ?_ ?_); exact nd; conv => whnf) | ((with_reducible refine Both.mk ?_ ?_) <;> conv => whnf) | ((with_reducible refine Any.mk fun b hb => ?_); conv => whnf) | ((with_reducible first | refine AskB.dec (fun hb => ?_) (fun hb => ?_) | refine AskB.ndec (fun hb => ?_) (fun hb => ?_) | refine AskB.mk (fun hb => ?_) (fun hb => ?_)) <;> first | (exfalso; omega) | (conv => whnf)) | ((with_reducible first | refine Run.drawX rfl (by decide +kernel) ?_ | refine Run.drawT rfl (by decide +kernel) ?_ | refine Run.drawW rfl (by decide +kernel) ?_); conv => whnf))
      all_goals try (exfalso; omega)
      exact Run.leave (ts := [4,5,6]) (.inr ⟨_, rfl⟩) rfl Tryd.func6 rfl (resT ⟨Le.refl _, Le.refl _, Le.refl _, trivial⟩)
  · rw [he, rowL_no w hok]
    (conv => whnf); repeat' (first | ((with_reducible refine Know.mk fun _ => ?_); conv => whnf) | ((with_reducible refine Need.mk ?_ ?_); exact nd; conv => whnf) | ((with_reducible refine Both.mk ?_ ?_) <;> conv => whnf) | ((with_reducible refine Any.mk fun b hb => ?_); conv => whnf) | ((with_reducible first | refine AskB.dec (fun hb => ?_) (fun hb => ?_) | refine AskB.ndec (fun hb => ?_) (fun hb => ?_) | refine AskB.mk (fun hb => ?_) (fun hb => ?_)) <;> first | (exfalso; omega) | (conv => whnf)) | ((with_reducible first | refine Run.drawX rfl (by decide +kernel) ?_ | refine Run.drawT rfl (by decide +kernel) ?_ | refine Run.drawW rfl (by decide +kernel) ?_); conv => whnf))
    all_goals try (exfalso; omega)
    exact Run.leave (ts := [4,5,6]) (.inr ⟨_, rfl⟩) rfl Tryd.func6 rfl (resT ⟨tS.nil, tB.nil, Le.refl _, trivial⟩)
end Go.Proofs.YtjoecebimleoaaaDoor.V

namespace Go.Proofs.YtjoecebimleoaaaDoor.V
set_option linter.unusedVariables false
set_option linter.unusedSimpArgs false
open Go Go.Proofs Go.RowKit
set_option maxRecDepth 100000
set_option maxHeartbeats 400000
theorem same_fn (a b : List ByteArray) (x y : List Bool) : Fn Tryd.prog 8 [tS.L a, tS.L b, tB.L x, tB.L y] (.bool (decide (a.length = x.length ∧ a = b ∧ x = y))) := by
  refine Fn.of Tryd.f8 _ Tryd.func8 rfl (by decide) (by show 4 ≤ _; decide) tbOk 55 rfl fun S w0 gl => ?_
  refine Run.go ?_; (conv => whnf); repeat' (first | ((with_reducible refine Know.mk fun _ => ?_); conv => whnf) | ((with_reducible refine Need.mk ?_ ?_); exact nd; conv => whnf) | ((with_reducible first | refine Both.mk ?_ ?_ | refine Any.mk fun b hb => ?_ | refine AskB.dec (fun hb => ?_) (fun hb => ?_) | refine AskB.ndec (fun hb => ?_) (fun hb => ?_) | refine AskB.mk (fun hb => ?_) (fun hb => ?_)) <;> conv => whnf) | ((with_reducible first | refine Run.drawX rfl (by decide +kernel) ?_ | refine Run.drawT rfl (by decide +kernel) ?_ | refine Run.drawW rfl (by decide +kernel) ?_); conv => whnf))
  · refine Run.loop [0,1,2,3] (fun i : Nat => [(9, .int .i64 (i:Int))]) (fun _ => []) (fun i => i ≤ a.length ∧ ∀ j, j < i → a.getD j .empty = b.getD j .empty ∧ x.getD j false = y.getD j false) (fun i => a.length - i) 0 ⟨Nat.zero_le _, fun _ h => absurd h (Nat.not_lt_zero _)⟩ ⟨Le.refl _, trivial⟩ trivial ?_
    intro i ⟨hi, hinv⟩ IH
    refine Run.go ?_; (conv => whnf); repeat' (first | ((with_reducible refine Know.mk fun _ => ?_); conv => whnf) | ((with_reducible refine Need.mk ?_ ?_); exact nd; conv => whnf) | ((with_reducible first | refine Both.mk ?_ ?_ | refine Any.mk fun b hb => ?_ | refine AskB.dec (fun hb => ?_) (fun hb => ?_) | refine AskB.ndec (fun hb => ?_) (fun hb => ?_) | refine AskB.mk (fun hb => ?_) (fun hb => ?_)) <;> conv => whnf) | ((with_reducible first | refine Run.drawX rfl (by decide +kernel) ?_ | refine Run.drawT rfl (by decide +kernel) ?_ | refine Run.drawW rfl (by decide +kernel) ?_); conv => whnf))
    · refine Run.leave (ts := [8]) (.inr ⟨_, rfl⟩) rfl Tryd.func8 rfl (Le.bool ?_)
      refine (decide_eq_false ?_).symm
      rintro ⟨_, _, h3⟩
      rw [h3] at hb
      simp at hb
    · refine Run.to _ _ ?_ ?_ (IH (i+1) (by omega) ⟨by omega, ?_⟩)
      · exact ⟨Le.refl _, Le.refl _, Le.refl _, Le.refl _, Le.wrap64 (by omega) (by omega) rfl, trivial⟩
      · exact trivial
      · intro j hj
        by_cases hji : j = i
        · subst hji
          rename_i hb1
          exact ⟨hb1, by simpa [tB] using hb⟩
        · exact hinv j (by omega)
    · refine Run.leave (ts := [8]) (.inr ⟨_, rfl⟩) rfl Tryd.func8 rfl (Le.bool ?_)
      refine (decide_eq_false ?_).symm
      rintro ⟨_, h3, _⟩
      rw [h3] at hb
      simp at hb
    · refine Run.leave (ts := [8]) (.inr ⟨_, rfl⟩) rfl Tryd.func8 rfl (Le.bool ?_)
      refine (decide_eq_true ?_).symm
      have hia : i = a.length := by omega
      subst hia
      refine ⟨by omega, List.ext_getElem (by omega) fun j h1 h2 => ?_, List.ext_getElem (by omega) fun j h1 h2 => ?_⟩
      · have := (hinv j (by omega)).1
        simpa [List.getD, h1, h2] using this
      · have := (hinv j (by omega)).2
        simpa [List.getD, h1, h2] using this
  · refine Run.leave (ts := [8]) (.inr ⟨_, rfl⟩) rfl Tryd.func8 rfl (Le.bool (decide_eq_false ?_).symm)
    rintro ⟨h1, rfl, rfl⟩; omega
  · refine Run.leave (ts := [8]) (.inr ⟨_, rfl⟩) rfl Tryd.func8 rfl (Le.bool (decide_eq_false ?_).symm)
    rintro ⟨h1, rfl, rfl⟩; omega
  · refine Run.leave (ts := [8]) (.inr ⟨_, rfl⟩) rfl Tryd.func8 rfl (Le.bool (decide_eq_false ?_).symm)
    rintro ⟨h1, rfl, rfl⟩; omega
theorem clone_fn (a : List ByteArray) (ha : a.length ≤ 1048576) : FnF Tryd.prog 19 [tS.L a] (.row 0) [tS.R 9 a] := by
  refine FnF.of Tryd.f19 _ Tryd.func19 rfl (by decide) (by show 1 ≤ _; decide) tbOk 8 rfl fun S w0 gl => ?_
  refine Run.go ?_; (conv => whnf); repeat' (first | ((with_reducible refine Know.mk fun _ => ?_); conv => whnf) | ((with_reducible refine Need.mk ?_ ?_); exact nd; conv => whnf) | ((with_reducible first | refine Both.mk ?_ ?_ | refine Any.mk fun b hb => ?_ | refine AskB.dec (fun hb => ?_) (fun hb => ?_) | refine AskB.ndec (fun hb => ?_) (fun hb => ?_) | refine AskB.mk (fun hb => ?_) (fun hb => ?_)) <;> conv => whnf) | ((with_reducible first | refine Run.drawX rfl (by decide +kernel) ?_ | refine Run.drawT rfl (by decide +kernel) ?_ | refine Run.drawW rfl (by decide +kernel) ?_); conv => whnf))
  · refine Run.holdNil 2 50 9 1 (tS.G a) rfl ?_
    refine Run.leaveF (ts := [2]) [50] (.inr ⟨_, rfl⟩) rfl Tryd.func19 rfl (by decide) ?_ rfl (Le.refl _)
    have h0 : a.length = 0 := by rename_i hq; exact hq hb
    exact ⟨⟨rfl, rfl, h0.symm, fun i j hi => absurd hi (Nat.not_lt_zero _)⟩, trivial⟩
  · refine Run.leaveF (ts := [2]) [7] (.inr ⟨_, rfl⟩) rfl Tryd.func19 rfl (by decide) ?_ rfl (Le.refl _)
    exact ⟨Ty.join tS 9 [] a _ _ _ _ rfl rfl (fun i j hi => absurd hi (Nat.not_lt_zero _)) (fun _ _ _ _ => Le.refl _), trivial⟩
theorem cloneB_fn (a : List Bool) (ha : a.length ≤ 1048576) : FnF Tryd.prog 20 [tB.L a] (.row 0) [tB.R 4 a] := by
  refine FnF.of Tryd.f20 _ Tryd.func20 rfl (by decide) (by show 1 ≤ _; decide) tbOk 8 rfl fun S w0 gl => ?_
  refine Run.go ?_; (conv => whnf); repeat' (first | ((with_reducible refine Know.mk fun _ => ?_); conv => whnf) | ((with_reducible refine Need.mk ?_ ?_); exact nd; conv => whnf) | ((with_reducible first | refine Both.mk ?_ ?_ | refine Any.mk fun b hb => ?_ | refine AskB.dec (fun hb => ?_) (fun hb => ?_) | refine AskB.ndec (fun hb => ?_) (fun hb => ?_) | refine AskB.mk (fun hb => ?_) (fun hb => ?_)) <;> conv => whnf) | ((with_reducible first | refine Run.drawX rfl (by decide +kernel) ?_ | refine Run.drawT rfl (by decide +kernel) ?_ | refine Run.drawW rfl (by decide +kernel) ?_); conv => whnf))
  · refine Run.holdNil 2 50 4 1 (tB.G a) rfl ?_
    refine Run.leaveF (ts := [2]) [50] (.inr ⟨_, rfl⟩) rfl Tryd.func20 rfl (by decide) ?_ rfl (Le.refl _)
    have h0 : a.length = 0 := by rename_i hq; exact hq hb
    exact ⟨⟨rfl, rfl, h0.symm, fun i j hi => absurd hi (Nat.not_lt_zero _)⟩, trivial⟩
  · refine Run.leaveF (ts := [2]) [7] (.inr ⟨_, rfl⟩) rfl Tryd.func20 rfl (by decide) ?_ rfl (Le.refl _)
    exact ⟨Ty.join tB 4 [] a _ _ _ _ rfl rfl (fun i j hi => absurd hi (Nat.not_lt_zero _)) (fun _ _ _ _ => Le.refl _), trivial⟩
end Go.Proofs.YtjoecebimleoaaaDoor.V

namespace Go.Proofs.YtjoecebimleoaaaDoor.V
set_option linter.unusedVariables false
set_option linter.unusedSimpArgs false
open Go
set_option linter.deprecated false
structure En where
  col : Int
  rds : List Rd
def tEn : Ty En := ⟨2, fun e j => match j with | 0 => .int .i64 e.col | _ => tRd.L e.rds, ⟨0, []⟩⟩
def fl (rds : List Rd) : List Int := rds.flatMap (·.wits)
structure RdOk (n : Int) (r : Rd) : Prop where
  some : r.wits ≠ []
  nons : r.none = decide (r.text = ⟨#[]⟩)
  up : r.wits.Pairwise (· < ·)
  rng : ∀ w ∈ r.wits, 0 ≤ w ∧ w < n
structure Part (n : Int) (rds : List Rd) : Prop where
  each : ∀ r ∈ rds, RdOk n r
  nodup : (fl rds).Nodup
  apart : rds.Pairwise (fun p r => p.text ≠ r.text ∧ p.wits.headD 0 < r.wits.headD 0)
def Right (n : Int) (rds : List Rd) : Prop := Part n rds ∧ 2 ≤ rds.length ∧ ((fl rds).length : Int) = n
noncomputable instance (n : Int) (rds : List Rd) : Decidable (Right n rds) := Classical.propDecidable _

theorem getD_mem {α : Type} {z : α} {l : List α} (i : Nat) (h : i < l.length) : l.getD i z ∈ l := by
  rw [List.getD, List.getElem?_eq_getElem h]; exact List.getElem_mem h
theorem take_get {α : Type} (z : α) (l : List α) (i : Nat) (h : i < l.length) : l.take (i + 1) = l.take i ++ [l.getD i z] := by
  rw [List.take_succ, List.getD, List.getElem?_eq_getElem h]; rfl
theorem all_get {α : Type} (z : α) (l : List α) (i : Nat) (h : i < l.length) : l = l.take i ++ l.getD i z :: l.drop (i + 1) := by
  rw [List.getD, List.getElem?_eq_getElem h, Option.getD_some, List.getElem_cons_drop, List.take_append_drop]
theorem fl_append (a b : List Rd) : fl (a ++ b) = fl a ++ fl b := by simp [fl]
theorem fl_take (z : Rd) (l : List Rd) (i : Nat) (h : i < l.length) : fl (l.take (i + 1)) = fl (l.take i) ++ (l.getD i z).wits := by
  rw [take_get z l i h, fl_append]; simp [fl]
theorem fl_sub (z : Rd) (l : List Rd) (i : Nat) (h : i < l.length) : ∃ rest, fl l = fl (l.take i) ++ (l.getD i z).wits ++ rest := by
  refine ⟨fl (l.drop (i + 1)), ?_⟩
  have := congrArg fl (all_get z l i h)
  rw [fl_append] at this
  rw [this]; simp [fl]
theorem pair_at {R : Int → Int → Prop} {l : List Int} (h : l.Pairwise R) {i j : Nat} (hij : i < j) (hj : j < l.length) : R (l.getD i 0) (l.getD j 0) := by
  rw [List.getD, List.getD, List.getElem?_eq_getElem hj, List.getElem?_eq_getElem (by omega)]
  exact List.pairwise_iff_getElem.mp h i j (by omega) hj hij
theorem pair_push {R : Int → Int → Prop} (tr : ∀ a b c, R a b → R b c → R a c) {l : List Int} {k : Nat} (hk : k < l.length) (h : (l.take k).Pairwise R) (hl : 0 < k → R (l.getD (k - 1) 0) (l.getD k 0)) : (l.take (k + 1)).Pairwise R := by
  rw [take_get 0 l k hk]
  refine List.pairwise_append.mpr ⟨h, by simp, fun a ha b hb => ?_⟩
  have hb' : b = l.getD k 0 := by simpa using hb
  subst hb'
  obtain ⟨j, hj, rfl⟩ := List.getElem_of_mem ha
  have hj' : j < k := by simp at hj; omega
  by_cases e : j = k - 1
  · subst e
    have := hl (by omega)
    simpa [List.getD, show k - 1 < l.length by omega] using this
  · have h1 := List.pairwise_iff_getElem.mp h j (k - 1) hj (by simp; omega) (by omega)
    refine tr _ _ _ h1 ?_
    have := hl (by omega)
    simpa [List.getD, show k - 1 < l.length by omega] using this

theorem pair_atG {α : Type} {R : α → α → Prop} {z : α} {l : List α} (h : l.Pairwise R) {i j : Nat} (hij : i < j) (hj : j < l.length) : R (l.getD i z) (l.getD j z) := by
  rw [List.getD, List.getD, List.getElem?_eq_getElem hj, List.getElem?_eq_getElem (by omega)]
  exact List.pairwise_iff_getElem.mp h i j (by omega) hj hij
theorem head_get (l : List Int) : l.headD 0 = l.getD 0 0 := by cases l <;> rfl

def lastW (l : List Rd) : Int := (l.getLast?.map fun r => r.wits.headD 0).getD (-1)
theorem ins_new {α : Type} [DecidableEq α] {k : α} : ∀ {l : List α}, k ∉ l → ins k l = l ++ [k]
  | [], _ => rfl
  | p :: l, h => by
    have h1 : ¬ k = p := fun e => h (by simp [e])
    rw [ins, if_neg h1, ins_new (fun h2 => h (by simp [h2]))]; rfl
theorem lastW_lt {n : Int} {rds : List Rd} (h : Part n rds) {i : Nat} (hi : i < rds.length) : lastW (rds.take i) < (rds.getD i tRd.z).wits.headD 0 := by
  have hr := h.each _ (getD_mem (z := tRd.z) i hi)
  cases i with
  | zero =>
    have h1 : (rds.getD 0 tRd.z).wits.headD 0 ∈ (rds.getD 0 tRd.z).wits := by
      cases hq : (rds.getD 0 tRd.z).wits with
      | nil => exact absurd hq hr.some
      | cons a l => simp
    have := (hr.rng _ h1).1
    simp only [lastW, List.take_zero, List.getLast?_nil, Option.map_none, Option.getD_none]
    omega
  | succ i =>
    have := (pair_atG (z := tRd.z) h.apart (Nat.lt_succ_self i) hi).2
    rw [take_get tRd.z rds i (by omega)]
    simpa [lastW] using this
theorem lastW_ge {n : Int} {l : List Rd} (h : Part n l) {p : Rd} (hp : p ∈ l) : p.wits.headD 0 ≤ lastW l := by
  obtain ⟨m, hm, rfl⟩ := List.getElem_of_mem hp
  have hl : 0 < l.length := by omega
  have e1 : lastW l = l[l.length - 1].wits.headD 0 := by
    unfold lastW
    rw [List.getLast?_eq_getElem?, List.getElem?_eq_getElem (by omega)]; rfl
  rw [e1]
  by_cases e : m = l.length - 1
  · subst e; exact Int.le_refl _
  · exact Int.le_of_lt (List.pairwise_iff_getElem.mp h.apart m (l.length - 1) hm (by omega) (by omega)).2

structure Good (n c : Int) (es : List En) : Prop where
  each : ∀ e ∈ es, 0 ≤ e.col ∧ e.col < c ∧ Right n e.rds
  up : (es.map (·.col)).Pairwise (· < ·)
noncomputable instance (n c : Int) (es : List En) : Decidable (Good n c es) := Classical.propDecidable _
noncomputable def chk (es : List En) (n c : Int) : Int := if n < 1 ∨ 12 < n ∨ c < 0 ∨ 4096 < c then 2 else if Good n c es then 0 else 170
theorem goodE_at {n c : Int} {es : List En} (h : Good n c es) {i j : Nat} (hij : i < j) (hj : j < es.length) : (es.getD i tEn.z).col < (es.getD j tEn.z).col := by
  have := List.pairwise_iff_getElem.mp h.up i j (by simp; omega) (by simpa using hj) hij
  rw [List.getD, List.getD, List.getElem?_eq_getElem hj, List.getElem?_eq_getElem (by omega)]
  simpa using this
theorem good_up {n c : Int} {es : List En} (h : Good n c es) {i : Nat} (hi : i < es.length) : (if i = 0 then -1 else (es.getD (i - 1) tEn.z).col) < (es.getD i tEn.z).col := by
  by_cases h0 : i = 0
  · rw [if_pos h0]
    have := (h.each _ (getD_mem (z := tEn.z) i hi)).1
    omega
  · rw [if_neg h0]; exact goodE_at h (by omega) hi
theorem good_push {n c : Int} {es : List En} {i : Nat} (h : Good n c (es.take i)) (hi : i < es.length) (h1 : (if i = 0 then -1 else (es.getD (i - 1) tEn.z).col) < (es.getD i tEn.z).col) (h2 : (es.getD i tEn.z).col < c) (h3 : Right n (es.getD i tEn.z).rds) : Good n c (es.take (i + 1)) := by
  have hlast : ∀ p ∈ es.take i, p.col < (es.getD i tEn.z).col := by
    intro p hp
    obtain ⟨m, hm, rfl⟩ := List.getElem_of_mem hp
    have hmi : m < i := by simp at hm; omega
    rw [if_neg (by omega)] at h1
    by_cases e : m = i - 1
    · subst e; simpa [List.getD, show i - 1 < es.length by omega] using h1
    · have h5 : (es.take i).getD m tEn.z = (es.take i)[m] := by rw [List.getD, List.getElem?_eq_getElem hm]; rfl
      have h6 : (es.take i).getD (i - 1) tEn.z = es.getD (i - 1) tEn.z := by simp [List.getD, show i - 1 < i by omega]
      have := goodE_at h (show m < i - 1 by omega) (by simp; omega)
      rw [h5, h6] at this
      exact Int.lt_trans this h1
  have hpos : 0 ≤ (es.getD i tEn.z).col := by
    by_cases h0 : i = 0
    · rw [if_pos h0] at h1; omega
    · have := (h.each _ (getD_mem (z := tEn.z) (l := es.take i) (i - 1) (by simp; omega))).1
      have h7 := hlast _ (getD_mem (z := tEn.z) (l := es.take i) (i - 1) (by simp; omega))
      omega
  rw [take_get tEn.z es i hi]
  refine ⟨fun e he => ?_, ?_⟩
  · rcases List.mem_append.mp he with h' | h'
    · exact h.each e h'
    · have : e = es.getD i tEn.z := by simpa using h'
      rw [this]; exact ⟨hpos, h2, h3⟩
  · rw [List.map_append]
    refine List.pairwise_append.mpr ⟨h.up, by simp, fun a ha b hb => ?_⟩
    obtain ⟨p, hp, rfl⟩ := List.mem_map.mp ha
    have : b = (es.getD i tEn.z).col := by simpa using hb
    rw [this]; exact hlast p hp

end Go.Proofs.YtjoecebimleoaaaDoor.V

namespace Go.Proofs.YtjoecebimleoaaaDoor.V
set_option linter.unusedVariables false
set_option linter.unusedSimpArgs false
open Go Go.Proofs Go.RowKit
set_option maxRecDepth 100000
set_option maxHeartbeats 1000000
theorem right_fn (e : En) (n : Int) (h0 : 1 ≤ n) (h1 : n ≤ 12) : Fn Tryd.prog 27 [.agg 2 (tEn.enc e), .int .i64 n] (.bool (decide (Right n e.rds))) := by
  refine Fn.of Tryd.f27 _ Tryd.func27 rfl (by decide) (by show 2 ≤ _; decide) tbOk 90 rfl fun S w0 gl => ?_
  refine Run.go ?_; (conv => whnf); repeat' (first | ((with_reducible refine Know.mk fun _ => ?_); conv => whnf) | ((with_reducible refine Need.mk ?_ ?_); exact nd; conv => whnf) | ((with_reducible first | refine Both.mk ?_ ?_ | refine Any.mk fun b hb => ?_ | refine AskB.dec (fun hb => ?_) (fun hb => ?_) | refine AskB.ndec (fun hb => ?_) (fun hb => ?_) | refine AskB.mk (fun hb => ?_) (fun hb => ?_)) <;> conv => whnf) | ((with_reducible first | refine Run.drawX rfl (by decide +kernel) ?_ | refine Run.drawT rfl (by decide +kernel) ?_ | refine Run.drawW rfl (by decide +kernel) ?_); conv => whnf))
  refine Run.loop [1,2,5,6,16,17] (fun i : Nat => [(7, .int .i64 (lastW (e.rds.take i))), (18, .int .i64 (i : Int))])
    (fun i => [(2, .box 52 [.int .i64 e.col, tRd.L e.rds]), (13, .mp (.ib (fl (e.rds.take i)))), (14, .mp (.sb ((e.rds.take i).map (·.text))))])
    (fun i => i ≤ e.rds.length ∧ Part n (e.rds.take i)) (fun i => e.rds.length - i) 0 ⟨Nat.zero_le _, ⟨by simp, by simp [fl], by simp⟩⟩ ⟨Le.refl _, Le.refl _, trivial⟩ ⟨MOle.refl _, rfl, rfl, trivial⟩ ?_
  intro i ⟨hi, hP⟩ IH
  refine Run.go ?_; (conv => whnf); repeat' (first | ((with_reducible refine Know.mk fun _ => ?_); conv => whnf) | ((with_reducible refine Need.mk ?_ ?_); exact nd; conv => whnf) | ((with_reducible first | refine Both.mk ?_ ?_ | refine Any.mk fun b hb => ?_ | refine AskB.dec (fun hb => ?_) (fun hb => ?_) | refine AskB.ndec (fun hb => ?_) (fun hb => ?_) | refine AskB.mk (fun hb => ?_) (fun hb => ?_)) <;> conv => whnf) | ((with_reducible first | refine Run.drawX rfl (by decide +kernel) ?_ | refine Run.drawT rfl (by decide +kernel) ?_ | refine Run.drawW rfl (by decide +kernel) ?_); conv => whnf))
  · refine Run.leave (ts := [4]) (.inr ⟨_, rfl⟩) rfl Tryd.func27 rfl (Le.bool (decide_eq_false fun hR => ?_).symm)
    rw [Int.toNat_natCast] at hb
    exact (hR.1.each _ (getD_mem (z := tRd.z) i (by omega))).some (List.length_eq_zero_iff.mp (by omega))
  · refine Run.leave (ts := [4]) (.inr ⟨_, rfl⟩) rfl Tryd.func27 rfl (Le.bool (decide_eq_false fun hR => ?_).symm)
    rw [Int.toNat_natCast] at hb
    exact absurd (lastW_lt hR.1 (show i < e.rds.length by omega)) (Int.not_lt.mpr (by rw [head_get]; exact hb))
  · refine Run.leave (ts := [4]) (.inr ⟨_, rfl⟩) rfl Tryd.func27 rfl (Le.bool (decide_eq_false fun hR => ?_).symm)
    rw [Int.toNat_natCast] at hb
    have := (hR.1.each _ (getD_mem (z := tRd.z) _ (show i < e.rds.length by omega))).nons
    rw [this] at hb
    simp at hb
  · refine Run.leave (ts := [4]) (.inr ⟨_, rfl⟩) rfl Tryd.func27 rfl (Le.bool (decide_eq_false fun hR => ?_).symm)
    rw [Int.toNat_natCast, hasK_iff] at hb
    obtain ⟨p, hp, hpt⟩ := List.mem_map.mp hb
    obtain ⟨m, hm, rfl⟩ := List.getElem_of_mem hp
    have hmi : m < i := by simp at hm; omega
    have := (pair_atG (z := tRd.z) hR.1.apart hmi (by omega)).1
    refine this ?_
    rw [← hpt]
    simp [List.getD, show m < e.rds.length by omega]
  · have hil : i < e.rds.length := by omega
    have hmem : e.rds.getD (↑i : Int).toNat tRd.z ∈ e.rds := by rw [Int.toNat_natCast]; exact getD_mem i hil
    have hfl : fl (e.rds.take (i + 1)) = fl (e.rds.take i) ++ (e.rds.getD (↑i : Int).toNat tRd.z).wits := by rw [Int.toNat_natCast]; exact fl_take _ _ _ hil
    have hsub : ∃ rest, fl e.rds = fl (e.rds.take i) ++ (e.rds.getD (↑i : Int).toNat tRd.z).wits ++ rest := by rw [Int.toNat_natCast]; exact fl_sub _ _ _ hil
    have htk : e.rds.take (i + 1) = e.rds.take i ++ [e.rds.getD (↑i : Int).toNat tRd.z] := by rw [Int.toNat_natCast]; exact take_get _ _ _ hil
    rename_i hwl hlast hrn0 hkn
    generalize hr : e.rds.getD (↑i : Int).toNat tRd.z = r at *
    rw [hasK_not] at hb
    have hbt := hb
    have htx : ins r.text ((e.rds.take i).map (·.text)) = (e.rds.take (i + 1)).map (·.text) := by rw [ins_new hb, htk]; simp
    refine Run.loop [1,2,5,6,7,16,17,18,56,57] (fun k : Nat => [(10, .int .i64 (if k = 0 then -1 else r.wits.getD (k - 1) 0)), (58, .int .i64 (k : Int))])
      (fun k => [(2, .box 52 [.int .i64 e.col, tRd.L e.rds]), (13, .mp (.ib (fl (e.rds.take i) ++ r.wits.take k))), (14, .mp (.sb ((e.rds.take (i + 1)).map (·.text))))])
      (fun k => k ≤ r.wits.length ∧ (r.wits.take k).Pairwise (· < ·) ∧ (∀ w ∈ r.wits.take k, 0 ≤ w ∧ w < n) ∧ (fl (e.rds.take i) ++ r.wits.take k).Nodup) (fun k => r.wits.length - k) 0
      ⟨Nat.zero_le _, by simp, by simp, by simpa using hP.nodup⟩ ⟨Le.refl _, Le.refl _, trivial⟩ ⟨?_, ?_, ?_, trivial⟩ ?_
    · exact MOle.refl _
    · simp only [List.take_zero, List.append_nil]; exact MOle.refl _
    · rw [← htx]; exact MOle.refl _
    intro k ⟨hk, hup, hrng, hnd⟩ IHk
    refine Run.go ?_; (conv => whnf); repeat' (first | ((with_reducible refine Know.mk fun _ => ?_); conv => whnf) | ((with_reducible refine Need.mk ?_ ?_); exact nd; conv => whnf) | ((with_reducible first | refine Both.mk ?_ ?_ | refine Any.mk fun b hb => ?_ | refine AskB.dec (fun hb => ?_) (fun hb => ?_) | refine AskB.ndec (fun hb => ?_) (fun hb => ?_) | refine AskB.mk (fun hb => ?_) (fun hb => ?_)) <;> conv => whnf) | ((with_reducible first | refine Run.drawX rfl (by decide +kernel) ?_ | refine Run.drawT rfl (by decide +kernel) ?_ | refine Run.drawW rfl (by decide +kernel) ?_); conv => whnf))
    · refine Run.leave (ts := [4]) (.inr ⟨_, rfl⟩) rfl Tryd.func27 rfl (Le.bool (decide_eq_false fun hR => ?_).symm)
      rw [Int.toNat_natCast] at hb
      have h9 := (hR.1.each _ hmem).rng _ (getD_mem (z := 0) k (show k < r.wits.length by omega))
      have hb' : r.wits.getD k 0 ≤ if k = 0 then -1 else r.wits.getD (k - 1) 0 := hb
      by_cases hk0 : k = 0
      · rw [if_pos hk0] at hb'; omega
      · rw [if_neg hk0] at hb'
        have := pair_at (hR.1.each _ hmem).up (show k - 1 < k by omega) (by omega)
        omega
    · refine Run.leave (ts := [4]) (.inr ⟨_, rfl⟩) rfl Tryd.func27 rfl (Le.bool (decide_eq_false fun hR => ?_).symm)
      rw [Int.toNat_natCast] at hb
      have := ((hR.1.each _ hmem).rng _ (getD_mem (z := tI.z) k (by omega))).2
      omega
    · refine Run.leave (ts := [4]) (.inr ⟨_, rfl⟩) rfl Tryd.func27 rfl (Le.bool (decide_eq_false fun hR => ?_).symm)
      rw [Int.toNat_natCast, hasK_iff] at hb
      obtain ⟨rest, hrest⟩ := hsub
      have hn := hR.1.nodup
      rw [hrest, all_get tI.z r.wits k (by omega), ← List.append_assoc, List.append_assoc] at hn
      exact (List.nodup_append.mp hn).2.2 _ hb _ (by simp) rfl
    · rename_i hpv hwn
      rw [Int.toNat_natCast, hasK_not] at hb
      have hb : r.wits.getD k 0 ∉ fl (e.rds.take i) ++ r.wits.take k := hb
      rw [Int.toNat_natCast] at hpv hwn
      have hpv' : (if k = 0 then -1 else r.wits.getD (k - 1) 0) < r.wits.getD k 0 := Int.not_le.mp hpv
      have hwn' : r.wits.getD k 0 < n := Int.not_le.mp hwn
      have htk2 := take_get 0 r.wits k (by omega)
      have hw0' : 0 ≤ r.wits.getD k 0 := by
        by_cases hk0 : k = 0
        · rw [if_pos hk0] at hpv'; omega
        · rw [if_neg hk0] at hpv'
          have : r.wits.getD (k - 1) 0 ∈ r.wits.take k := by
            have h2 : (r.wits.take k).getD (k - 1) 0 = r.wits.getD (k - 1) 0 := by simp [List.getD, show k - 1 < k by omega]
            rw [← h2]; exact getD_mem (k - 1) (by simp; omega)
          have := (hrng _ this).1; omega
      refine Run.to _ _ ?_ ?_ (IHk (k + 1) (by omega) ⟨by omega, pair_push (R := fun a b => a < b) (fun a b c => Int.lt_trans) (show k < r.wits.length by omega) hup (fun h => by rw [if_neg (by omega)] at hpv'; exact hpv'), fun w hw => ?_, ?_⟩)
      · refine ⟨Le.refl _, Le.refl _, Le.refl _, Le.refl _, Le.refl _, Le.refl _, Le.refl _, Le.refl _, Le.refl _, Le.refl _, ?_, Le.wrap64 (by omega) (by omega) (by omega), trivial⟩
        show Le (.int .i64 (r.wits.getD k 0)) (.int .i64 (if k + 1 = 0 then -1 else r.wits.getD (k + 1 - 1) 0))
        rw [if_neg (Nat.succ_ne_zero k)]
        exact Le.refl _
      · refine ⟨MOle.refl _, ?_, MOle.refl _, trivial⟩
        show MOle (.mp (.ib (ins (r.wits.getD k 0) (fl (e.rds.take i) ++ r.wits.take k)))) (.mp (.ib (fl (e.rds.take i) ++ r.wits.take (k + 1))))
        rw [htk2, ← List.append_assoc, ins_new hb]
        exact MOle.refl _
      · rw [htk2] at hw
        rcases List.mem_append.mp hw with hw | hw
        · exact hrng w hw
        · have : w = r.wits.getD k 0 := by simpa using hw
          omega
      · rw [htk2, ← List.append_assoc]
        exact List.nodup_append.mpr ⟨hnd, by simp, fun a ha b hb2 e => hb (by rw [← (show b = r.wits.getD k 0 by simpa using hb2), ← e]; exact ha)⟩
    · have hkl : k = r.wits.length := by omega
      subst hkl
      rw [List.take_length] at hnd hrng hup
      have hnew : Part n (e.rds.take (i + 1)) := by
        rw [htk]
        refine ⟨fun r' hr' => ?_, ?_, ?_⟩
        · rcases List.mem_append.mp hr' with h | h
          · exact hP.each r' h
          · have : r' = r := by simpa using h
            subst this
            exact ⟨fun e9 => hwl (by rw [e9]; rfl), by simpa using hrn0, hup, hrng⟩
        · rw [fl_append]; simpa [fl] using hnd
        · refine List.pairwise_append.mpr ⟨hP.apart, by simp, fun p hp q hq => ?_⟩
          have : q = r := by simpa using hq
          subst this
          refine ⟨fun e9 => ?_, ?_⟩
          · exact hbt (List.mem_map.mpr ⟨p, hp, e9⟩)
          · rw [head_get q.wits]
            exact Int.lt_of_le_of_lt (lastW_ge hP hp) (Int.not_le.mp hlast)
      refine Run.to _ _ ?_ ?_ (IH (i + 1) (by omega) ⟨by omega, hnew⟩)
      · refine ⟨Le.refl _, Le.refl _, Le.refl _, Le.refl _, Le.refl _, Le.refl _, Le.int ?_, Le.wrap64 (by omega) (by omega) (by omega), trivial⟩
        rw [htk]; simp only [lastW, List.getLast?_append, List.getLast?_singleton, Option.some_or, Option.map_some, Option.getD_some, head_get]; rfl
      · refine ⟨MOle.refl _, ?_, MOle.refl _, trivial⟩
        rw [hfl, List.take_length]; exact MOle.refl _
  · refine Run.leave (ts := [4]) (.inr ⟨_, rfl⟩) rfl Tryd.func27 rfl (Le.bool ?_)
    have : i = e.rds.length := by omega
    subst this
    rw [List.take_length] at hP ⊢
    rw [decide_eq_decide]
    exact ⟨fun h => ⟨hP, by omega, h⟩, fun h => h.2.2⟩
  · refine Run.leave (ts := [4]) (.inr ⟨_, rfl⟩) rfl Tryd.func27 rfl (Le.bool (decide_eq_false ?_).symm)
    rintro ⟨_, h2, _⟩; omega

end Go.Proofs.YtjoecebimleoaaaDoor.V

namespace Go.Proofs.YtjoecebimleoaaaDoor.V
set_option linter.unusedVariables false
set_option linter.unusedSimpArgs false
open Go Go.Proofs Go.RowKit
set_option maxRecDepth 100000
set_option maxHeartbeats 1000000
theorem appCheck_fn (es : List En) (n c : Int) : Fn Tryd.prog 18 [tEn.L es, .int .i64 n, .int .i64 c] (.int .i64 (chk es n c)) := by
  refine Fn.of Tryd.f18 _ Tryd.func18 rfl (by decide) (by show 3 ≤ _; decide) tbOk 49 rfl fun S w0 gl => ?_
  refine Run.go ?_; (conv => whnf); repeat' (first | ((with_reducible refine Know.mk fun _ => ?_); conv => whnf) | ((with_reducible refine Need.mk ?_ ?_); exact nd; conv => whnf) | ((with_reducible first | refine Both.mk ?_ ?_ | refine Any.mk fun b hb => ?_ | refine AskB.dec (fun hb => ?_) (fun hb => ?_) | refine AskB.ndec (fun hb => ?_) (fun hb => ?_) | refine AskB.mk (fun hb => ?_) (fun hb => ?_)) <;> conv => whnf) | ((with_reducible first | refine Run.drawX rfl (by decide +kernel) ?_ | refine Run.drawT rfl (by decide +kernel) ?_ | refine Run.drawW rfl (by decide +kernel) ?_); conv => whnf))
  iterate 4 (· exact Run.leave (ts := [6]) (.inr ⟨_, rfl⟩) rfl Tryd.func18 rfl (Le.int (by unfold chk; rw [if_pos (by omega)])))
  refine Run.loop [1,2,24,25] (fun i : Nat => [(7, .int .i64 (if i = 0 then -1 else (es.getD (i - 1) tEn.z).col)), (26, .int .i64 (i : Int))]) (fun i => [])
    (fun i => i ≤ es.length ∧ Good n c (es.take i)) (fun i => es.length - i) 0 ⟨Nat.zero_le _, ⟨by simp, by simp⟩⟩ ⟨Le.refl _, Le.refl _, trivial⟩ trivial ?_
  intro i ⟨hi, hG⟩ IH
  refine Run.go ?_; (conv => whnf); repeat' (first | ((with_reducible refine Know.mk fun _ => ?_); conv => whnf) | ((with_reducible refine Need.mk ?_ ?_); exact nd; conv => whnf) | ((with_reducible first | refine Both.mk ?_ ?_ | refine Any.mk fun b hb => ?_ | refine AskB.dec (fun hb => ?_) (fun hb => ?_) | refine AskB.ndec (fun hb => ?_) (fun hb => ?_) | refine AskB.mk (fun hb => ?_) (fun hb => ?_)) <;> conv => whnf) | ((with_reducible first | refine Run.drawX rfl (by decide +kernel) ?_ | refine Run.drawT rfl (by decide +kernel) ?_ | refine Run.drawW rfl (by decide +kernel) ?_); conv => whnf))
  · refine Run.leave (ts := [6]) (.inr ⟨_, rfl⟩) rfl Tryd.func18 rfl (Le.int ?_)
    rw [Int.toNat_natCast] at hb
    unfold chk
    rw [if_neg (by omega), if_neg (fun hG' => ?_)]
    exact absurd (good_up hG' (show i < es.length by omega)) (Int.not_lt.mpr hb)
  · refine Run.leave (ts := [6]) (.inr ⟨_, rfl⟩) rfl Tryd.func18 rfl (Le.int ?_)
    rw [Int.toNat_natCast] at hb
    unfold chk
    rw [if_neg (by omega), if_neg (fun hG' => ?_)]
    have := (hG'.each _ (getD_mem (z := tEn.z) i (by omega))).2.1
    omega
  · refine Run.callAX (right_fn (es.getD i tEn.z) n (by omega) (by omega)) rfl rfl ⟨?_, ?_, trivial⟩ rfl rfl rfl ?_
    · refine Le.agg fun j hj => ?_
      match j, hj with
      | 0, _ => exact Le.refl _
      | 1, _ => exact Le.refl _
    · exact Le.refl _
    (conv => whnf); repeat' (first | ((with_reducible refine Know.mk fun _ => ?_); conv => whnf) | ((with_reducible refine Need.mk ?_ ?_); exact nd; conv => whnf) | ((with_reducible first | refine Both.mk ?_ ?_ | refine Any.mk fun b hb => ?_ | refine AskB.dec (fun hb => ?_) (fun hb => ?_) | refine AskB.ndec (fun hb => ?_) (fun hb => ?_) | refine AskB.mk (fun hb => ?_) (fun hb => ?_)) <;> conv => whnf) | ((with_reducible first | refine Run.drawX rfl (by decide +kernel) ?_ | refine Run.drawT rfl (by decide +kernel) ?_ | refine Run.drawW rfl (by decide +kernel) ?_); conv => whnf))
    · rename_i hlast hcol
      rw [Int.toNat_natCast] at hlast hcol
      refine Run.to _ _ ?_ ?_ (IH (i + 1) (by omega) ⟨by omega, ?_⟩)
      · exact ⟨Le.refl _, Le.refl _, Le.refl _, Le.refl _, Le.int (by rw [Int.toNat_natCast, if_neg (Nat.succ_ne_zero i)]; rfl), Le.wrap64 (by omega) (by omega) (by omega), trivial⟩
      · exact trivial
      · exact good_push hG (by omega) (Int.not_le.mp hlast) (Int.not_le.mp hcol) hb
    · refine Run.leave (ts := [6]) (.inr ⟨_, rfl⟩) rfl Tryd.func18 rfl (Le.int ?_)
      unfold chk
      rw [if_neg (by omega), if_neg (fun hG' => ?_)]
      exact hb (hG'.each _ (getD_mem (z := tEn.z) i (by omega))).2.2
  · refine Run.leave (ts := [6]) (.inr ⟨_, rfl⟩) rfl Tryd.func18 rfl (Le.int ?_)
    have : i = es.length := by omega
    subst this
    rw [List.take_length] at hG
    unfold chk
    rw [if_neg (by omega), if_pos hG]

end Go.Proofs.YtjoecebimleoaaaDoor.V

namespace Go.Proofs.YtjoecebimleoaaaDoor.V
set_option linter.unusedVariables false
set_option linter.unusedSimpArgs false
open Go

/-- One thing that a reading says: of a witness, at a column, a text; whether there is one. -/
structure Sayn where
  w : Int
  c : Nat
  t : ByteArray
  h : Bool
def sayR (c : Nat) (r : Rd) : List Sayn := r.wits.map fun w => ⟨w, c, r.text, !r.none⟩
def sayE (e : En) : List Sayn := e.rds.flatMap (sayR e.col.toNat)
def says (es : List En) : List Sayn := es.flatMap sayE
def appT (w : Int) (l : List Sayn) (row : List ByteArray) : List ByteArray := l.foldl (fun acc s => if s.w = w then acc.set s.c s.t else acc) row
def appH (w : Int) (l : List Sayn) (has : List Bool) : List Bool := l.foldl (fun acc s => if s.w = w then acc.set s.c s.h else acc) has
def rowOk (row : List ByteArray) (has : List Bool) : Prop := ∀ i, i < row.length → has.getD i false = decide (row.getD i ⟨#[]⟩ ≠ ⟨#[]⟩)
def firstOk (row : List ByteArray) (has : List Bool) (es : List En) : Prop := ∀ e ∈ es, (e.rds.getD 0 rd0).none ≠ has.getD e.col.toNat false ∧ (e.rds.getD 0 rd0).text = row.getD e.col.toNat ByteArray.empty
noncomputable def rbCode (row : List ByteArray) (has : List Bool) (es : List En) (n : Int) : Int :=
  open Classical in
  if n < 1 ∨ 12 < n ∨ row.length ≠ has.length ∨ 4096 < row.length then 2 else if ¬ rowOk row has then 2 else if Good n row.length es ∧ firstOk row has es then 0 else 170
def rowsT (n : Int) (l : List Sayn) (row : List ByteArray) : List (List ByteArray) := (List.range n.toNat).map fun (w : Nat) => appT w l row
def rowsH (n : Int) (l : List Sayn) (has : List Bool) : List (List Bool) := (List.range n.toNat).map fun (w : Nat) => appH w l has
noncomputable def rbRows (row : List ByteArray) (has : List Bool) (es : List En) (n : Int) : List (List ByteArray) :=
  if rbCode row has es n = 0 then rowsT n (says es) row else []
noncomputable def rbHas (row : List ByteArray) (has : List Bool) (es : List En) (n : Int) : List (List Bool) :=
  if rbCode row has es n = 0 then rowsH n (says es) has else []
theorem appT_len (w : Int) (l : List Sayn) (row : List ByteArray) : (appT w l row).length = row.length := by
  unfold appT
  induction l generalizing row with
  | nil => rfl
  | cons s l ih => rw [List.foldl_cons, ih]; split <;> simp
theorem appH_len (w : Int) (l : List Sayn) (row : List Bool) : (appH w l row).length = row.length := by
  unfold appH
  induction l generalizing row with
  | nil => rfl
  | cons s l ih => rw [List.foldl_cons, ih]; split <;> simp


theorem rowsT_len (n : Int) (l : List Sayn) (row : List ByteArray) : (rowsT n l row).length = n.toNat := by simp [rowsT]
theorem rowsH_len (n : Int) (l : List Sayn) (row : List Bool) : (rowsH n l row).length = n.toNat := by simp [rowsH]
theorem rowsT_at {n : Int} (l : List Sayn) (row : List ByteArray) {w : Nat} (h : w < n.toNat) : (rowsT n l row).getD w [] = appT w l row := by simp [rowsT, List.getD, h]
theorem rowsH_at {n : Int} (l : List Sayn) (row : List Bool) {w : Nat} (h : w < n.toNat) : (rowsH n l row).getD w [] = appH w l row := by simp [rowsH, List.getD, h]
theorem rowsT_say {n : Int} (l : List Sayn) (row : List ByteArray) (s : Sayn) (h0 : 0 ≤ s.w) (h1 : s.w < n) : (rowsT n l row).set s.w.toNat (((rowsT n l row).getD s.w.toNat []).set s.c s.t) = rowsT n (l ++ [s]) row := by
  rw [rowsT_at l row (by omega : s.w.toNat < n.toNat)]
  refine List.ext_getElem (by simp [rowsT]) fun i h2 h3 => ?_
  have hi : i < n.toNat := by simpa [rowsT] using h3
  have e1 : (rowsT n (l ++ [s]) row)[i] = if s.w = (i : Int) then (appT i l row).set s.c s.t else appT i l row := by
    simp [rowsT, appT, List.foldl_append]
  rw [e1, List.getElem_set]
  by_cases e : s.w.toNat = i
  · have e2 : s.w = (i : Int) := by omega
    rw [if_pos e, if_pos e2, e]
  · have e2 : ¬ s.w = (i : Int) := by omega
    rw [if_neg e, if_neg e2]; simp [rowsT]
theorem rowsH_say {n : Int} (l : List Sayn) (row : List Bool) (s : Sayn) (h0 : 0 ≤ s.w) (h1 : s.w < n) : (rowsH n l row).set s.w.toNat (((rowsH n l row).getD s.w.toNat []).set s.c s.h) = rowsH n (l ++ [s]) row := by
  rw [rowsH_at l row (by omega : s.w.toNat < n.toNat)]
  refine List.ext_getElem (by simp [rowsH]) fun i h2 h3 => ?_
  have hi : i < n.toNat := by simpa [rowsH] using h3
  have e1 : (rowsH n (l ++ [s]) row)[i] = if s.w = (i : Int) then (appH i l row).set s.c s.h else appH i l row := by
    simp [rowsH, appH, List.foldl_append]
  rw [e1, List.getElem_set]
  by_cases e : s.w.toNat = i
  · have e2 : s.w = (i : Int) := by omega
    rw [if_pos e, if_pos e2, e]
  · have e2 : ¬ s.w = (i : Int) := by omega
    rw [if_neg e, if_neg e2]; simp [rowsH]
theorem rowsT_nil (n : Int) (row : List ByteArray) : rowsT n [] row = List.replicate n.toNat row := by
  refine List.ext_getElem (by simp [rowsT]) fun i h2 h3 => by simp [rowsT, appT]
theorem rowsH_nil (n : Int) (row : List Bool) : rowsH n [] row = List.replicate n.toNat row := by
  refine List.ext_getElem (by simp [rowsH]) fun i h2 h3 => by simp [rowsH, appH]
theorem says_take (es : List En) (i : Nat) (h : i < es.length) : says (es.take (i + 1)) = says (es.take i) ++ sayE (es.getD i tEn.z) := by
  unfold says; rw [take_get tEn.z es i h]; simp
theorem sayE_take (c : Nat) (rds : List Rd) (i : Nat) (h : i < rds.length) : (rds.take (i + 1)).flatMap (sayR c) = (rds.take i).flatMap (sayR c) ++ sayR c (rds.getD i tRd.z) := by
  rw [take_get tRd.z rds i h]; simp
theorem sayR_take (c : Nat) (r : Rd) (i : Nat) (h : i < r.wits.length) : (r.wits.take (i + 1)).map (fun w => (⟨w, c, r.text, !r.none⟩ : Sayn)) = (r.wits.take i).map (fun w => ⟨w, c, r.text, !r.none⟩) ++ [⟨r.wits.getD i 0, c, r.text, !r.none⟩] := by
  rw [take_get 0 r.wits i h]; simp
theorem rep_set {α : Type} {n k : Nat} (a b : α) (h : k < n) : (List.replicate k a ++ List.replicate (n - k) b).set k a = List.replicate (k + 1) a ++ List.replicate (n - (k + 1)) b := by
  refine List.ext_getElem (by simp; omega) fun i h1 h2 => ?_
  rw [List.getElem_set]
  by_cases e : k = i
  · subst e; rw [if_pos rfl, List.getElem_append_left (by simp)]; simp
  · rw [if_neg e]
    rcases Nat.lt_or_ge i k with h3 | h3
    · rw [List.getElem_append_left (by simpa using h3), List.getElem_append_left (by simp; omega)]; simp
    · rw [List.getElem_append_right (by simpa using h3), List.getElem_append_right (by simp; omega)]; simp
theorem row_first {row : List ByteArray} {has : List Bool} {n : Int} {es : List En} (hr : rowOk row has) (hg : Good n row.length es) : firstOk row has es ↔ ∀ q, q < es.length → ((es.getD q tEn.z).rds.getD 0 tRd.z).text = row.getD (es.getD q tEn.z).col.toNat ByteArray.empty := by
  constructor
  · intro h q hq
    exact (h _ (getD_mem (z := tEn.z) q hq)).2
  · intro h e he
    obtain ⟨q, hq, rfl⟩ := List.getElem_of_mem he
    have e1 : es.getD q tEn.z = es[q] := by simp [List.getD, hq]
    have h1 := h q hq
    rw [e1] at h1
    obtain ⟨h2, h3, h4⟩ := hg.each _ he
    have h5 : 0 < es[q].rds.length := by have := h4.2.1; omega
    have h6 := (h4.1.each _ (getD_mem (z := tRd.z) 0 h5)).nons
    refine ⟨?_, h1⟩
    have h7 := hr es[q].col.toNat (by omega)
    have h8 : es[q].rds.getD 0 rd0 = es[q].rds.getD 0 tRd.z := rfl
    rw [h7, h8, h6, h1]
    show decide (row.getD es[q].col.toNat ⟨#[]⟩ = ⟨#[]⟩) ≠ decide (row.getD es[q].col.toNat ⟨#[]⟩ ≠ ⟨#[]⟩)
    by_cases h9 : row.getD es[q].col.toNat ⟨#[]⟩ = ⟨#[]⟩ <;> simp [h9]
end Go.Proofs.YtjoecebimleoaaaDoor.V

namespace Go.Proofs.YtjoecebimleoaaaDoor.V
set_option linter.unusedVariables false
set_option linter.unusedSimpArgs false
open Go Go.Proofs Go.RowKit
set_option maxRecDepth 100000
set_option maxHeartbeats 1000000
def rbR (code : Int) : AV := .tup 3 (fun j => match j with | 0 => .row 0 | 1 => .row 1 | _ => .int .i64 code)
theorem leave_nil {C : Ctx} {env : Env} {h : Heap} {k : List Item} {fn : Func} {code : Int} {a b c : Nat} (h8 : env a = .nils) (h9 : env b = .nils) (h10 : env c = .int .i64 code) (hab : Nat.beq b a = false) (hac : Nat.beq c a = false) (hbc : Nat.beq c b = false)
    (hk : ∃ k', k = .code .ret :: k') (hR : C.R = PostF C.S C.w0 (rbR code) [tS.M 27 9 [], tB.M 28 4 []]) (hf : C.P.funcs[C.f]? = some fn) (hres : fn.results = ([a, b, c].map ResultVar.tmp).toArray) : Run C k env h := by
  refine Run.holdNil a 200 27 1 (fun _ _ => .nils) h8 ?_
  refine Run.holdNil b 201 28 1 (fun _ _ => .nils) ?_ ?_
  · simp only [upd, hab, cond_false, scrubE, h9]; rfl
  refine Run.asMat 200 0 9 1 (e := 27) (sz := 1) (n := 0) (get := fun _ _ => .nils) rfl (by decide) (fun i hi => absurd hi (Nat.not_lt_zero _)) ?_
  refine Run.asMat 201 0 4 1 (e := 28) (sz := 1) (n := 0) (get := fun _ _ => .nils) rfl (by decide) (fun i hi => absurd hi (Nat.not_lt_zero _)) ?_
  refine Run.leaveF (ts := [a,b,c]) [200,201] (.inr hk) hR hf hres (by decide) ?_ rfl ?_
  · exact ⟨⟨rfl, rfl, rfl, rfl, rfl, rfl, rfl, fun i j hi => absurd hi (Nat.not_lt_zero _), fun i hi => absurd hi (Nat.not_lt_zero _)⟩, ⟨rfl, rfl, rfl, rfl, rfl, rfl, rfl, fun i j hi => absurd hi (Nat.not_lt_zero _), fun i hi => absurd hi (Nat.not_lt_zero _)⟩, trivial⟩
  · have hne : ∀ {x y : Nat}, Nat.beq x y = false → x ≠ y := fun h e => by subst e; rw [Nat.beq_refl] at h; cases h
    refine Le.tup fun j hj => ?_
    match j, hj with
    | 0, _ =>
      show Le (mapRef (memL [200, 201]) (idxL [200, 201]) (scrubI 201 (scrubI 200 (upd (scrubE 201 (upd (scrubE 200 env) a (AV.row 200))) b (AV.row 201) a)))) (.row 0)
      rw [upd_other _ _ (fun e => hne hab e.symm)]
      show Le (mapRef (memL [200, 201]) (idxL [200, 201]) (scrubI 201 (scrubI 200 (scrub 201 (upd (scrubE 200 env) a (AV.row 200) a))))) (.row 0)
      rw [upd_same]; exact Le.refl _
    | 1, _ =>
      show Le (mapRef (memL [200, 201]) (idxL [200, 201]) (scrubI 201 (scrubI 200 (upd (scrubE 201 (upd (scrubE 200 env) a (AV.row 200))) b (AV.row 201) b)))) (.row 1)
      rw [upd_same]; exact Le.refl _
    | 2, _ =>
      show Le (mapRef (memL [200, 201]) (idxL [200, 201]) (scrubI 201 (scrubI 200 (upd (scrubE 201 (upd (scrubE 200 env) a (AV.row 200))) b (AV.row 201) c)))) (.int .i64 code)
      rw [upd_other _ _ (hne hbc)]
      show Le (mapRef (memL [200, 201]) (idxL [200, 201]) (scrubI 201 (scrubI 200 (scrub 201 (upd (scrubE 200 env) a (AV.row 200) c))))) (.int .i64 code)
      rw [upd_other _ _ (hne hac)]
      show Le (mapRef (memL [200, 201]) (idxL [200, 201]) (scrubI 201 (scrubI 200 (scrub 201 (scrub 200 (env c)))))) (.int .i64 code)
      rw [h10]; exact Le.refl _
theorem rb_bad {row : List ByteArray} {has : List Bool} {es : List En} {n : Int} {c : Int} (hc : rbCode row has es n = c) (h0 : c ≠ 0) {S : Nat → Prop} {w0 : World} :
    PostF S w0 (rbR (rbCode row has es n)) [tS.M 27 9 (rbRows row has es n), tB.M 28 4 (rbHas row has es n)] = PostF S w0 (rbR c) [tS.M 27 9 [], tB.M 28 4 []] := by
  unfold rbRows rbHas
  rw [hc, if_neg h0, if_neg h0]
theorem neqB {x : ByteArray} {y : Bool} (h : ((!decide (x = ⟨#[]⟩)) != y) = false) : y = decide (x ≠ ⟨#[]⟩) := by
  cases y <;> by_cases h9 : x = ⟨#[]⟩ <;> simp [h9] at h ⊢
theorem rebuild_fn (row : List ByteArray) (has : List Bool) (es : List En) (n : Int) : FnF Tryd.prog 11 [tS.L row, tB.L has, tEn.L es, .int .i64 n] (rbR (rbCode row has es n)) [tS.M 27 9 (rbRows row has es n), tB.M 28 4 (rbHas row has es n)] := by
  refine FnF.of Tryd.f11 _ Tryd.func11 rfl (by decide) (by show 4 ≤ _; decide) tbOk 137 rfl fun S w0 gl => ?_
  refine Run.go ?_; (conv => whnf); repeat' (first | ((with_reducible refine Know.mk fun _ => ?_); conv => whnf) | ((with_reducible refine Need.mk ?_ ?_); exact nd; conv => whnf) | ((with_reducible first | refine Both.mk ?_ ?_ | refine Any.mk fun b hb => ?_ | refine AskB.dec (fun hb => ?_) (fun hb => ?_) | refine AskB.ndec (fun hb => ?_) (fun hb => ?_) | refine AskB.mk (fun hb => ?_) (fun hb => ?_)) <;> conv => whnf) | ((with_reducible first | refine Run.drawX rfl (by decide +kernel) ?_ | refine Run.drawT rfl (by decide +kernel) ?_ | refine Run.drawW rfl (by decide +kernel) ?_); conv => whnf))
  iterate 3 (· exact leave_nil (a := 8) (b := 9) (c := 10) rfl rfl rfl rfl rfl rfl ⟨_, rfl⟩ (rb_bad (row := row) (has := has) (es := es) (n := n) (c := 2) (by unfold rbCode; rw [if_pos (by omega)]) (by decide)) Tryd.func11 rfl)
  rotate_left
  · exact leave_nil (a := 8) (b := 9) (c := 10) rfl rfl rfl rfl rfl rfl ⟨_, rfl⟩ (rb_bad (row := row) (has := has) (es := es) (n := n) (c := 2) (by unfold rbCode; rw [if_pos (by omega)]) (by decide)) Tryd.func11 rfl
  have hlen : row.length = has.length := by omega
  refine Run.loop [0,1,2,3,41,42] (fun i : Nat => [(43, .int .i64 (i : Int))]) (fun i => [])
    (fun i => i ≤ row.length ∧ ∀ j, j < i → has.getD j false = decide (row.getD j ⟨#[]⟩ ≠ ⟨#[]⟩)) (fun i => row.length - i) 0 ⟨Nat.zero_le _, fun j hj => absurd hj (Nat.not_lt_zero _)⟩ ⟨Le.refl _, trivial⟩ trivial ?_
  intro i ⟨hi, hok⟩ IH
  refine Run.go ?_; (conv => whnf); repeat' (first | ((with_reducible refine Know.mk fun _ => ?_); conv => whnf) | ((with_reducible refine Need.mk ?_ ?_); exact nd; conv => whnf) | ((with_reducible first | refine Both.mk ?_ ?_ | refine Any.mk fun b hb => ?_ | refine AskB.dec (fun hb => ?_) (fun hb => ?_) | refine AskB.ndec (fun hb => ?_) (fun hb => ?_) | refine AskB.mk (fun hb => ?_) (fun hb => ?_)) <;> conv => whnf) | ((with_reducible first | refine Run.drawX rfl (by decide +kernel) ?_ | refine Run.drawT rfl (by decide +kernel) ?_ | refine Run.drawW rfl (by decide +kernel) ?_); conv => whnf))
  · exact leave_nil (a := 8) (b := 9) (c := 10) rfl rfl rfl rfl rfl rfl ⟨_, rfl⟩ (rb_bad (row := row) (has := has) (es := es) (n := n) (c := 2) (by
      rw [Int.toNat_natCast] at hb
      unfold rbCode; rw [if_neg (by omega), if_pos (fun hr => ?_)]
      have := hr i (by omega)
      rw [show tB.z = false from rfl, show tS.z = ⟨#[]⟩ from rfl, this] at hb
      by_cases h9 : row.getD i ⟨#[]⟩ = ⟨#[]⟩ <;> simp [h9] at hb) (by decide)) Tryd.func11 rfl
  · refine Run.to _ _ ?_ ?_ (IH (i+1) (by omega) ⟨by omega, fun j hj => ?_⟩)
    · exact ⟨Le.refl _, Le.refl _, Le.refl _, Le.refl _, Le.refl _, Le.refl _, Le.wrap64 (by omega) (by omega) (by omega), trivial⟩
    · exact trivial
    · rcases Nat.lt_or_ge j i with h | h
      · exact hok j h
      · have : j = i := by omega
        subst this
        rw [Int.toNat_natCast] at hb
        exact neqB hb
  · have hR : rowOk row has := fun j hj => hok j (by omega)
    refine Run.callAX (appCheck_fn es n row.length) rfl rfl (ArgsLe.of_eq rfl) rfl rfl rfl ?_
    (conv => whnf); repeat' (first | ((with_reducible refine Know.mk fun _ => ?_); conv => whnf) | ((with_reducible refine Need.mk ?_ ?_); exact nd; conv => whnf) | ((with_reducible first | refine Both.mk ?_ ?_ | refine Any.mk fun b hb => ?_ | refine AskB.dec (fun hb => ?_) (fun hb => ?_) | refine AskB.ndec (fun hb => ?_) (fun hb => ?_) | refine AskB.mk (fun hb => ?_) (fun hb => ?_)) <;> conv => whnf) | ((with_reducible first | refine Run.drawX rfl (by decide +kernel) ?_ | refine Run.drawT rfl (by decide +kernel) ?_ | refine Run.drawW rfl (by decide +kernel) ?_); conv => whnf))
    rotate_left
    · exact leave_nil (a := 8) (b := 9) (c := 10) rfl rfl rfl rfl rfl rfl ⟨_, rfl⟩ (rb_bad (row := row) (has := has) (es := es) (n := n) (c := 170) (by
        unfold rbCode; rw [if_neg (by omega), if_neg (fun h => h hR), if_neg (fun h => ?_)]
        refine hb ?_
        unfold chk; rw [if_neg (by omega), if_pos h.1]) (by decide)) Tryd.func11 rfl
    refine Run.asMat 63 0 9 1 rfl (by decide) (fun i hi => rfl) ?_
    refine Run.asMat 65 0 4 1 rfl (by decide) (fun i hi => rfl) ?_
    refine Run.loop [0, 1, 2, 13, 14, 66] (fun k : Nat => [(67, .int .i64 (k : Int))]) (fun k => [(63, tS.M 27 9 (List.replicate k row ++ List.replicate (n.toNat - k) [])), (65, tB.M 28 4 (List.replicate k has ++ List.replicate (n.toNat - k) []))])
      (fun k => k ≤ n.toNat) (fun k => n.toNat - k) 0 (Nat.zero_le _) ⟨Le.refl _, trivial⟩ ⟨?_, ?_, trivial⟩ ?_
    · exact tS.M_nils 27 9 n.toNat _ _
    · exact tB.M_nils 28 4 n.toNat _ _
    intro k hk IHk
    refine Run.go ?_; (conv => whnf); repeat' (first | ((with_reducible refine Know.mk fun _ => ?_); conv => whnf) | ((with_reducible refine Need.mk ?_ ?_); exact nd; conv => whnf) | ((with_reducible first | refine Both.mk ?_ ?_ | refine Any.mk fun b hb => ?_ | refine AskB.dec (fun hb => ?_) (fun hb => ?_) | refine AskB.ndec (fun hb => ?_) (fun hb => ?_) | refine AskB.mk (fun hb => ?_) (fun hb => ?_)) <;> conv => whnf) | ((with_reducible first | refine Run.drawX rfl (by decide +kernel) ?_ | refine Run.drawT rfl (by decide +kernel) ?_ | refine Run.drawW rfl (by decide +kernel) ?_); conv => whnf))
    · have hl1 : (List.replicate k row ++ List.replicate (n.toNat - k) []).length = n.toNat := by simp; omega
      have hl2 : (List.replicate k has ++ List.replicate (n.toNat - k) []).length = n.toNat := by simp; omega
      refine Run.callFA 200 (clone_fn row (by omega)) rfl rfl (ArgsLe.of_eq rfl) rfl rfl rfl (fun m hm => ?_) ?_
      · simp only [List.mem_singleton] at hm; subst hm; exact fun i j _ _ => rfl
      (conv => whnf); repeat' (first | ((with_reducible refine Know.mk fun _ => ?_); conv => whnf) | ((with_reducible refine Need.mk ?_ ?_); exact nd; conv => whnf) | ((with_reducible first | refine Both.mk ?_ ?_ | refine Any.mk fun b hb => ?_ | refine AskB.dec (fun hb => ?_) (fun hb => ?_) | refine AskB.ndec (fun hb => ?_) (fun hb => ?_) | refine AskB.mk (fun hb => ?_) (fun hb => ?_)) <;> conv => whnf) | ((with_reducible first | refine Run.drawX rfl (by decide +kernel) ?_ | refine Run.drawT rfl (by decide +kernel) ?_ | refine Run.drawW rfl (by decide +kernel) ?_); conv => whnf))
      refine Run.callFA 201 (cloneB_fn has (by omega)) rfl rfl (ArgsLe.of_eq rfl) rfl rfl rfl (fun m hm => ?_) ?_
      · simp only [List.mem_singleton] at hm; subst hm; exact fun i j _ _ => rfl
      (conv => whnf); repeat' (first | ((with_reducible refine Know.mk fun _ => ?_); conv => whnf) | ((with_reducible refine Need.mk ?_ ?_); exact nd; conv => whnf) | ((with_reducible first | refine Both.mk ?_ ?_ | refine Any.mk fun b hb => ?_ | refine AskB.dec (fun hb => ?_) (fun hb => ?_) | refine AskB.ndec (fun hb => ?_) (fun hb => ?_) | refine AskB.mk (fun hb => ?_) (fun hb => ?_)) <;> conv => whnf) | ((with_reducible first | refine Run.drawX rfl (by decide +kernel) ?_ | refine Run.drawT rfl (by decide +kernel) ?_ | refine Run.drawW rfl (by decide +kernel) ?_); conv => whnf))
      refine Run.to _ _ ?_ ?_ (IHk (k+1) (by omega) (by omega))
      · exact ⟨Le.refl _, Le.refl _, Le.refl _, Le.refl _, Le.refl _, Le.refl _, Le.wrap64 (by omega) (by omega) (by omega), trivial⟩
      · refine ⟨?_, ?_, trivial⟩
        · rw [← rep_set row [] (by omega : k < n.toNat)]
          exact tS.M_plug 27 9 _ _ _ row _ _ (by omega) rfl (fun _ _ _ _ => Le.refl _)
        · rw [← rep_set has [] (by omega : k < n.toNat)]
          exact tB.M_plug 28 4 _ _ _ has _ _ (by omega) rfl (fun _ _ _ _ => Le.refl _)
    have hkn : k = n.toNat := by omega
    subst hkn
    have hG : Good n row.length es := by
      have hb0 : chk es n row.length = 0 := by assumption
      refine Classical.byContradiction fun hg => ?_
      unfold chk at hb0
      rw [if_neg (by omega), if_neg hg] at hb0
      exact absurd hb0 (by decide)
    clear IHk
    refine Run.loop [0, 13, 14, 81, 82] (fun i : Nat => [(83, .int .i64 (i : Int))]) (fun i => [(63, tS.M 27 9 (rowsT n (says (es.take i)) row)), (65, tB.M 28 4 (rowsH n (says (es.take i)) has))])
      (fun i => i ≤ es.length ∧ ∀ q, q < i → ((es.getD q tEn.z).rds.getD 0 tRd.z).text = row.getD (es.getD q tEn.z).col.toNat ByteArray.empty) (fun i => es.length - i) 0 ⟨Nat.zero_le _, fun q hq => absurd hq (Nat.not_lt_zero _)⟩ ⟨Le.refl _, trivial⟩ ⟨?_, ?_, trivial⟩ ?_
    · rw [show says (es.take 0) = [] from rfl, rowsT_nil]; simp only [Nat.sub_self, List.replicate_zero, List.append_nil]; exact MOle.refl _
    · rw [show says (es.take 0) = [] from rfl, rowsH_nil]; simp only [Nat.sub_self, List.replicate_zero, List.append_nil]; exact MOle.refl _
    intro i ⟨hi, hf⟩ IHi
    have hen : i < es.length → 0 ≤ (es.getD (↑i : Int).toNat tEn.z).col ∧ (es.getD (↑i : Int).toNat tEn.z).col < row.length ∧ 2 ≤ (es.getD (↑i : Int).toNat tEn.z).rds.length := fun h => by
      rw [Int.toNat_natCast]
      have := hG.each _ (getD_mem (z := tEn.z) i h)
      exact ⟨this.1, this.2.1, this.2.2.2.1⟩
    refine Run.go ?_; (conv => whnf); repeat' (first | ((with_reducible refine Know.mk fun _ => ?_); conv => whnf) | ((with_reducible refine Need.mk ?_ ?_); exact nd; conv => whnf) | ((with_reducible first | refine Both.mk ?_ ?_ | refine Any.mk fun b hb => ?_ | refine AskB.dec (fun hb => ?_) (fun hb => ?_) | refine AskB.ndec (fun hb => ?_) (fun hb => ?_) | refine AskB.mk (fun hb => ?_) (fun hb => ?_)) <;> conv => whnf) | ((with_reducible first | refine Run.drawX rfl (by decide +kernel) ?_ | refine Run.drawT rfl (by decide +kernel) ?_ | refine Run.drawW rfl (by decide +kernel) ?_); conv => whnf))
    · have hil : i < es.length := by omega
      obtain ⟨hc0, hc1, hc2⟩ := hen hil
      have hRt : Right n (es.getD (↑i : Int).toNat tEn.z).rds := by rw [Int.toNat_natCast]; exact (hG.each _ (getD_mem (z := tEn.z) i hil)).2.2
      have hsay := says_take es i hil
      rw [← Int.toNat_natCast i] at hsay
      generalize he : es.getD (↑i : Int).toNat tEn.z = e at *
      refine Run.loop [0, 13, 14, 17, 81, 82, 83, 100, 101] (fun k : Nat => [(102, .int .i64 (k : Int))])
        (fun k => [(17, .box 52 [.int .i64 e.col, tRd.L e.rds]), (63, tS.M 27 9 (rowsT n (says (es.take i) ++ (e.rds.take k).flatMap (sayR e.col.toNat)) row)), (65, tB.M 28 4 (rowsH n (says (es.take i) ++ (e.rds.take k).flatMap (sayR e.col.toNat)) has))])
        (fun k => k ≤ e.rds.length) (fun k => e.rds.length - k) 0 (Nat.zero_le _) ⟨Le.refl _, trivial⟩ ⟨?_, ?_, ?_, trivial⟩ ?_
      · rw [← he]; exact MOle.refl _
      · rw [List.take_zero, List.flatMap_nil, List.append_nil]; exact MOle.refl _
      · rw [List.take_zero, List.flatMap_nil, List.append_nil]; exact MOle.refl _
      intro k hk IHk
      refine Run.go ?_; (conv => whnf); repeat' (first | ((with_reducible refine Know.mk fun _ => ?_); conv => whnf) | ((with_reducible refine Need.mk ?_ ?_); exact nd; conv => whnf) | ((with_reducible first | refine Both.mk ?_ ?_ | refine Any.mk fun b hb => ?_ | refine AskB.dec (fun hb => ?_) (fun hb => ?_) | refine AskB.ndec (fun hb => ?_) (fun hb => ?_) | refine AskB.mk (fun hb => ?_) (fun hb => ?_)) <;> conv => whnf) | ((with_reducible first | refine Run.drawX rfl (by decide +kernel) ?_ | refine Run.drawT rfl (by decide +kernel) ?_ | refine Run.drawW rfl (by decide +kernel) ?_); conv => whnf))
      · have hkl : k < e.rds.length := by omega
        have hRd := hRt.1.each _ (getD_mem (z := tRd.z) k hkl)
        have hsayE := sayE_take e.col.toNat e.rds k hkl
        rw [← Int.toNat_natCast k] at hRd hsayE
        generalize hr : e.rds.getD (↑k : Int).toNat tRd.z = r at *
        refine Run.loop [0, 13, 14, 17, 20, 81, 82, 83, 100, 101, 102, 107, 108] (fun m : Nat => [(109, .int .i64 (m : Int))])
          (fun m => [(17, .box 52 [.int .i64 e.col, tRd.L e.rds]), (20, .box 49 [.bool r.none, .str r.text, tI.L r.wits]),
            (63, tS.M 27 9 (rowsT n (says (es.take i) ++ (e.rds.take k).flatMap (sayR e.col.toNat) ++ (r.wits.take m).map (fun w => (⟨w, e.col.toNat, r.text, !r.none⟩ : Sayn))) row)),
            (65, tB.M 28 4 (rowsH n (says (es.take i) ++ (e.rds.take k).flatMap (sayR e.col.toNat) ++ (r.wits.take m).map (fun w => (⟨w, e.col.toNat, r.text, !r.none⟩ : Sayn))) has))])
          (fun m => m ≤ r.wits.length) (fun m => r.wits.length - m) 0 (Nat.zero_le _) ⟨Le.refl _, trivial⟩ ⟨MOle.refl _, ?_, ?_, ?_, trivial⟩ ?_
        · rw [← hr]; exact MOle.refl _
        · rw [List.take_zero, List.map_nil, List.append_nil]; exact MOle.refl _
        · rw [List.take_zero, List.map_nil, List.append_nil]; exact MOle.refl _
        intro m hm IHm
        generalize hd : says (es.take i) ++ (e.rds.take k).flatMap (sayR e.col.toNat) ++ (r.wits.take m).map (fun w => (⟨w, e.col.toNat, r.text, !r.none⟩ : Sayn)) = d at *
        have hw : m < r.wits.length → 0 ≤ r.wits.getD (↑m : Int).toNat tI.z ∧ r.wits.getD (↑m : Int).toNat tI.z < n := fun h => hRd.rng _ (getD_mem (z := 0) m h)
        have hl1 := rowsT_len n d row
        have hl2 := rowsH_len n d has
        have hl3 : m < r.wits.length → ((rowsT n d row).getD (r.wits.getD (↑m : Int).toNat tI.z).toNat []).length = row.length := fun h => by rw [rowsT_at d row (by have := hw h; omega), appT_len]
        have hl4 : m < r.wits.length → ((rowsH n d has).getD (r.wits.getD (↑m : Int).toNat tI.z).toNat []).length = row.length := fun h => by rw [rowsH_at d has (by have := hw h; omega), appH_len, hlen]
        refine Run.go ?_; (conv => whnf); repeat' (first | ((with_reducible refine Know.mk fun _ => ?_); conv => whnf) | ((with_reducible refine Need.mk ?_ ?_); exact nd; conv => whnf) | ((with_reducible first | refine Both.mk ?_ ?_ | refine Any.mk fun b hb => ?_ | refine AskB.dec (fun hb => ?_) (fun hb => ?_) | refine AskB.ndec (fun hb => ?_) (fun hb => ?_) | refine AskB.mk (fun hb => ?_) (fun hb => ?_)) <;> conv => whnf) | ((with_reducible first | refine Run.drawX rfl (by decide +kernel) ?_ | refine Run.drawT rfl (by decide +kernel) ?_ | refine Run.drawW rfl (by decide +kernel) ?_); conv => whnf))
        · obtain ⟨w0', w1'⟩ := hw (by omega)
          have hml : m < r.wits.length := by omega
          have hd2 : says (es.take i) ++ (e.rds.take k).flatMap (sayR e.col.toNat) ++ (r.wits.take (m + 1)).map (fun w => (⟨w, e.col.toNat, r.text, !r.none⟩ : Sayn)) = d ++ [⟨r.wits.getD m 0, e.col.toNat, r.text, !r.none⟩] := by
            rw [sayR_take _ _ _ hml, ← List.append_assoc, hd]
          refine Run.to _ _ ?_ ?_ (IHm (m + 1) (by omega) (by omega))
          · exact ⟨Le.refl _, Le.refl _, Le.refl _, Le.refl _, Le.refl _, Le.refl _, Le.refl _, Le.refl _, Le.refl _, Le.refl _, Le.refl _, Le.refl _, Le.refl _, Le.wrap64 (by omega) (by omega) (by omega), trivial⟩
          · refine ⟨MOle.refl _, MOle.refl _, ?_, ?_, trivial⟩
            · rw [hd2, ← rowsT_say d row ⟨r.wits.getD m 0, e.col.toNat, r.text, !r.none⟩ w0' w1']
              exact tS.M_set 27 9 _ _ _ _ _ _ (by have := hl3 hml; rw [Int.toNat_natCast] at this; show _ < ((rowsT n d row).getD (r.wits.getD m 0).toNat []).length; rw [show (r.wits.getD m 0).toNat = (r.wits.getD m tI.z).toNat from rfl, this]; omega) rfl (Le.one (Le.refl _))
            · rw [hd2, ← rowsH_say d has ⟨r.wits.getD m 0, e.col.toNat, r.text, !r.none⟩ w0' w1']
              exact tB.M_set 28 4 _ _ _ _ _ _ (by have := hl4 hml; rw [Int.toNat_natCast] at this; show _ < ((rowsH n d has).getD (r.wits.getD m 0).toNat []).length; rw [show (r.wits.getD m 0).toNat = (r.wits.getD m tI.z).toNat from rfl, this]; omega) rfl (Le.one (Le.refl _))
        · have hmw : m = r.wits.length := by omega
          subst hmw
          rw [List.take_length] at hd
          have hd2 : says (es.take i) ++ (e.rds.take (k + 1)).flatMap (sayR e.col.toNat) = d := by
            rw [Int.toNat_natCast] at hsayE
            rw [hsayE, ← List.append_assoc, ← hd]; rfl
          refine Run.to _ _ ?_ ?_ (IHk (k + 1) (by omega) (by omega))
          · exact ⟨Le.refl _, Le.refl _, Le.refl _, Le.refl _, Le.refl _, Le.refl _, Le.refl _, Le.refl _, Le.refl _, Le.wrap64 (by omega) (by omega) (by omega), trivial⟩
          · rw [hd2]; exact ⟨MOle.refl _, MOle.refl _, MOle.refl _, trivial⟩
      · have hke : k = e.rds.length := by omega
        subst hke
        have hd2 : says (es.take (i + 1)) = says (es.take i) ++ (e.rds.take e.rds.length).flatMap (sayR e.col.toNat) := by
          rw [Int.toNat_natCast] at hsay
          rw [hsay, List.take_length]; rfl
        refine Run.to _ _ ?_ ?_ (IHi (i + 1) (by omega) ⟨by omega, fun q hq => ?_⟩)
        · exact ⟨Le.refl _, Le.refl _, Le.refl _, Le.refl _, Le.refl _, Le.wrap64 (by omega) (by omega) (by omega), trivial⟩
        · rw [hd2]; exact ⟨MOle.refl _, MOle.refl _, trivial⟩
        · rcases Nat.lt_or_ge q i with h | h
          · exact hf q h
          · have : q = i := by omega
            subst this
            rw [Int.toNat_natCast] at he
            rw [he]; assumption
    · exact leave_nil (a := 8) (b := 9) (c := 10) rfl rfl rfl rfl rfl rfl ⟨_, rfl⟩ (rb_bad (row := row) (has := has) (es := es) (n := n) (c := 170) (by
        unfold rbCode; rw [if_neg (by omega), if_neg (fun h => h hR), if_neg (fun h => ?_)]
        rw [Int.toNat_natCast] at hb
        exact hb ((row_first hR hG).mp h.2 i (by omega))) (by decide)) Tryd.func11 rfl
    · have hie : i = es.length := by omega
      subst hie
      have hcode : rbCode row has es n = 0 := by
        unfold rbCode; rw [if_neg (by omega), if_neg (fun h => h hR), if_pos ⟨hG, (row_first hR hG).mpr hf⟩]
      rw [List.take_length]
      refine Run.leaveF (ts := [8, 9, 10]) [63, 65] (.inr ⟨_, rfl⟩) rfl Tryd.func11 rfl (by decide) ⟨?_, ?_, trivial⟩ rfl ?_
      · unfold rbRows; rw [if_pos hcode]; exact MOle.refl _
      · unfold rbHas; rw [if_pos hcode]; exact MOle.refl _
      · rw [hcode]
        refine Le.tup fun j hj => ?_
        match j, hj with
        | 0, _ => exact Le.refl _
        | 1, _ => exact Le.refl _
        | 2, _ => exact Le.refl _
end Go.Proofs.YtjoecebimleoaaaDoor.V

namespace Go.Proofs.YtjoecebimleoaaaDoor.V
set_option linter.unusedVariables false
set_option linter.unusedSimpArgs false
open Go Go.Proofs Go.RowKit
set_option maxRecDepth 100000
set_option maxHeartbeats 1000000
def strX : ByteArray := ⟨#[120]⟩
def awE : List En := [⟨0, [⟨false, strX, [0]⟩, ⟨true, ⟨#[]⟩, [1]⟩]⟩]
theorem awE_good : Good 2 1 awE := by
  have hne : ¬ strX = ⟨#[]⟩ := fun e => by cases e
  refine ⟨fun e he => ?_, by simp [awE]⟩
  simp only [awE, List.mem_singleton] at he
  subst he
  refine ⟨by decide, by decide, ⟨fun r hr => ?_, by simp [fl], by simp [hne]⟩, by decide, by simp [fl]⟩
  · simp only [List.mem_cons, List.not_mem_nil, or_false] at hr
    rcases hr with rfl | rfl
    · exact ⟨by simp, by simp [hne], by simp, by simp⟩
    · exact ⟨by simp, by simp, by simp, by simp⟩
theorem aw_code : rbCode [strX] [true] awE 2 = 0 := by
  have hne : ¬ strX = ⟨#[]⟩ := fun e => by cases e
  have h1 : rowOk [strX] [true] := fun i hi => by
    have : i = 0 := by simpa using hi
    subst this
    simp [hne]
  have h2 : firstOk [strX] [true] awE := fun e he => by
    simp only [awE, List.mem_singleton] at he
    subst he
    exact ⟨by decide, rfl⟩
  unfold rbCode
  rw [if_neg (by decide), if_neg (fun h => h h1), if_pos ⟨awE_good, h2⟩]
theorem awake18_fn : Fn Tryd.prog 5 [] .tt := by
  refine Fn.of Tryd.f5 _ Tryd.func5 rfl (by decide) (by show 0 ≤ _; decide) tbOk 60 rfl fun S w0 gl => ?_
  refine Run.go ?_; (conv => whnf); repeat' (first | ((with_reducible refine Know.mk fun _ => ?_); conv => whnf) | ((with_reducible refine Need.mk ?_ ?_); exact nd; conv => whnf) | ((with_reducible first | refine Both.mk ?_ ?_ | refine Any.mk fun b hb => ?_ | refine AskB.dec (fun hb => ?_) (fun hb => ?_) | refine AskB.ndec (fun hb => ?_) (fun hb => ?_) | refine AskB.mk (fun hb => ?_) (fun hb => ?_)) <;> conv => whnf) | ((with_reducible first | refine Run.drawX rfl (by decide +kernel) ?_ | refine Run.drawT rfl (by decide +kernel) ?_ | refine Run.drawW rfl (by decide +kernel) ?_); conv => whnf))
  refine Run.freeze 7 (by rfl) ?_
  refine Run.freeze 9 (by rfl) ?_
  refine Run.go ?_; (conv => whnf); repeat' (first | ((with_reducible refine Know.mk fun _ => ?_); conv => whnf) | ((with_reducible refine Need.mk ?_ ?_); exact nd; conv => whnf) | ((with_reducible first | refine Both.mk ?_ ?_ | refine Any.mk fun b hb => ?_ | refine AskB.dec (fun hb => ?_) (fun hb => ?_) | refine AskB.ndec (fun hb => ?_) (fun hb => ?_) | refine AskB.mk (fun hb => ?_) (fun hb => ?_)) <;> conv => whnf) | ((with_reducible first | refine Run.drawX rfl (by decide +kernel) ?_ | refine Run.drawT rfl (by decide +kernel) ?_ | refine Run.drawW rfl (by decide +kernel) ?_); conv => whnf))
  refine Run.freeze 11 (by rfl) ?_
  refine Run.go ?_; (conv => whnf); repeat' (first | ((with_reducible refine Know.mk fun _ => ?_); conv => whnf) | ((with_reducible refine Need.mk ?_ ?_); exact nd; conv => whnf) | ((with_reducible first | refine Both.mk ?_ ?_ | refine Any.mk fun b hb => ?_ | refine AskB.dec (fun hb => ?_) (fun hb => ?_) | refine AskB.ndec (fun hb => ?_) (fun hb => ?_) | refine AskB.mk (fun hb => ?_) (fun hb => ?_)) <;> conv => whnf) | ((with_reducible first | refine Run.drawX rfl (by decide +kernel) ?_ | refine Run.drawT rfl (by decide +kernel) ?_ | refine Run.drawW rfl (by decide +kernel) ?_); conv => whnf))
  refine Run.callFA 1000 (rebuild_fn [strX] [true] awE 2) rfl rfl ⟨?_, ?_, ?_, ?_, trivial⟩ (by rfl) (by rfl) (by rfl) (flat_cons (Ty.M_flat tS_flat) (flat_cons (Ty.M_flat tB_flat) flat_nil)) ?_
  · refine Le.sl fun i j hi hj => ?_
    match i, hi, j, hj with
    | 0, _, 0, _ => exact Le.refl _
  · refine Le.sl fun i j hi hj => ?_
    match i, hi, j, hj with
    | 0, _, 0, _ => exact Le.refl _
  · refine Le.sl fun i j hi hj => ?_
    match i, hi, j, hj with
    | 0, _, 0, _ => exact Le.refl _
    | 0, _, 1, _ =>
      refine Le.sl fun i j hi hj => ?_
      match i, hi, j, hj with
      | 0, _, 0, _ => exact Le.refl _
      | 0, _, 1, _ => exact Le.refl _
      | 0, _, 2, _ =>
        refine Le.sl fun i j hi hj => ?_
        match i, hi, j, hj with
        | 0, _, 0, _ => exact Le.refl _
      | 1, _, 0, _ => exact Le.refl _
      | 1, _, 1, _ => exact Le.refl _
      | 1, _, 2, _ =>
        refine Le.sl fun i j hi hj => ?_
        match i, hi, j, hj with
        | 0, _, 0, _ => exact Le.refl _
  · exact Le.refl _
  have e1 : rbRows [strX] [true] awE 2 = [[strX], [⟨#[]⟩]] := by unfold rbRows; rw [if_pos aw_code]; rfl
  have e2 : rbHas [strX] [true] awE 2 = [[true], [false]] := by unfold rbHas; rw [if_pos aw_code]; rfl
  rw [aw_code, e1, e2]
  (conv => whnf); repeat' (first | ((with_reducible refine Know.mk fun _ => ?_); conv => whnf) | ((with_reducible refine Need.mk ?_ ?_); exact nd; conv => whnf) | ((with_reducible first | refine Both.mk ?_ ?_ | refine Any.mk fun b hb => ?_ | refine AskB.dec (fun hb => ?_) (fun hb => ?_) | refine AskB.ndec (fun hb => ?_) (fun hb => ?_) | refine AskB.mk (fun hb => ?_) (fun hb => ?_)) <;> conv => whnf) | ((with_reducible first | refine Run.drawX rfl (by decide +kernel) ?_ | refine Run.drawT rfl (by decide +kernel) ?_ | refine Run.drawW rfl (by decide +kernel) ?_); conv => whnf))
  all_goals first | exact Run.leave (ts := [0]) (.inr ⟨_, rfl⟩) rfl Tryd.func5 rfl (Le.tt' rfl) | exact absurd rfl hb | (exfalso; exact hb (by decide))
end Go.Proofs.YtjoecebimleoaaaDoor.V

namespace Go.Proofs.YtjoecebimleoaaaDoor.V
set_option linter.unusedVariables false
set_option linter.unusedSimpArgs false
open Go
theorem says_mem {es : List En} {s : Sayn} (h : s ∈ says es) : ∃ e ∈ es, ∃ r ∈ e.rds, s.w ∈ r.wits ∧ s.c = e.col.toNat ∧ s.t = r.text ∧ s.h = !r.none := by
  unfold says at h
  obtain ⟨e, he, h⟩ := List.mem_flatMap.mp h
  unfold sayE at h
  obtain ⟨r, hr, h⟩ := List.mem_flatMap.mp h
  unfold sayR at h
  obtain ⟨w, hw, rfl⟩ := List.mem_map.mp h
  exact ⟨e, he, r, hr, hw, rfl, rfl, rfl⟩
end Go.Proofs.YtjoecebimleoaaaDoor.V

namespace Go.Proofs.YtjoecebimleoaaaDoor.V
set_option linter.unusedVariables false
set_option linter.unusedSimpArgs false
open Go Go.Proofs Go.RowKit
set_option maxRecDepth 100000
set_option maxHeartbeats 4000000
def badC (t : Tab) (c : Int) : Prop := c < 0 ∨ (t.cols.length : Int) ≤ c
open Classical in
noncomputable def readCode (t : Tab) (c o : Int) : Int := if ¬ OkT t then 121 else if badO o ∨ badC t c then 2 else 0
noncomputable def readR (t : Tab) (c o : Int) : List Rd := if readCode t c o = 0 then readE t c.toNat o t.wits.length else []
noncomputable def readL (t : Tab) (c o : Int) : AV := tupL [tRd.L (readR t c o), .int .i64 (readCode t c o)]
theorem rc_no {t : Tab} (c o : Int) (h : ¬ OkT t) : readCode t c o = 121 ∧ readR t c o = [] := by
  have hc : readCode t c o = 121 := if_pos h
  exact ⟨hc, if_neg (by rw [hc]; decide)⟩
theorem rc_bad {t : Tab} {c o : Int} (h : OkT t) (hb : badO o ∨ badC t c) : readCode t c o = 2 ∧ readR t c o = [] := by
  have hc : readCode t c o = 2 := by unfold readCode; rw [if_neg (not_not_intro h), if_pos hb]
  exact ⟨hc, if_neg (by rw [hc]; decide)⟩
theorem rc_ok {t : Tab} {c o : Int} (h : OkT t) (hb : ¬ badO o) (hc : ¬ badC t c) : readCode t c o = 0 ∧ readR t c o = readE t c.toNat o t.wits.length := by
  have hd : readCode t c o = 0 := by unfold readCode; rw [if_neg (not_not_intro h), if_neg (fun g => g.elim hb hc)]
  exact ⟨hd, if_pos hd⟩
theorem readings_fn (t : Tab) (c o : Int) (hf : FitT t) : Fn Tryd.prog 17 [tbA t, .int .i64 c, .int .i64 o] (readL t c o) := by
  refine Fn.of Tryd.f17 _ Tryd.func17 rfl (by decide) (by show 3 ≤ _; decide) tbOk 35 rfl fun S w0 gl => ?_
  refine Run.go ?_; (conv => whnf); repeat' (first | ((with_reducible refine Know.mk fun _ => ?_); conv => whnf) | ((with_reducible refine Need.mk ?_ ?_); exact nd; conv => whnf) | ((with_reducible first | refine Both.mk ?_ ?_ | refine Any.mk fun b hb => ?_ | refine AskB.dec (fun hb => ?_) (fun hb => ?_) | refine AskB.ndec (fun hb => ?_) (fun hb => ?_) | refine AskB.mk (fun hb => ?_) (fun hb => ?_)) <;> conv => whnf) | ((with_reducible first | refine Run.drawX rfl (by decide +kernel) ?_ | refine Run.drawT rfl (by decide +kernel) ?_ | refine Run.drawW rfl (by decide +kernel) ?_); conv => whnf))
  refine Run.callBX (check_fn t hf) rfl rfl ⟨tb_le t (Le.refl _) (Le.refl _), trivial⟩ rfl rfl rfl ?_
  have hfc := hf.cols
  unfold readL
  rcases chk_01 t with ⟨hok, he⟩ | ⟨hok, he⟩
  · rw [he]
    (conv => whnf); repeat' (first | ((with_reducible refine Know.mk fun _ => ?_); conv => whnf) | ((with_reducible refine Need.mk ?_ ?_); exact nd; conv => whnf) | ((with_reducible refine Both.mk ?_ ?_) <;> conv => whnf) | ((with_reducible refine Any.mk fun b hb => ?_); conv => whnf) | ((with_reducible first | refine AskB.dec (fun hb => ?_) (fun hb => ?_) | refine AskB.ndec (fun hb => ?_) (fun hb => ?_) | refine AskB.mk (fun hb => ?_) (fun hb => ?_)) <;> first | (exfalso; omega) | (conv => whnf)) | ((with_reducible first | refine Run.drawX rfl (by decide +kernel) ?_ | refine Run.drawT rfl (by decide +kernel) ?_ | refine Run.drawW rfl (by decide +kernel) ?_); conv => whnf))
    all_goals try (exfalso; omega)
    all_goals try (
      have hbad : badO o ∨ badC t c := by unfold badO badC; omega
      rw [(rc_bad hok hbad).1, (rc_bad hok hbad).2]
      exact Run.leave (ts := [6,7]) (.inr ⟨_, rfl⟩) rfl Tryd.func17 rfl (resT ⟨tRd.nil, Le.refl _, trivial⟩))
    have hbo : ¬ badO o := by unfold badO; omega
    have hbc : ¬ badC t c := by unfold badC; omega
    have hcc : c.toNat < t.cols.length := by omega
    rw [(rc_ok hok hbo hbc).1, (rc_ok hok hbo hbc).2]
    refine Run.callBX (column_fn t c.toNat o hf hok hcc hbo) rfl rfl ⟨tb_le t (Le.refl _) (Le.refl _), Le.int (by omega), Le.refl _, trivial⟩ rfl rfl rfl ?_
    (conv => whnf); repeat' (first | ((with_reducible refine Know.mk fun _ => ?_); conv => whnf) | ((with_reducible refine Need.mk ?_ ?_); exact nd; conv => whnf) | ((with_reducible first | refine Both.mk ?_ ?_ | refine Any.mk fun b hb => ?_ | refine AskB.dec (fun hb => ?_) (fun hb => ?_) | refine AskB.ndec (fun hb => ?_) (fun hb => ?_) | refine AskB.mk (fun hb => ?_) (fun hb => ?_)) <;> conv => whnf) | ((with_reducible first | refine Run.drawX rfl (by decide +kernel) ?_ | refine Run.drawT rfl (by decide +kernel) ?_ | refine Run.drawW rfl (by decide +kernel) ?_); conv => whnf))
    exact Run.leave (ts := [6,7]) (.inr ⟨_, rfl⟩) rfl Tryd.func17 rfl (resT ⟨Le.refl _, Le.refl _, trivial⟩)
  · rw [he, (rc_no c o hok).1, (rc_no c o hok).2]
    (conv => whnf); repeat' (first | ((with_reducible refine Know.mk fun _ => ?_); conv => whnf) | ((with_reducible refine Need.mk ?_ ?_); exact nd; conv => whnf) | ((with_reducible refine Both.mk ?_ ?_) <;> conv => whnf) | ((with_reducible refine Any.mk fun b hb => ?_); conv => whnf) | ((with_reducible first | refine AskB.dec (fun hb => ?_) (fun hb => ?_) | refine AskB.ndec (fun hb => ?_) (fun hb => ?_) | refine AskB.mk (fun hb => ?_) (fun hb => ?_)) <;> first | (exfalso; omega) | (conv => whnf)) | ((with_reducible first | refine Run.drawX rfl (by decide +kernel) ?_ | refine Run.drawT rfl (by decide +kernel) ?_ | refine Run.drawW rfl (by decide +kernel) ?_); conv => whnf))
    all_goals try (exfalso; omega)
    exact Run.leave (ts := [6,7]) (.inr ⟨_, rfl⟩) rfl Tryd.func17 rfl (resT ⟨tRd.nil, Le.refl _, trivial⟩)
end Go.Proofs.YtjoecebimleoaaaDoor.V

namespace Go.Proofs.YtjoecebimleoaaaDoor.V
set_option linter.unusedVariables false
set_option linter.unusedSimpArgs false
open Go Go.Proofs Go.RowKit
set_option maxRecDepth 100000
/-! ### folding by nothing -/
theorem foldL_0 (r : Int) : foldL 0 r = [r] := by
  unfold foldL foldB
  simp [stepB]
theorem cells_0 (s : ByteArray) (p : Nat) : catC 0 (cells s p) = bl (s.data.toList.drop p) := by
  have h3 : s.data.toList.length = s.size := by simp
  by_cases hp : p < s.size
  · have hw := Lib.width_pos s p
    have ih := cells_0 s (p + (Utf8.decode s p).2)
    rw [cells_in hp, catC, ih]
    by_cases hv : (Utf8.decode s p).1 = 65533 ∧ (Utf8.decode s p).2 = 1
    · have hd : Utf8.decode s p = (65533, 1) := Prod.ext hv.1 hv.2
      rw [cellAt_bad s p hd, hd]
      have hb : cellF 0 ⟨p, 1, 65533, true, bt s p⟩ = bl [s.data.toList[p]'(by omega)] := by
        unfold cellF bt
        rw [if_pos rfl, List.getD, List.getElem?_eq_getElem (by omega)]
        apply ByteArray.ext; apply Array.ext'; simp [bl]
      rw [hb, ← bl_app, List.singleton_append, ← List.drop_eq_getElem_cons]
    · have hne : s.data.toList.drop p ≠ [] := fun e => by
        have h2 := congrArg List.length e
        rw [List.length_drop] at h2
        simp at h2; omega
      have he := Lib.encode_decode _ hne (by rw [Lib.decodeL_drop]; exact hv)
      rw [Lib.decodeL_drop] at he
      rw [cellAt_good s p (Utf8.decode s p).1 (Utf8.decode s p).2 rfl hv]
      unfold cellF
      rw [if_neg (by simp), foldR_eq, foldL_0, ← bl_app]
      simp only [encs, List.flatMap_cons, List.flatMap_nil, List.append_nil]
      rw [he, ← List.drop_drop, List.take_append_drop]
  · rw [cells_out hp, List.drop_eq_nil_of_le (by omega)]
    rfl
termination_by s.size - p
theorem text_0 (s : ByteArray) : textF s 0 = s := by
  unfold textF
  rw [cells_0, List.drop_zero, bl_of]
/-! ### a witness more -/
theorem add_miss {o : Int} {l : List Rd} {i : Int} {nn : Bool} {text key : ByteArray} (h : l.findIdx (sameR o nn key) = l.length) : addR o l i nn text key = l ++ [⟨nn, text, [i]⟩] := by
  unfold addR ensR pushW
  rw [h, if_pos rfl, getD_app2, List.set_append_right _ _ (Nat.le_refl _), Nat.sub_self]
  rfl
theorem add_hit {o : Int} {l : List Rd} {i : Int} {nn : Bool} {text key : ByteArray} (h : l.findIdx (sameR o nn key) < l.length) :
    addR o l i nn text key = pushW l (l.findIdx (sameR o nn key)) i ∧ (l.getD (l.findIdx (sameR o nn key)) rd0).none = nn ∧ textF (l.getD (l.findIdx (sameR o nn key)) rd0).text o = key := by
  unfold addR ensR
  rw [if_neg (by omega)]
  refine ⟨rfl, ?_⟩
  have h1 := List.findIdx_getElem (p := sameR o nn key) (xs := l) (w := h)
  have h2 : l.getD (l.findIdx (sameR o nn key)) rd0 = l[l.findIdx (sameR o nn key)] := by rw [List.getD, List.getElem?_eq_getElem h]; rfl
  rw [← h2] at h1
  generalize l.getD (l.findIdx (sameR o nn key)) rd0 = r at h1 ⊢
  unfold sameR at h1
  simpa using h1
theorem miss_not {o : Int} {l : List Rd} {nn : Bool} {key : ByteArray} (h : l.findIdx (sameR o nn key) = l.length) : ∀ r ∈ l, ¬ (r.none = nn ∧ textF r.text o = key) := fun r hr hh => by
  have h1 : l.findIdx (sameR o nn key) < l.length := List.findIdx_lt_length_of_exists ⟨r, hr, by unfold sameR; simp [hh.1, hh.2]⟩
  omega
theorem push_at (l : List Rd) (k : Nat) (i : Int) (hk : k < l.length) (j : Nat) : (pushW l k i).getD j rd0 = if j = k then ⟨(l.getD k rd0).none, (l.getD k rd0).text, (l.getD k rd0).wits ++ [i]⟩ else l.getD j rd0 := by
  unfold pushW
  rw [List.getD, List.getElem?_set]
  by_cases e : j = k
  · subst e; rw [if_pos rfl, if_pos hk, if_pos rfl]; rfl
  · rw [if_neg (fun x => e x.symm), if_neg e]; rfl
theorem sumL_set {α : Type} (f : α → Nat) (z y : α) : ∀ (l : List α) (k : Nat), k < l.length → sumL f (l.set k y) + f (l.getD k z) = sumL f l + f y
  | [], k, h => absurd h (Nat.not_lt_zero _)
  | x :: l, 0, _ => by simp only [List.set_cons_zero, sumL, List.getD_cons_zero]; omega
  | x :: l, k + 1, h => by
    have := sumL_set f z y l k (by simpa using h)
    simp only [List.set_cons_succ, sumL, List.getD_cons_succ]; omega
/-- What the witnesses of a reading have of it. -/
structure WsOk (t : Tab) (c : Nat) (o : Int) (n : Nat) (r : Rd) : Prop where
  pos : 0 < r.wits.length
  up : ∀ k, k + 1 < r.wits.length → r.wits.getD k 0 < r.wits.getD (k + 1) 0
  at' : ∀ k, k < r.wits.length → 0 ≤ r.wits.getD k 0 ∧ r.wits.getD k 0 < n ∧ r.none = decide (atC t c (r.wits.getD k 0).toNat < 0) ∧ textF r.text o = keyAt t c o (r.wits.getD k 0).toNat
  text : r.text = textAt t c (r.wits.getD 0 0).toNat
structure RInv (t : Tab) (c : Nat) (o : Int) (n : Nat) (l : List Rd) : Prop where
  hit : ∀ j, j < n → ∃ r ∈ l, r.none = decide (atC t c j < 0) ∧ textF r.text o = keyAt t c o j
  ws : ∀ i, i < l.length → WsOk t c o n (l.getD i rd0)
  up : ∀ i, i + 1 < l.length → (l.getD i rd0).wits.getD 0 0 < (l.getD (i + 1) rd0).wits.getD 0 0
  sum : sumL (fun r : Rd => r.wits.length) l = n
theorem WsOk.mono {t : Tab} {c n : Nat} {o : Int} {r : Rd} (h : WsOk t c o n r) : WsOk t c o (n + 1) r :=
  ⟨h.pos, h.up, fun k hk => by obtain ⟨a, b, d⟩ := h.at' k hk; exact ⟨a, by omega, d⟩, h.text⟩
theorem key_text (t : Tab) (c : Nat) (o : Int) (i : Nat) : textF (textAt t c i) o = keyAt t c o i := by
  unfold keyAt
  split
  · unfold textAt
    rw [if_pos (by assumption), textF_empty]
  · rfl
theorem read_inv (t : Tab) (c : Nat) (o : Int) : ∀ n, RInv t c o n (readE t c o n)
  | 0 => ⟨fun j h => absurd h (Nat.not_lt_zero _), fun i h => absurd h (Nat.not_lt_zero _), fun i h => absurd h (Nat.not_lt_zero _), rfl⟩
  | n + 1 => by
    have ih := read_inv t c o n
    have hstep : readE t c o (n + 1) = addR o (readE t c o n) n (decide (atC t c n < 0)) (textAt t c n) (keyAt t c o n) := rfl
    generalize readE t c o n = l at ih hstep
    rw [hstep]
    by_cases hk : l.findIdx (sameR o (decide (atC t c n < 0)) (keyAt t c o n)) < l.length
    · obtain ⟨e1, e2, e3⟩ := add_hit (i := (n : Int)) (text := textAt t c n) hk
      rw [e1]
      generalize l.findIdx (sameR o (decide (atC t c n < 0)) (keyAt t c o n)) = k at hk e2 e3
      have hw := ih.ws k hk
      have hlen : (pushW l k n).length = l.length := push_len l k n
      have hfirst : ∀ i, ((pushW l k n).getD i rd0).wits.getD 0 0 = (l.getD i rd0).wits.getD 0 0 := fun i => by
        rw [push_at l k n hk]
        split
        · rename_i e; subst e
          exact getD_app1 hw.pos
        · rfl
      refine ⟨fun j hj => ?_, fun i hi => ?_, fun i hi => ?_, ?_⟩
      · have key : ∀ r ∈ l, ∃ r' ∈ pushW l k n, r'.none = r.none ∧ r'.text = r.text := fun r hr => by
          obtain ⟨i, hi, rfl⟩ := List.getElem_of_mem hr
          have hg : l.getD i rd0 = l[i] := by rw [List.getD, List.getElem?_eq_getElem hi]; rfl
          refine ⟨(pushW l k n).getD i rd0, getD_mem' i (by rw [hlen]; exact hi), ?_⟩
          rw [push_at l k n hk, ← hg]
          split
          · rename_i e; subst e; exact ⟨rfl, rfl⟩
          · exact ⟨rfl, rfl⟩
        by_cases hjn : j < n
        · obtain ⟨r, hr, h1, h2⟩ := ih.hit j hjn
          obtain ⟨r', hr', g1, g2⟩ := key r hr
          exact ⟨r', hr', by rw [g1, h1], by rw [g2, h2]⟩
        · obtain rfl : j = n := by omega
          obtain ⟨r', hr', g1, g2⟩ := key _ (getD_mem' (z := rd0) k hk)
          exact ⟨r', hr', by rw [g1, e2], by rw [g2, e3]⟩
      · rw [hlen] at hi
        rw [push_at l k n hk]
        split
        · rename_i e; subst e
          have hl : ((l.getD i rd0).wits ++ [(n : Int)]).length = (l.getD i rd0).wits.length + 1 := by simp
          have hold : ∀ q, q < (l.getD i rd0).wits.length → ((l.getD i rd0).wits ++ [(n : Int)]).getD q 0 = (l.getD i rd0).wits.getD q 0 := fun q hq => getD_app1 hq
          have hnew : ((l.getD i rd0).wits ++ [(n : Int)]).getD (l.getD i rd0).wits.length 0 = n := getD_app2
          refine ⟨by show 0 < ((l.getD i rd0).wits ++ [(n : Int)]).length; omega, fun q hq => ?_, fun q hq => ?_, ?_⟩
          · replace hq : q + 1 < ((l.getD i rd0).wits ++ [(n : Int)]).length := hq
            show ((l.getD i rd0).wits ++ [(n : Int)]).getD q 0 < ((l.getD i rd0).wits ++ [(n : Int)]).getD (q + 1) 0
            rw [hold q (by omega)]
            by_cases e : q + 1 = (l.getD i rd0).wits.length
            · rw [e, hnew]; exact (hw.at' q (by omega)).2.1
            · rw [hold (q + 1) (by omega)]; exact hw.up q (by omega)
          · replace hq : q < ((l.getD i rd0).wits ++ [(n : Int)]).length := hq
            show 0 ≤ ((l.getD i rd0).wits ++ [(n : Int)]).getD q 0 ∧ ((l.getD i rd0).wits ++ [(n : Int)]).getD q 0 < ((n + 1 : Nat) : Int) ∧ (l.getD i rd0).none = decide (atC t c (((l.getD i rd0).wits ++ [(n : Int)]).getD q 0).toNat < 0) ∧ textF (l.getD i rd0).text o = keyAt t c o (((l.getD i rd0).wits ++ [(n : Int)]).getD q 0).toNat
            by_cases e : q = (l.getD i rd0).wits.length
            · rw [e, hnew]
              exact ⟨by omega, by omega, e2, e3⟩
            · rw [hold q (by omega)]
              obtain ⟨a, b, d⟩ := hw.at' q (by omega)
              exact ⟨a, by omega, d⟩
          · show (l.getD i rd0).text = textAt t c (((l.getD i rd0).wits ++ [(n : Int)]).getD 0 0).toNat
            rw [hold 0 hw.pos]; exact hw.text
        · exact (ih.ws i hi).mono
      · rw [hlen] at hi
        rw [hfirst, hfirst]; exact ih.up i hi
      · have h1 := sumL_set (fun r : Rd => r.wits.length) rd0 ⟨(l.getD k rd0).none, (l.getD k rd0).text, (l.getD k rd0).wits ++ [(n : Int)]⟩ l k hk
        have h2 := ih.sum
        simp only [List.length_append, List.length_singleton] at h1
        show sumL (fun r : Rd => r.wits.length) (l.set k _) = n + 1
        omega
    · have hm : l.findIdx (sameR o (decide (atC t c n < 0)) (keyAt t c o n)) = l.length := by
        have := List.findIdx_le_length (p := sameR o (decide (atC t c n < 0)) (keyAt t c o n)) (xs := l)
        omega
      rw [add_miss hm]
      have hold : ∀ i, i < l.length → (l ++ [(⟨decide (atC t c n < 0), textAt t c n, [(n : Int)]⟩ : Rd)]).getD i rd0 = l.getD i rd0 := fun i hi => getD_app1 hi
      have hnew : (l ++ [(⟨decide (atC t c n < 0), textAt t c n, [(n : Int)]⟩ : Rd)]).getD l.length rd0 = ⟨decide (atC t c n < 0), textAt t c n, [(n : Int)]⟩ := getD_app2
      have hl : (l ++ [(⟨decide (atC t c n < 0), textAt t c n, [(n : Int)]⟩ : Rd)]).length = l.length + 1 := by simp
      refine ⟨fun j hj => ?_, fun i hi => ?_, fun i hi => ?_, ?_⟩
      · by_cases hjn : j < n
        · obtain ⟨r, hr, h⟩ := ih.hit j hjn
          exact ⟨r, List.mem_append_left _ hr, h⟩
        · obtain rfl : j = n := by omega
          exact ⟨_, List.mem_append_right _ (List.mem_singleton.mpr rfl), rfl, key_text t c o j⟩
      · by_cases e : i = l.length
        · rw [e, hnew]
          refine ⟨Nat.one_pos, fun q hq => absurd hq (by simp), one0 ⟨Int.natCast_nonneg n, by show (n : Int) < ((n + 1 : Nat) : Int); omega, rfl, key_text t c o n⟩, rfl⟩
        · rw [hold i (by omega)]; exact (ih.ws i (by omega)).mono
      · rw [hold i (by omega)]
        by_cases e : i + 1 = l.length
        · rw [e, hnew]
          exact ((ih.ws i (by omega)).at' 0 (ih.ws i (by omega)).pos).2.1
        · rw [hold (i + 1) (by omega)]; exact ih.up i (by omega)
      · rw [sumL_append, ih.sum]; rfl
end Go.Proofs.YtjoecebimleoaaaDoor.V

namespace Go.Proofs.YtjoecebimleoaaaDoor.V
set_option linter.unusedVariables false
set_option linter.unusedSimpArgs false
open Go Go.Proofs Go.RowKit
set_option maxRecDepth 100000
set_option maxHeartbeats 4000000
noncomputable def cellL (t : Tab) (c i : Nat) : AV := tupL [.str (textAt t c i), .bool (!decide (atC t c i < 0)), .int .i64 0]
theorem tcell_fn (t : Tab) (c i : Nat) (hf : FitT t) (hok : OkT t) (hc : c < t.cols.length) (hi : i < t.wits.length) : Fn Tryd.prog 12 [tbA t, .int .i64 c, .int .i64 i] (cellL t c i) := by
  refine Fn.of Tryd.f12 _ Tryd.func12 rfl (by decide) (by show 3 ≤ _; decide) tbOk 56 rfl fun S w0 gl => ?_
  have hfc := hf.cols
  have hfw := hf.wits
  refine Run.go ?_; (conv => whnf); repeat' (first | ((with_reducible refine Know.mk fun _ => ?_); conv => whnf) | ((with_reducible refine Need.mk ?_ ?_); exact nd; conv => whnf) | ((with_reducible first | refine Both.mk ?_ ?_ | refine Any.mk fun b hb => ?_ | refine AskB.dec (fun hb => ?_) (fun hb => ?_) | refine AskB.ndec (fun hb => ?_) (fun hb => ?_) | refine AskB.mk (fun hb => ?_) (fun hb => ?_)) <;> conv => whnf) | ((with_reducible first | refine Run.drawX rfl (by decide +kernel) ?_ | refine Run.drawT rfl (by decide +kernel) ?_ | refine Run.drawW rfl (by decide +kernel) ?_); conv => whnf))
  refine Run.callBX (check_fn t hf) rfl rfl ⟨tb_le t (Le.refl _) (Le.refl _), trivial⟩ rfl rfl rfl ?_
  rw [chk_ok hok]
  obtain ⟨hlen, hat⟩ := at_ok hok hc hi
  have hfi : (witAt t i).words.length ≤ 2000000 := (hf.wit (witAt t i) (getD_mem' i hi)).2.1
  have hx : (t.cols.getD (c : Int).toNat tIL.z).getD (i : Int).toNat tI.z = atC t c i := rfl
  have hlc : (t.cols.getD (c : Int).toNat tIL.z).length = t.wits.length := hlen
  have hlw2 : (t.wits.getD (i : Int).toNat tWit.z).words.length = (witAt t i).words.length := rfl
  unfold cellL textAt
  (conv => whnf); repeat' (first | ((with_reducible refine Know.mk fun _ => ?_); conv => whnf) | ((with_reducible refine Need.mk ?_ ?_); exact nd; conv => whnf) | ((with_reducible refine Both.mk ?_ ?_) <;> conv => whnf) | ((with_reducible refine Any.mk fun b hb => ?_); conv => whnf) | ((with_reducible first | refine AskB.dec (fun hb => ?_) (fun hb => ?_) | refine AskB.ndec (fun hb => ?_) (fun hb => ?_) | refine AskB.mk (fun hb => ?_) (fun hb => ?_)) <;> first | (exfalso; omega) | (conv => whnf)) | ((with_reducible first | refine Run.drawX rfl (by decide +kernel) ?_ | refine Run.drawT rfl (by decide +kernel) ?_ | refine Run.drawW rfl (by decide +kernel) ?_); conv => whnf))
  all_goals try (exfalso; omega)
  · have hx0 : ¬ atC t c i < 0 := by omega
    rw [if_neg hx0]
    exact Run.leave (ts := [6,7,8]) (.inr ⟨_, rfl⟩) rfl Tryd.func12 rfl (resT ⟨Le.refl _, Le.tt.trans (Le.bool (by rw [decide_eq_false hx0]; rfl)), Le.refl _, trivial⟩)
  · have hx0 : atC t c i < 0 := by omega
    rw [if_pos hx0]
    exact Run.leave (ts := [6,7,8]) (.inr ⟨_, rfl⟩) rfl Tryd.func12 rfl (resT ⟨Le.refl _, Le.ff.trans (Le.bool (by rw [decide_eq_true hx0]; rfl)), Le.refl _, trivial⟩)
end Go.Proofs.YtjoecebimleoaaaDoor.V

namespace Go.Proofs.YtjoecebimleoaaaDoor.V
set_option linter.unusedVariables false
set_option linter.unusedSimpArgs false
open Go Go.Proofs Go.RowKit
set_option maxRecDepth 100000
structure RCov (t : Tab) (c : Nat) (o : Int) (n : Nat) (l : List Rd) : Prop where
  dist : ∀ i1 i2, i1 < l.length → i2 < l.length → i1 ≠ i2 → ¬ ((l.getD i1 rd0).none = (l.getD i2 rd0).none ∧ textF (l.getD i1 rd0).text o = textF (l.getD i2 rd0).text o)
  cov : ∀ j, j < n → ∃ i, i < l.length ∧ ∃ k, k < (l.getD i rd0).wits.length ∧ (l.getD i rd0).wits.getD k 0 = (j : Int)
theorem read_cov (t : Tab) (c : Nat) (o : Int) : ∀ n, RCov t c o n (readE t c o n)
  | 0 => ⟨fun i1 i2 h => absurd h (Nat.not_lt_zero _), fun j h => absurd h (Nat.not_lt_zero _)⟩
  | n + 1 => by
    have ih := read_cov t c o n
    have hstep : readE t c o (n + 1) = addR o (readE t c o n) n (decide (atC t c n < 0)) (textAt t c n) (keyAt t c o n) := rfl
    generalize readE t c o n = l at ih hstep
    rw [hstep]
    by_cases hk : l.findIdx (sameR o (decide (atC t c n < 0)) (keyAt t c o n)) < l.length
    · obtain ⟨e1, _, _⟩ := add_hit (i := (n : Int)) (text := textAt t c n) hk
      rw [e1]
      generalize l.findIdx (sameR o (decide (atC t c n < 0)) (keyAt t c o n)) = k at hk
      have hlen : (pushW l k n).length = l.length := push_len l k n
      have hsame : ∀ i, ((pushW l k n).getD i rd0).none = (l.getD i rd0).none ∧ ((pushW l k n).getD i rd0).text = (l.getD i rd0).text := fun i => by
        rw [push_at l k n hk]
        split
        · rename_i e; subst e; exact ⟨rfl, rfl⟩
        · exact ⟨rfl, rfl⟩
      have hw : ((pushW l k n).getD k rd0).wits = (l.getD k rd0).wits ++ [(n : Int)] := by rw [push_at l k n hk, if_pos rfl]
      refine ⟨fun i1 i2 h1 h2 hne => ?_, fun j hj => ?_⟩
      · rw [(hsame i1).1, (hsame i2).1, (hsame i1).2, (hsame i2).2]
        exact ih.dist i1 i2 (by omega) (by omega) hne
      · by_cases hjn : j < n
        · obtain ⟨i, hi, q, hq, he⟩ := ih.cov j hjn
          refine ⟨i, by omega, q, ?_⟩
          by_cases e : i = k
          · subst e
            rw [hw]
            exact ⟨by rw [List.length_append]; omega, by rw [getD_app1 hq]; exact he⟩
          · rw [push_at l k n hk, if_neg e]; exact ⟨hq, he⟩
        · obtain rfl : j = n := by omega
          refine ⟨k, by omega, (l.getD k rd0).wits.length, ?_⟩
          rw [hw]
          exact ⟨by simp, getD_app2⟩
    · have hm : l.findIdx (sameR o (decide (atC t c n < 0)) (keyAt t c o n)) = l.length := by
        have := List.findIdx_le_length (p := sameR o (decide (atC t c n < 0)) (keyAt t c o n)) (xs := l)
        omega
      rw [add_miss hm]
      have hold : ∀ i, i < l.length → (l ++ [(⟨decide (atC t c n < 0), textAt t c n, [(n : Int)]⟩ : Rd)]).getD i rd0 = l.getD i rd0 := fun i hi => getD_app1 hi
      have hnew : (l ++ [(⟨decide (atC t c n < 0), textAt t c n, [(n : Int)]⟩ : Rd)]).getD l.length rd0 = ⟨decide (atC t c n < 0), textAt t c n, [(n : Int)]⟩ := getD_app2
      have hl : (l ++ [(⟨decide (atC t c n < 0), textAt t c n, [(n : Int)]⟩ : Rd)]).length = l.length + 1 := by simp
      have hno := miss_not hm
      refine ⟨fun i1 i2 h1 h2 hne => ?_, fun j hj => ?_⟩
      · rw [hl] at h1 h2
        by_cases a1 : i1 < l.length
        · rw [hold i1 a1]
          by_cases a2 : i2 < l.length
          · rw [hold i2 a2]; exact ih.dist i1 i2 a1 a2 hne
          · obtain rfl : i2 = l.length := by omega
            rw [hnew]
            rintro ⟨b1, b2⟩
            exact hno _ (getD_mem' (z := rd0) i1 a1) ⟨b1, b2.trans (key_text t c o n)⟩
        · obtain rfl : i1 = l.length := by omega
          rw [hnew, hold i2 (by omega)]
          rintro ⟨b1, b2⟩
          exact hno _ (getD_mem' (z := rd0) i2 (by omega)) ⟨b1.symm, b2.symm.trans (key_text t c o n)⟩
      · by_cases hjn : j < n
        · obtain ⟨i, hi, q, hq, he⟩ := ih.cov j hjn
          exact ⟨i, by omega, q, by rw [hold i hi]; exact ⟨hq, he⟩⟩
        · obtain rfl : j = n := by omega
          exact ⟨l.length, by omega, 0, by rw [hnew]; exact ⟨Nat.one_pos, rfl⟩⟩
/-- A witness has one reading only, and in it one place. -/
theorem wit_once {t : Tab} {c n : Nat} {o : Int} {l : List Rd} (hi : RInv t c o n l) (hc : RCov t c o n l) {i1 i2 k1 k2 : Nat} (h1 : i1 < l.length) (h2 : i2 < l.length) (q1 : k1 < (l.getD i1 rd0).wits.length) (q2 : k2 < (l.getD i2 rd0).wits.length)
    (he : (l.getD i1 rd0).wits.getD k1 0 = (l.getD i2 rd0).wits.getD k2 0) : i1 = i2 := by
  obtain ⟨_, _, a3, a4⟩ := (hi.ws i1 h1).at' k1 q1
  obtain ⟨_, _, b3, b4⟩ := (hi.ws i2 h2).at' k2 q2
  rw [he] at a3 a4
  by_cases e : i1 = i2
  · exact e
  · exact absurd ⟨a3.trans b3.symm, a4.trans b4.symm⟩ (hc.dist i1 i2 h1 h2 e)
end Go.Proofs.YtjoecebimleoaaaDoor.V

namespace Go.Proofs.YtjoecebimleoaaaDoor.V
set_option linter.unusedVariables false
set_option linter.unusedSimpArgs false
open Go Go.Proofs Go.RowKit
set_option linter.deprecated false
def appE (t : Tab) : List En := (sitesE t 0 t.cols.length).map (fun c => ⟨c, readE t c.toNat 0 t.wits.length⟩)
theorem key_0 (t : Tab) (c i : Nat) : keyAt t c 0 i = textAt t c i := by rw [← key_text, text_0]
/-- A word's text is not empty. -/
theorem text_pos {t : Tab} (hok : OkT t) {c i : Nat} (hc : c < t.cols.length) (hi : i < t.wits.length) : decide (atC t c i < 0) = decide (textAt t c i = ⟨#[]⟩) := by
  obtain ⟨_, ha⟩ := at_ok hok hc hi
  unfold textAt
  by_cases h : atC t c i < 0
  · rw [if_pos h, decide_eq_true h]; rfl
  · rw [if_neg h, decide_eq_false h]
    have hr := (hok.wit i hi).2.1
    unfold rightB at hr
    have hg := wordsOf_good ((witAt t i).head ++ catW (witAt t i).words)
    rw [of_decide_eq_true hr] at hg
    have hlt : (atC t c i).toNat < (witAt t i).words.length := by omega
    have hp := (good_at hg (atC t c i).toNat hlt).1
    have he : (witAt t i).words.getD (atC t c i).toNat tWrd.z = (witAt t i).words[(atC t c i).toNat]'hlt := by rw [List.getD, List.getElem?_eq_getElem hlt]; rfl
    rw [he]
    refine (decide_eq_false fun h0 => ?_).symm
    have h1 : (witAt t i).words[(atC t c i).toNat].text.size = 0 := by rw [h0]; rfl
    dsimp only at hp
    omega
theorem chain_up (f : Nat → Int) (n : Nat) (h : ∀ i, i + 1 < n → f i < f (i + 1)) : ∀ j i, i < j → j < n → f i < f j
  | 0, i, hij, _ => absurd hij (Nat.not_lt_zero _)
  | j + 1, i, hij, hj => by
    have hs := h j hj
    by_cases e : i = j
    · rw [e]; exact hs
    · exact Int.lt_trans (chain_up f n h j i (by omega) (by omega)) hs
theorem pair_up {l : List Int} (h : ∀ k, k + 1 < l.length → l.getD k 0 < l.getD (k + 1) 0) : l.Pairwise (· < ·) := by
  refine List.pairwise_iff_getElem.mpr fun i j hi hj hij => ?_
  have := chain_up (fun k => l.getD k 0) l.length h j i hij hj
  simpa only [List.getD, List.getElem?_eq_getElem hi, List.getElem?_eq_getElem hj, Option.getD_some] using this
theorem getD_eq {α : Type} {l : List α} {i : Nat} (h : i < l.length) (z : α) : l[i] = l.getD i z := by rw [List.getD, List.getElem?_eq_getElem h]; rfl
section
variable {t : Tab} {c : Nat}
theorem rd_text (hok : OkT t) (hc : c < t.cols.length) {r : Rd} (hr : r ∈ readE t c 0 t.wits.length) {w : Int} (hw : w ∈ r.wits) : 0 ≤ w ∧ w < t.wits.length ∧ r.none = decide (atC t c w.toNat < 0) ∧ r.text = textAt t c w.toNat := by
  obtain ⟨i, hi, rfl⟩ := List.getElem_of_mem hr
  obtain ⟨k, hk, rfl⟩ := List.getElem_of_mem hw
  have hinv := read_inv t c 0 t.wits.length
  have h := (hinv.ws i hi).at' k (by rw [← getD_eq hi]; exact hk)
  rw [← getD_eq hi rd0, ← getD_eq hk, text_0, key_0] at h
  exact ⟨h.1, h.2.1, h.2.2.1, h.2.2.2⟩
theorem read_part (hok : OkT t) (hc : c < t.cols.length) : Part t.wits.length (readE t c 0 t.wits.length) := by
  have hinv := read_inv t c 0 t.wits.length
  have hcov := read_cov t c 0 t.wits.length
  have hto := fun {r : Rd} (hr : r ∈ readE t c 0 t.wits.length) {w : Int} (hw : w ∈ r.wits) => rd_text hok hc hr hw
  generalize readE t c 0 t.wits.length = l at hinv hcov hto
  have hws : ∀ r ∈ l, WsOk t c 0 t.wits.length r := fun r hr => by
    obtain ⟨i, hi, rfl⟩ := List.getElem_of_mem hr
    rw [getD_eq hi rd0]; exact hinv.ws i hi
  have hne : ∀ r ∈ l, r.wits ≠ [] := fun r hr e => by have := (hws r hr).pos; rw [e] at this; exact absurd this (Nat.not_lt_zero _)
  have hnon : ∀ r ∈ l, r.none = decide (r.text = ⟨#[]⟩) := fun r hr => by
    obtain ⟨w, hw⟩ := List.exists_mem_of_ne_nil _ (hne r hr)
    obtain ⟨a, b, d, e⟩ := hto hr hw
    rw [d, e]; exact text_pos hok hc (by omega)
  have hup : ∀ r ∈ l, r.wits.Pairwise (· < ·) := fun r hr => pair_up (hws r hr).up
  refine ⟨fun r hr => ⟨hne r hr, hnon r hr, hup r hr, fun w hw => ⟨(hto hr hw).1, (hto hr hw).2.1⟩⟩, ?_, ?_⟩
  · unfold fl
    refine List.pairwise_flatMap.mpr ⟨fun r hr => (hup r hr).imp (fun h => by omega), ?_⟩
    refine List.pairwise_iff_getElem.mpr fun i j hi hj hij x hx y hy e => ?_
    obtain ⟨p, hp, rfl⟩ := List.getElem_of_mem hx
    obtain ⟨q, hq, rfl⟩ := List.getElem_of_mem hy
    have h1 : p < (l.getD i rd0).wits.length := by rw [← getD_eq hi]; exact hp
    have h2 : q < (l.getD j rd0).wits.length := by rw [← getD_eq hj]; exact hq
    have := wit_once hinv hcov hi hj h1 h2 (by
      rw [← getD_eq h1, ← getD_eq h2]
      simp only [← getD_eq hi rd0, ← getD_eq hj rd0]; exact e)
    omega
  · refine List.pairwise_iff_getElem.mpr fun i j hi hj hij => ⟨fun e => ?_, ?_⟩
    · have hd := hcov.dist i j hi hj (by omega)
      rw [text_0, text_0, ← getD_eq hi, ← getD_eq hj, hnon _ (List.getElem_mem hi), hnon _ (List.getElem_mem hj), e] at hd
      exact hd ⟨rfl, rfl⟩
    · have := chain_up (fun k => (l.getD k rd0).wits.getD 0 0) l.length hinv.up j i hij hj
      rw [head_get, head_get, getD_eq hi rd0, getD_eq hj rd0]
      exact this
theorem fl_len : ∀ l : List Rd, (fl l).length = sumL (fun r : Rd => r.wits.length) l
  | [] => rfl
  | r :: l => by
    have := fl_len l
    unfold fl at this ⊢
    rw [List.flatMap_cons, List.length_append, this]; rfl
theorem read_right (hok : OkT t) (hc : c < t.cols.length) (h2 : 1 < (readE t c 0 t.wits.length).length) : Right t.wits.length (readE t c 0 t.wits.length) :=
  ⟨read_part hok hc, h2, by rw [fl_len, (read_inv t c 0 t.wits.length).sum]⟩
end
theorem sites_mem {t : Tab} {o : Int} : ∀ C x, x ∈ sitesE t o C ↔ ∃ c : Nat, x = (c : Int) ∧ c < C ∧ 1 < (readE t c o t.wits.length).length
  | 0, x => ⟨fun h => absurd h List.not_mem_nil, fun ⟨c, _, h, _⟩ => absurd h (Nat.not_lt_zero _)⟩
  | C + 1, x => by
    have ih := sites_mem (t := t) (o := o) C x
    have hs : sitesE t o (C + 1) = if 1 < (readE t C o t.wits.length).length then sitesE t o C ++ [(C : Int)] else sitesE t o C := rfl
    rw [hs]
    by_cases h : 1 < (readE t C o t.wits.length).length
    · rw [if_pos h, List.mem_append, List.mem_singleton, ih]
      constructor
      · rintro (⟨c, a, b, d⟩ | rfl)
        · exact ⟨c, a, by omega, d⟩
        · exact ⟨C, rfl, by omega, h⟩
      · rintro ⟨c, a, b, d⟩
        by_cases e : c = C
        · right; rw [a, e]
        · left; exact ⟨c, a, by omega, d⟩
    · rw [if_neg h, ih]
      constructor
      · rintro ⟨c, a, b, d⟩; exact ⟨c, a, by omega, d⟩
      · rintro ⟨c, a, b, d⟩
        by_cases e : c = C
        · subst e; exact absurd d h
        · exact ⟨c, a, by omega, d⟩
theorem sites_up (t : Tab) (o : Int) : ∀ C, (sitesE t o C).Pairwise (· < ·)
  | 0 => List.Pairwise.nil
  | C + 1 => by
    have ih := sites_up t o C
    have hs : sitesE t o (C + 1) = if 1 < (readE t C o t.wits.length).length then sitesE t o C ++ [(C : Int)] else sitesE t o C := rfl
    rw [hs]
    split
    · refine List.pairwise_append.mpr ⟨ih, List.pairwise_singleton _ _, fun a ha b hb => ?_⟩
      obtain ⟨c, rfl, h, _⟩ := (sites_mem C a).mp ha
      rw [List.mem_singleton.mp hb]; omega
    · exact ih
theorem app_mem {t : Tab} {e : En} (h : e ∈ appE t) : ∃ c : Nat, e.col = (c : Int) ∧ c < t.cols.length ∧ 1 < (readE t c 0 t.wits.length).length ∧ e.rds = readE t c 0 t.wits.length := by
  unfold appE at h
  obtain ⟨x, hx, rfl⟩ := List.mem_map.mp h
  obtain ⟨c, rfl, h1, h2⟩ := (sites_mem _ x).mp hx
  exact ⟨c, rfl, h1, h2, rfl⟩
theorem app_good {t : Tab} (hok : OkT t) : Good t.wits.length t.cols.length (appE t) := by
  refine ⟨fun e he => ?_, ?_⟩
  · obtain ⟨c, h1, h2, h3, h4⟩ := app_mem he
    rw [h1, h4]
    exact ⟨by omega, by omega, read_right hok h2 h3⟩
  · have : (appE t).map (·.col) = sitesE t 0 t.cols.length := by
      unfold appE; rw [List.map_map]; exact List.map_id _
    rw [this]; exact sites_up t 0 _
theorem row_ok {t : Tab} (hok : OkT t) {w : Nat} (hw : w < t.wits.length) : rowOk (rowT t w) (rowH t w) := fun i hi => by
  rw [rowT_len] at hi
  rw [rowH_at hi, rowT_at hi]
  unfold hasAt
  rw [text_pos hok hi hw]
  by_cases h : textAt t i w = ⟨#[]⟩ <;> simp [h]
/-- The first reading is the first witness's. -/
theorem first_wit {t : Tab} {c : Nat} (hn : 0 < t.wits.length) : (0 : Int) ∈ ((readE t c 0 t.wits.length).getD 0 rd0).wits ∧ 0 < (readE t c 0 t.wits.length).length := by
  have hinv := read_inv t c 0 t.wits.length
  have hcov := read_cov t c 0 t.wits.length
  generalize readE t c 0 t.wits.length = l at hinv hcov
  obtain ⟨i, hi, k, hk, e⟩ := hcov.cov 0 hn
  have h0 : 0 < l.length := by omega
  have p0 := (hinv.ws 0 h0).pos
  have a0 := ((hinv.ws 0 h0).at' 0 p0).1
  have hz : (l.getD 0 rd0).wits.getD 0 0 = 0 := by
    by_cases e0 : i = 0
    · subst e0
      by_cases ek : k = 0
      · subst ek; exact e
      · have := chain_up (fun k => (l.getD 0 rd0).wits.getD k 0) _ (hinv.ws 0 h0).up k 0 (by omega) hk
        try dsimp only at this
        omega
    · have h1 := chain_up (fun k => (l.getD k rd0).wits.getD 0 0) l.length hinv.up i 0 (by omega) hi
      try dsimp only at h1
      by_cases ek : k = 0
      · subst ek; omega
      · have := chain_up (fun k => (l.getD i rd0).wits.getD k 0) _ (hinv.ws i hi).up k 0 (by omega) hk
        try dsimp only at this
        omega
  refine ⟨?_, h0⟩
  rw [← hz, ← getD_eq p0]; exact List.getElem_mem p0
theorem app_first {t : Tab} (hok : OkT t) : firstOk (rowT t 0) (rowH t 0) (appE t) := fun e he => by
  obtain ⟨c, h1, h2, h3, h4⟩ := app_mem he
  have hn1 := hok.n1
  obtain ⟨hw, hl⟩ := first_wit (t := t) (c := c) (by omega)
  have hm : (readE t c 0 t.wits.length).getD 0 rd0 ∈ readE t c 0 t.wits.length := getD_mem 0 hl
  obtain ⟨_, _, a, b⟩ := rd_text hok h2 hm hw
  rw [h4, h1, Int.toNat_natCast, rowH_at h2, rowT_at h2, a, b]
  refine ⟨?_, rfl⟩
  unfold hasAt
  show decide (atC t c 0 < 0) ≠ _
  cases decide (atC t c 0 < 0) <;> decide
theorem app_code {t : Tab} (hok : OkT t) : rbCode (rowT t 0) (rowH t 0) (appE t) t.wits.length = 0 := by
  have h1 := hok.n1
  have h2 := hok.n12
  have h3 := hok.nc
  unfold rbCode
  rw [rowT_len, rowH_len, if_neg (by omega), if_neg (not_not_intro (row_ok hok (by omega))), if_pos ⟨app_good hok, app_first hok⟩]
theorem set_atG {α : Type} {l : List α} {i k : Nat} {x z : α} (hi : i < l.length) : (l.set i x).getD k z = if k = i then x else l.getD k z := by
  rw [List.getD, List.getElem?_set]
  by_cases e : i = k
  · subst e; rw [if_pos rfl, if_pos hi, if_pos rfl]; rfl
  · rw [if_neg e, if_neg (fun h => e h.symm)]; rfl
theorem appT_at {w : Int} {c : Nat} {T : ByteArray} : ∀ (l : List Sayn) (row : List ByteArray), (∀ s ∈ l, s.c < row.length) → c < row.length → (∀ s ∈ l, s.w = w → s.c = c → s.t = T) → ((∃ s ∈ l, s.w = w ∧ s.c = c) ∨ row.getD c .empty = T) → (appT w l row).getD c .empty = T
  | [], row, _, hc, _, h => h.elim (fun ⟨s, hs, _⟩ => absurd hs List.not_mem_nil) id
  | s :: l, row, hb, hc, ha, h => by
    show (appT w l (if s.w = w then row.set s.c s.t else row)).getD c .empty = T
    have hs := hb s (List.mem_cons_self ..)
    by_cases e : s.w = w
    · rw [if_pos e]
      refine appT_at l _ (fun x hx => by rw [List.length_set]; exact hb x (List.mem_cons_of_mem _ hx)) (by rw [List.length_set]; exact hc) (fun x hx => ha x (List.mem_cons_of_mem _ hx)) ?_
      by_cases ec : s.c = c
      · right; rw [set_atG hs, if_pos ec.symm]; exact ha s (List.mem_cons_self ..) e ec
      · rcases h with ⟨x, hx, h1, h2⟩ | h
        · rcases List.mem_cons.mp hx with rfl | hx
          · exact absurd h2 ec
          · left; exact ⟨x, hx, h1, h2⟩
        · right; rw [set_atG hs, if_neg (fun x => ec x.symm)]; exact h
    · rw [if_neg e]
      refine appT_at l _ (fun x hx => hb x (List.mem_cons_of_mem _ hx)) hc (fun x hx => ha x (List.mem_cons_of_mem _ hx)) ?_
      rcases h with ⟨x, hx, h1, h2⟩ | h
      · rcases List.mem_cons.mp hx with rfl | hx
        · exact absurd h1 e
        · left; exact ⟨x, hx, h1, h2⟩
      · right; exact h
theorem appH_at {w : Int} {c : Nat} {T : Bool} : ∀ (l : List Sayn) (row : List Bool), (∀ s ∈ l, s.c < row.length) → c < row.length → (∀ s ∈ l, s.w = w → s.c = c → s.h = T) → ((∃ s ∈ l, s.w = w ∧ s.c = c) ∨ row.getD c false = T) → (appH w l row).getD c false = T
  | [], row, _, hc, _, h => h.elim (fun ⟨s, hs, _⟩ => absurd hs List.not_mem_nil) id
  | s :: l, row, hb, hc, ha, h => by
    show (appH w l (if s.w = w then row.set s.c s.h else row)).getD c false = T
    have hs := hb s (List.mem_cons_self ..)
    by_cases e : s.w = w
    · rw [if_pos e]
      refine appH_at l _ (fun x hx => by rw [List.length_set]; exact hb x (List.mem_cons_of_mem _ hx)) (by rw [List.length_set]; exact hc) (fun x hx => ha x (List.mem_cons_of_mem _ hx)) ?_
      by_cases ec : s.c = c
      · right; rw [set_atG hs, if_pos ec.symm]; exact ha s (List.mem_cons_self ..) e ec
      · rcases h with ⟨x, hx, h1, h2⟩ | h
        · rcases List.mem_cons.mp hx with rfl | hx
          · exact absurd h2 ec
          · left; exact ⟨x, hx, h1, h2⟩
        · right; rw [set_atG hs, if_neg (fun x => ec x.symm)]; exact h
    · rw [if_neg e]
      refine appH_at l _ (fun x hx => hb x (List.mem_cons_of_mem _ hx)) hc (fun x hx => ha x (List.mem_cons_of_mem _ hx)) ?_
      rcases h with ⟨x, hx, h1, h2⟩ | h
      · rcases List.mem_cons.mp hx with rfl | hx
        · exact absurd h1 e
        · left; exact ⟨x, hx, h1, h2⟩
      · right; exact h
theorem say_app {t : Tab} (hok : OkT t) {s : Sayn} (h : s ∈ says (appE t)) : s.c < t.cols.length ∧ s.t = textAt t s.c s.w.toNat ∧ s.h = hasAt t s.c s.w.toNat := by
  obtain ⟨e, he, r, hr, hw, h1, h2, h3⟩ := says_mem h
  obtain ⟨c, a, b, d, f⟩ := app_mem he
  rw [f] at hr
  rw [a, Int.toNat_natCast] at h1
  obtain ⟨_, _, g1, g2⟩ := rd_text hok b hr hw
  rw [h1, h2, h3, g1, g2]
  exact ⟨b, rfl, rfl⟩
/-- At a column: a reading says it, or all have the same. -/
theorem say_or {t : Tab} (hok : OkT t) {c w : Nat} (hc : c < t.cols.length) (hw : w < t.wits.length) : (∃ s ∈ says (appE t), s.w = (w : Int) ∧ s.c = c) ∨ (textAt t c 0 = textAt t c w ∧ hasAt t c 0 = hasAt t c w) := by
  have hcov := read_cov t c 0 t.wits.length
  obtain ⟨i, hi, k, hk, e⟩ := hcov.cov w hw
  have hm : (readE t c 0 t.wits.length).getD i rd0 ∈ readE t c 0 t.wits.length := getD_mem i hi
  have hwm : (w : Int) ∈ ((readE t c 0 t.wits.length).getD i rd0).wits := by rw [← e, ← getD_eq hk]; exact List.getElem_mem hk
  by_cases h : 1 < (readE t c 0 t.wits.length).length
  · left
    refine ⟨⟨w, c, ((readE t c 0 t.wits.length).getD i rd0).text, !((readE t c 0 t.wits.length).getD i rd0).none⟩, ?_, rfl, rfl⟩
    unfold says
    refine List.mem_flatMap.mpr ⟨⟨c, readE t c 0 t.wits.length⟩, ?_, ?_⟩
    · unfold appE
      exact List.mem_map.mpr ⟨(c : Int), (sites_mem _ _).mpr ⟨c, rfl, hc, h⟩, rfl⟩
    · unfold sayE
      refine List.mem_flatMap.mpr ⟨_, hm, ?_⟩
      unfold sayR
      exact List.mem_map.mpr ⟨(w : Int), hwm, rfl⟩
  · right
    obtain ⟨h0, _⟩ := first_wit (t := t) (c := c) (by omega)
    have hi0 : i = 0 := by omega
    subst hi0
    obtain ⟨_, _, a1, a2⟩ := rd_text hok hc hm hwm
    obtain ⟨_, _, b1, b2⟩ := rd_text hok hc hm h0
    rw [Int.toNat_natCast] at a1 a2
    refine ⟨b2.symm.trans a2, ?_⟩
    unfold hasAt
    rw [← a1, b1]; rfl
theorem ext_getD {α : Type} {a b : List α} (z : α) (hl : a.length = b.length) (h : ∀ c, c < a.length → a.getD c z = b.getD c z) : a = b :=
  List.ext_getElem hl fun c h1 h2 => by rw [getD_eq h1 z, getD_eq h2 z]; exact h c h1
theorem all_rows {t : Tab} (hok : OkT t) {w : Nat} (hw : w < t.wits.length) : (rbRows (rowT t 0) (rowH t 0) (appE t) t.wits.length).getD w [] = rowT t w ∧ (rbHas (rowT t 0) (rowH t 0) (appE t) t.wits.length).getD w [] = rowH t w := by
  unfold rbRows rbHas
  rw [if_pos (app_code hok), if_pos (app_code hok), rowsT_at _ _ (by omega), rowsH_at _ _ (by omega)]
  constructor
  · refine ext_getD .empty (by rw [appT_len, rowT_len, rowT_len]) fun c hc => ?_
    rw [appT_len, rowT_len] at hc
    rw [rowT_at hc]
    refine appT_at _ _ (fun s hs => by rw [rowT_len]; exact (say_app hok hs).1) (by rw [rowT_len]; exact hc) (fun s hs h1 h2 => ?_) ?_
    · rw [(say_app hok hs).2.1, h1, h2, Int.toNat_natCast]
    · rcases say_or hok hc hw with h | h
      · left; exact h
      · right; rw [rowT_at hc]; exact h.1
  · refine ext_getD false (by rw [appH_len, rowH_len, rowH_len]) fun c hc => ?_
    rw [appH_len, rowH_len] at hc
    rw [rowH_at hc]
    refine appH_at _ _ (fun s hs => by rw [rowH_len]; exact (say_app hok hs).1) (by rw [rowH_len]; exact hc) (fun s hs h1 h2 => ?_) ?_
    · rw [(say_app hok hs).2.2, h1, h2, Int.toNat_natCast]
    · rcases say_or hok hc hw with h | h
      · left; exact h
      · right; rw [rowH_at hc]; exact h.2
theorem all_len {t : Tab} (hok : OkT t) : (rbRows (rowT t 0) (rowH t 0) (appE t) t.wits.length).length = t.wits.length ∧ (rbHas (rowT t 0) (rowH t 0) (appE t) t.wits.length).length = t.wits.length := by
  unfold rbRows rbHas
  rw [if_pos (app_code hok), if_pos (app_code hok), rowsT_len, rowsH_len]
  exact ⟨Int.toNat_natCast _, Int.toNat_natCast _⟩
end Go.Proofs.YtjoecebimleoaaaDoor.V

namespace Go.Proofs.YtjoecebimleoaaaDoor.V
set_option linter.unusedVariables false
set_option linter.unusedSimpArgs false
open Go Go.Proofs Go.RowKit
set_option maxRecDepth 100000
set_option maxHeartbeats 1000000
def enE (t : Tab) (c : Int) : En := ⟨c, readE t c.toNat 0 t.wits.length⟩
theorem appE_eq (t : Tab) : appE t = (sitesE t 0 t.cols.length).map (enE t) := rfl
noncomputable def aprL (t : Tab) : AV := tupL [tEn.L (if siteCode t 0 = 0 then appE t else []), .int .i64 (siteCode t 0)]
theorem nb0 : ¬ badO 0 := by unfold badO; omega
theorem siteC_ok {t : Tab} (h : OkT t) : siteCode t 0 = 0 := by unfold siteCode; rw [if_neg (not_not_intro h), if_neg nb0]
theorem aprL_no {t : Tab} (h : ¬ OkT t) : aprL t = tupL [tEn.L [], .int .i64 121] := by
  have hc : siteCode t 0 = 121 := if_pos h
  unfold aprL
  rw [hc, if_neg (by decide)]
theorem aprL_ok {t : Tab} (h : OkT t) : aprL t = tupL [tEn.L (appE t), .int .i64 0] := by
  unfold aprL
  rw [siteC_ok h, if_pos rfl]
theorem appOf_fn (t : Tab) (hf : FitT t) : Fn Tryd.prog 10 [tbA t] (aprL t) := by
  refine Fn.of Tryd.f10 _ Tryd.func10 rfl (by decide) (by show 1 ≤ _; decide) tbOk 39 rfl fun S w0 gl => ?_
  refine Run.go ?_; (conv => whnf); repeat' (first | ((with_reducible refine Know.mk fun _ => ?_); conv => whnf) | ((with_reducible refine Need.mk ?_ ?_); exact nd; conv => whnf) | ((with_reducible first | refine Both.mk ?_ ?_ | refine Any.mk fun b hb => ?_ | refine AskB.dec (fun hb => ?_) (fun hb => ?_) | refine AskB.ndec (fun hb => ?_) (fun hb => ?_) | refine AskB.mk (fun hb => ?_) (fun hb => ?_)) <;> conv => whnf) | ((with_reducible first | refine Run.drawX rfl (by decide +kernel) ?_ | refine Run.drawT rfl (by decide +kernel) ?_ | refine Run.drawW rfl (by decide +kernel) ?_); conv => whnf))
  refine Run.callBX (sites_fn t 0 hf) rfl rfl ⟨tb_le t (Le.refl _) (Le.refl _), Le.refl _, trivial⟩ rfl rfl rfl ?_
  by_cases hok : OkT t
  case neg =>
    rw [sitesL_no 0 hok, aprL_no hok]
    (conv => whnf); repeat' (first | ((with_reducible refine Know.mk fun _ => ?_); conv => whnf) | ((with_reducible refine Need.mk ?_ ?_); exact nd; conv => whnf) | ((with_reducible refine Both.mk ?_ ?_) <;> conv => whnf) | ((with_reducible refine Any.mk fun b hb => ?_); conv => whnf) | ((with_reducible first | refine AskB.dec (fun hb => ?_) (fun hb => ?_) | refine AskB.ndec (fun hb => ?_) (fun hb => ?_) | refine AskB.mk (fun hb => ?_) (fun hb => ?_)) <;> first | (exfalso; omega) | (conv => whnf)) | ((with_reducible first | refine Run.drawX rfl (by decide +kernel) ?_ | refine Run.drawT rfl (by decide +kernel) ?_ | refine Run.drawW rfl (by decide +kernel) ?_); conv => whnf))
    all_goals try (exfalso; omega)
    exact Run.leave (ts := [2,3]) (.inr ⟨_, rfl⟩) rfl Tryd.func10 rfl (resT ⟨tEn.nil, Le.refl _, trivial⟩)
  rw [sitesL_ok hok nb0, aprL_ok hok, appE_eq]
  have hmem := sites_mem (t := t) (o := 0) t.cols.length
  have hsl := sites_len t 0 t.cols.length
  have hnc := hok.nc
  generalize sitesE t 0 t.cols.length = ss at hmem hsl ⊢
  (conv => whnf); repeat' (first | ((with_reducible refine Know.mk fun _ => ?_); conv => whnf) | ((with_reducible refine Need.mk ?_ ?_); exact nd; conv => whnf) | ((with_reducible refine Both.mk ?_ ?_) <;> conv => whnf) | ((with_reducible refine Any.mk fun b hb => ?_); conv => whnf) | ((with_reducible first | refine AskB.dec (fun hb => ?_) (fun hb => ?_) | refine AskB.ndec (fun hb => ?_) (fun hb => ?_) | refine AskB.mk (fun hb => ?_) (fun hb => ?_)) <;> first | (exfalso; omega) | (conv => whnf)) | ((with_reducible first | refine Run.drawX rfl (by decide +kernel) ?_ | refine Run.drawT rfl (by decide +kernel) ?_ | refine Run.drawW rfl (by decide +kernel) ?_); conv => whnf))
  all_goals try (exfalso; omega)
  refine Run.holdNil 6 1000 52 2 (fun _ _ => .u) rfl ?_
  refine Run.loop [19, 20] (fun (j : Nat) => [(1, .box 1 0), (6, .row 1000), (21, .int .i64 (j : Int))]) (fun j => [(1, .box 25 [tWit.L t.wits, tIL.L t.cols]), (1000, tEn.R 52 ((ss.take j).map (enE t)))]) (fun j => j ≤ ss.length) (fun j => ss.length - j) 0 (Nat.zero_le _) ⟨Le.refl _, Le.refl _, Le.refl _, trivial⟩ ⟨MOle.refl _, ⟨rfl, rfl, rfl, fun i j hi => absurd hi (Nat.not_lt_zero _)⟩, trivial⟩ ?_
  intro j hj IH
  have hwj : IntKind.i64.wrap ((j : Int) + 1) = ((j + 1 : Nat) : Int) := wrap64 (by omega) (by omega)
  have htl : ((ss.take j).map (enE t)).length = j := by rw [List.length_map, List.length_take]; omega
  by_cases hjl : j < ss.length
  · have hn : (ss.take (j + 1)).map (enE t) = (ss.take j).map (enE t) ++ [enE t (ss.getD j 0)] := by rw [take_at ss j 0 hjl, List.map_append]; rfl
    have IH := IH (j + 1) (by omega) (by omega)
    rw [hn] at IH
    obtain ⟨c, hc, hcC, _⟩ := (hmem (ss.getD j 0)).mp (getD_mem' j hjl)
    generalize (ss.take j).map (enE t) = L at htl IH ⊢
    show Run _ _ (lst (_ ++ [(1, .box 1 0), (6, .row 1000), (21, .int .i64 (j : Int))])) (lstH [(1, .box 25 [tWit.L t.wits, tIL.L t.cols]), (1000, tEn.R 52 L)])
    refine Run.go ?_; (conv => whnf); repeat' (first | ((with_reducible refine Know.mk fun _ => ?_); conv => whnf) | ((with_reducible refine Need.mk ?_ ?_); exact nd; conv => whnf) | ((with_reducible refine Both.mk ?_ ?_) <;> conv => whnf) | ((with_reducible refine Any.mk fun b hb => ?_); conv => whnf) | ((with_reducible first | refine AskB.dec (fun hb => ?_) (fun hb => ?_) | refine AskB.ndec (fun hb => ?_) (fun hb => ?_) | refine AskB.mk (fun hb => ?_) (fun hb => ?_)) <;> first | (exfalso; omega) | (conv => whnf)) | ((with_reducible first | refine Run.drawX rfl (by decide +kernel) ?_ | refine Run.drawT rfl (by decide +kernel) ?_ | refine Run.drawW rfl (by decide +kernel) ?_); conv => whnf))
    all_goals try (exfalso; omega)
    refine Run.callBX (readings_fn t (ss.getD j 0) 0 hf) rfl rfl ⟨tb_le t (Le.refl _) (Le.refl _), Le.refl _, Le.refl _, trivial⟩ rfl rfl rfl ?_
    obtain ⟨h1, h2⟩ := rc_ok (c := ss.getD j 0) hok nb0 (fun h => by unfold badC at h; omega)
    unfold readL
    rw [h1, h2]
    (conv => whnf); repeat' (first | ((with_reducible refine Know.mk fun _ => ?_); conv => whnf) | ((with_reducible refine Need.mk ?_ ?_); exact nd; conv => whnf) | ((with_reducible refine Both.mk ?_ ?_) <;> conv => whnf) | ((with_reducible refine Any.mk fun b hb => ?_); conv => whnf) | ((with_reducible first | refine AskB.dec (fun hb => ?_) (fun hb => ?_) | refine AskB.ndec (fun hb => ?_) (fun hb => ?_) | refine AskB.mk (fun hb => ?_) (fun hb => ?_)) <;> first | (exfalso; omega) | (conv => whnf)) | ((with_reducible first | refine Run.drawX rfl (by decide +kernel) ?_ | refine Run.drawT rfl (by decide +kernel) ?_ | refine Run.drawW rfl (by decide +kernel) ?_); conv => whnf))
    all_goals try (exfalso; omega)
    refine Run.hold (z := 36) 6 1000 (by rfl) (by rfl) (by rfl) ?_
    refine Run.to _ _ ?_ ?_ IH
    · exact ⟨Le.refl _, Le.refl _, Le.refl _, Le.refl _, Le.int hwj, trivial⟩
    · refine ⟨MOle.refl _, ?_, trivial⟩
      refine tEn.push 52 L (enE t (ss.getD j 0)) _ (fun q hq => ?_)
      match q, hq with
      | 0, _ => exact Le.refl _
      | 1, _ => exact Le.refl _
  · obtain rfl : j = ss.length := by omega
    rw [List.take_length]
    refine Run.go ?_; (conv => whnf); repeat' (first | ((with_reducible refine Know.mk fun _ => ?_); conv => whnf) | ((with_reducible refine Need.mk ?_ ?_); exact nd; conv => whnf) | ((with_reducible refine Both.mk ?_ ?_) <;> conv => whnf) | ((with_reducible refine Any.mk fun b hb => ?_); conv => whnf) | ((with_reducible first | refine AskB.dec (fun hb => ?_) (fun hb => ?_) | refine AskB.ndec (fun hb => ?_) (fun hb => ?_) | refine AskB.mk (fun hb => ?_) (fun hb => ?_)) <;> first | (exfalso; omega) | (conv => whnf)) | ((with_reducible first | refine Run.drawX rfl (by decide +kernel) ?_ | refine Run.drawT rfl (by decide +kernel) ?_ | refine Run.drawW rfl (by decide +kernel) ?_); conv => whnf))
    all_goals try (exfalso; omega)
    exact Run.leave (ts := [2,3]) (.inr ⟨_, rfl⟩) rfl Tryd.func10 rfl (resT ⟨Le.refl _, Le.refl _, trivial⟩)
end Go.Proofs.YtjoecebimleoaaaDoor.V

namespace Go.Proofs.YtjoecebimleoaaaDoor.V
set_option linter.unusedVariables false
set_option linter.unusedSimpArgs false
open Go Go.Proofs Go.RowKit
set_option maxRecDepth 100000
set_option maxHeartbeats 1000000
theorem baseAll_fn (t : Tab) (hf : FitT t) : Fn Tryd.prog 4 [tbA t] .tt := by
  refine Fn.of Tryd.f4 _ Tryd.func4 rfl (by decide) (by show 1 ≤ _; decide) tbOk 141 rfl fun S w0 gl => ?_
  have hfc := hf.cols
  have hfw := hf.wits
  refine Run.go ?_; (conv => whnf); repeat' (first | ((with_reducible refine Know.mk fun _ => ?_); conv => whnf) | ((with_reducible refine Need.mk ?_ ?_); exact nd; conv => whnf) | ((with_reducible first | refine Both.mk ?_ ?_ | refine Any.mk fun b hb => ?_ | refine AskB.dec (fun hb => ?_) (fun hb => ?_) | refine AskB.ndec (fun hb => ?_) (fun hb => ?_) | refine AskB.mk (fun hb => ?_) (fun hb => ?_)) <;> conv => whnf) | ((with_reducible first | refine Run.drawX rfl (by decide +kernel) ?_ | refine Run.drawT rfl (by decide +kernel) ?_ | refine Run.drawW rfl (by decide +kernel) ?_); conv => whnf))
  refine Run.callBX awake18_fn rfl rfl trivial rfl rfl rfl ?_
  (conv => whnf); repeat' (first | ((with_reducible refine Know.mk fun _ => ?_); conv => whnf) | ((with_reducible refine Need.mk ?_ ?_); exact nd; conv => whnf) | ((with_reducible first | refine Both.mk ?_ ?_ | refine Any.mk fun b hb => ?_ | refine AskB.dec (fun hb => ?_) (fun hb => ?_) | refine AskB.ndec (fun hb => ?_) (fun hb => ?_) | refine AskB.mk (fun hb => ?_) (fun hb => ?_)) <;> conv => whnf) | ((with_reducible first | refine Run.drawX rfl (by decide +kernel) ?_ | refine Run.drawT rfl (by decide +kernel) ?_ | refine Run.drawW rfl (by decide +kernel) ?_); conv => whnf))
  refine Run.callBX (check_fn t hf) rfl rfl ⟨tb_le t (Le.refl _) (Le.refl _), trivial⟩ rfl rfl rfl ?_
  rcases chk_01 t with ⟨hok, he⟩ | ⟨hok, he⟩
  case inr =>
    rw [he]
    (conv => whnf); repeat' (first | ((with_reducible refine Know.mk fun _ => ?_); conv => whnf) | ((with_reducible refine Need.mk ?_ ?_); exact nd; conv => whnf) | ((with_reducible refine Both.mk ?_ ?_) <;> conv => whnf) | ((with_reducible refine Any.mk fun b hb => ?_); conv => whnf) | ((with_reducible first | refine AskB.dec (fun hb => ?_) (fun hb => ?_) | refine AskB.ndec (fun hb => ?_) (fun hb => ?_) | refine AskB.mk (fun hb => ?_) (fun hb => ?_)) <;> first | (exfalso; omega) | (conv => whnf)) | ((with_reducible first | refine Run.drawX rfl (by decide +kernel) ?_ | refine Run.drawT rfl (by decide +kernel) ?_ | refine Run.drawW rfl (by decide +kernel) ?_); conv => whnf))
    all_goals try (exfalso; omega)
    exact Run.leave (ts := [2]) (.inr ⟨_, rfl⟩) rfl Tryd.func4 rfl (Le.refl _)
  rw [he]
  (conv => whnf); repeat' (first | ((with_reducible refine Know.mk fun _ => ?_); conv => whnf) | ((with_reducible refine Need.mk ?_ ?_); exact nd; conv => whnf) | ((with_reducible refine Both.mk ?_ ?_) <;> conv => whnf) | ((with_reducible refine Any.mk fun b hb => ?_); conv => whnf) | ((with_reducible first | refine AskB.dec (fun hb => ?_) (fun hb => ?_) | refine AskB.ndec (fun hb => ?_) (fun hb => ?_) | refine AskB.mk (fun hb => ?_) (fun hb => ?_)) <;> first | (exfalso; omega) | (conv => whnf)) | ((with_reducible first | refine Run.drawX rfl (by decide +kernel) ?_ | refine Run.drawT rfl (by decide +kernel) ?_ | refine Run.drawW rfl (by decide +kernel) ?_); conv => whnf))
  all_goals try (exfalso; omega)
  have hn1 := hok.n1
  have hn12 := hok.n12
  have hnc := hok.nc
  have h0 : rowL t 0 = tupL [tS.L (rowT t 0), tB.L (rowH t 0), .int .i64 0] := rowL_ok hok (i := 0) (by omega)
  refine Run.callBX (brow_fn t 0 hf) rfl rfl ⟨tb_le t (Le.refl _) (Le.refl _), Le.refl _, trivial⟩ rfl rfl rfl ?_
  rw [h0]
  (conv => whnf); repeat' (first | ((with_reducible refine Know.mk fun _ => ?_); conv => whnf) | ((with_reducible refine Need.mk ?_ ?_); exact nd; conv => whnf) | ((with_reducible refine Both.mk ?_ ?_) <;> conv => whnf) | ((with_reducible refine Any.mk fun b hb => ?_); conv => whnf) | ((with_reducible first | refine AskB.dec (fun hb => ?_) (fun hb => ?_) | refine AskB.ndec (fun hb => ?_) (fun hb => ?_) | refine AskB.mk (fun hb => ?_) (fun hb => ?_)) <;> first | (exfalso; omega) | (conv => whnf)) | ((with_reducible first | refine Run.drawX rfl (by decide +kernel) ?_ | refine Run.drawT rfl (by decide +kernel) ?_ | refine Run.drawW rfl (by decide +kernel) ?_); conv => whnf))
  refine Run.callBX (appOf_fn t hf) rfl rfl ⟨tb_le t (Le.refl _) (Le.refl _), trivial⟩ rfl rfl rfl ?_
  rw [aprL_ok hok]
  (conv => whnf); repeat' (first | ((with_reducible refine Know.mk fun _ => ?_); conv => whnf) | ((with_reducible refine Need.mk ?_ ?_); exact nd; conv => whnf) | ((with_reducible refine Both.mk ?_ ?_) <;> conv => whnf) | ((with_reducible refine Any.mk fun b hb => ?_); conv => whnf) | ((with_reducible first | refine AskB.dec (fun hb => ?_) (fun hb => ?_) | refine AskB.ndec (fun hb => ?_) (fun hb => ?_) | refine AskB.mk (fun hb => ?_) (fun hb => ?_)) <;> first | (exfalso; omega) | (conv => whnf)) | ((with_reducible first | refine Run.drawX rfl (by decide +kernel) ?_ | refine Run.drawT rfl (by decide +kernel) ?_ | refine Run.drawW rfl (by decide +kernel) ?_); conv => whnf))
  refine Run.callFA 1000 (rebuild_fn (rowT t 0) (rowH t 0) (appE t) t.wits.length) rfl rfl ⟨Le.refl _, Le.refl _, Le.refl _, Le.refl _, trivial⟩ rfl rfl rfl (flat_cons (Ty.M_flat tS_flat) (flat_cons (Ty.M_flat tB_flat) flat_nil)) ?_
  rw [app_code hok]
  obtain ⟨hl1, hl2⟩ := all_len hok
  have hrow := fun {w : Nat} (hw : w < t.wits.length) => all_rows hok hw
  generalize rbRows (rowT t 0) (rowH t 0) (appE t) t.wits.length = A at hl1 hrow ⊢
  generalize rbHas (rowT t 0) (rowH t 0) (appE t) t.wits.length = B at hl2 hrow ⊢
  (conv => whnf); repeat' (first | ((with_reducible refine Know.mk fun _ => ?_); conv => whnf) | ((with_reducible refine Need.mk ?_ ?_); exact nd; conv => whnf) | ((with_reducible refine Both.mk ?_ ?_) <;> conv => whnf) | ((with_reducible refine Any.mk fun b hb => ?_); conv => whnf) | ((with_reducible first | refine AskB.dec (fun hb => ?_) (fun hb => ?_) | refine AskB.ndec (fun hb => ?_) (fun hb => ?_) | refine AskB.mk (fun hb => ?_) (fun hb => ?_)) <;> first | (exfalso; omega) | (conv => whnf)) | ((with_reducible first | refine Run.drawX rfl (by decide +kernel) ?_ | refine Run.drawT rfl (by decide +kernel) ?_ | refine Run.drawW rfl (by decide +kernel) ?_); conv => whnf))
  all_goals try (exfalso; omega)
  refine Run.loop [8, 9, 73] (fun (i : Nat) => [(1, .box 1 0), (74, .int .i64 (i : Int))]) (fun i => [(1, .box 25 [tWit.L t.wits, tIL.L t.cols]), (1000, tS.M 27 9 A), (1001, tB.M 28 4 B)]) (fun i => i ≤ t.wits.length) (fun i => t.wits.length - i) 0 (Nat.zero_le _) ⟨Le.refl _, Le.refl _, trivial⟩ ⟨MOle.refl _, MOle.refl _, MOle.refl _, trivial⟩ ?_
  intro i hi IH
  have hwi : IntKind.i64.wrap ((i : Int) + 1) = ((i + 1 : Nat) : Int) := wrap64 (by omega) (by omega)
  by_cases hil : i < t.wits.length
  · obtain ⟨hrA, hrB⟩ := hrow hil
    refine Run.go ?_; (conv => whnf); repeat' (first | ((with_reducible refine Know.mk fun _ => ?_); conv => whnf) | ((with_reducible refine Need.mk ?_ ?_); exact nd; conv => whnf) | ((with_reducible refine Both.mk ?_ ?_) <;> conv => whnf) | ((with_reducible refine Any.mk fun b hb => ?_); conv => whnf) | ((with_reducible first | refine AskB.dec (fun hb => ?_) (fun hb => ?_) | refine AskB.ndec (fun hb => ?_) (fun hb => ?_) | refine AskB.mk (fun hb => ?_) (fun hb => ?_)) <;> first | (exfalso; omega) | (conv => whnf)) | ((with_reducible first | refine Run.drawX rfl (by decide +kernel) ?_ | refine Run.drawT rfl (by decide +kernel) ?_ | refine Run.drawW rfl (by decide +kernel) ?_); conv => whnf))
    all_goals try (exfalso; omega)
    refine Run.callBX (brow_fn t i hf) rfl rfl ⟨tb_le t (Le.refl _) (Le.refl _), Le.refl _, trivial⟩ rfl rfl rfl ?_
    rw [rowL_ok hok hil]
    have hT := rowT_len t i
    have hH := rowH_len t i
    (conv => whnf); repeat' (first | ((with_reducible refine Know.mk fun _ => ?_); conv => whnf) | ((with_reducible refine Need.mk ?_ ?_); exact nd; conv => whnf) | ((with_reducible refine Both.mk ?_ ?_) <;> conv => whnf) | ((with_reducible refine Any.mk fun b hb => ?_); conv => whnf) | ((with_reducible first | refine AskB.dec (fun hb => ?_) (fun hb => ?_) | refine AskB.ndec (fun hb => ?_) (fun hb => ?_) | refine AskB.mk (fun hb => ?_) (fun hb => ?_)) <;> first | (exfalso; omega) | (conv => whnf)) | ((with_reducible first | refine Run.drawX rfl (by decide +kernel) ?_ | refine Run.drawT rfl (by decide +kernel) ?_ | refine Run.drawW rfl (by decide +kernel) ?_); conv => whnf))
    all_goals try (exfalso; omega)
    refine CallQ.flat (same_fn (A.getD i []) (rowT t i) (B.getD i []) (rowH t i)) rfl ⟨Le.refl _, Le.refl _, Le.refl _, Le.refl _, trivial⟩ rfl ?_
    rw [show decide ((A.getD i []).length = (B.getD i []).length ∧ A.getD i [] = rowT t i ∧ B.getD i [] = rowH t i) = true from decide_eq_true ⟨by rw [hrA, hrB, hT, hH], hrA, hrB⟩]
    (conv => whnf); repeat' (first | ((with_reducible refine Know.mk fun _ => ?_); conv => whnf) | ((with_reducible refine Need.mk ?_ ?_); exact nd; conv => whnf) | ((with_reducible refine Both.mk ?_ ?_) <;> conv => whnf) | ((with_reducible refine Any.mk fun b hb => ?_); conv => whnf) | ((with_reducible first | refine AskB.dec (fun hb => ?_) (fun hb => ?_) | refine AskB.ndec (fun hb => ?_) (fun hb => ?_) | refine AskB.mk (fun hb => ?_) (fun hb => ?_)) <;> first | (exfalso; omega) | (conv => whnf)) | ((with_reducible first | refine Run.drawX rfl (by decide +kernel) ?_ | refine Run.drawT rfl (by decide +kernel) ?_ | refine Run.drawW rfl (by decide +kernel) ?_); conv => whnf))
    all_goals try (exfalso; omega)
    all_goals try (exact absurd hb (by decide))
    refine Run.loop [8, 9, 11, 12, 13, 73, 74, 109] (fun (c : Nat) => [(1, .box 1 0), (110, .int .i64 (c : Int))]) (fun c => [(1, .box 25 [tWit.L t.wits, tIL.L t.cols]), (1000, tS.M 27 9 A), (1001, tB.M 28 4 B)]) (fun c => c ≤ t.cols.length) (fun c => t.cols.length - c) 0 (Nat.zero_le _) ⟨Le.refl _, Le.refl _, trivial⟩ ⟨MOle.refl _, MOle.refl _, MOle.refl _, trivial⟩ ?_
    intro c hc IHc
    have hwc : IntKind.i64.wrap ((c : Int) + 1) = ((c + 1 : Nat) : Int) := wrap64 (by omega) (by omega)
    by_cases hcl : c < t.cols.length
    · refine Run.go ?_; (conv => whnf); repeat' (first | ((with_reducible refine Know.mk fun _ => ?_); conv => whnf) | ((with_reducible refine Need.mk ?_ ?_); exact nd; conv => whnf) | ((with_reducible refine Both.mk ?_ ?_) <;> conv => whnf) | ((with_reducible refine Any.mk fun b hb => ?_); conv => whnf) | ((with_reducible first | refine AskB.dec (fun hb => ?_) (fun hb => ?_) | refine AskB.ndec (fun hb => ?_) (fun hb => ?_) | refine AskB.mk (fun hb => ?_) (fun hb => ?_)) <;> first | (exfalso; omega) | (conv => whnf)) | ((with_reducible first | refine Run.drawX rfl (by decide +kernel) ?_ | refine Run.drawT rfl (by decide +kernel) ?_ | refine Run.drawW rfl (by decide +kernel) ?_); conv => whnf))
      all_goals try (exfalso; omega)
      refine Run.callBX (tcell_fn t c i hf hok hcl hil) rfl rfl ⟨tb_le t (Le.refl _) (Le.refl _), Le.refl _, Le.refl _, trivial⟩ rfl rfl rfl ?_
      have hA : textAt t c i = (rowT t i).getD (c : Int).toNat tS.z := (rowT_at hcl _).symm
      have hB : (!decide (atC t c i < 0)) = (rowH t i).getD (c : Int).toNat tB.z := (rowH_at hcl _).symm
      unfold cellL
      (conv => whnf); repeat' (first | ((with_reducible refine Know.mk fun _ => ?_); conv => whnf) | ((with_reducible refine Need.mk ?_ ?_); exact nd; conv => whnf) | ((with_reducible refine Both.mk ?_ ?_) <;> conv => whnf) | ((with_reducible refine Any.mk fun b hb => ?_); conv => whnf) | ((with_reducible first | refine AskB.dec (fun hb => ?_) (fun hb => ?_) | refine AskB.ndec (fun hb => ?_) (fun hb => ?_) | refine AskB.mk (fun hb => ?_) (fun hb => ?_)) <;> first | (exfalso; omega) | (conv => whnf)) | ((with_reducible first | refine Run.drawX rfl (by decide +kernel) ?_ | refine Run.drawT rfl (by decide +kernel) ?_ | refine Run.drawW rfl (by decide +kernel) ?_); conv => whnf))
      all_goals try (exfalso; omega)
      all_goals first
        | exact absurd hA hb
        | exact Bool.noConfusion (hb.symm.trans (show _ = false by rw [hB]; exact bne_self_eq_false _) : true = false)
        | (refine Run.to _ _ ?_ ?_ (IHc (c + 1) (by omega) (by omega))
           · exact ⟨Le.refl _, Le.refl _, Le.refl _, Le.refl _, Le.refl _, Le.refl _, Le.refl _, Le.refl _, Le.refl _, Le.int hwc, trivial⟩
           · exact ⟨MOle.refl _, MOle.refl _, MOle.refl _, trivial⟩)
    · have hce : c = t.cols.length := by omega
      refine Run.go ?_; (conv => whnf); repeat' (first | ((with_reducible refine Know.mk fun _ => ?_); conv => whnf) | ((with_reducible refine Need.mk ?_ ?_); exact nd; conv => whnf) | ((with_reducible refine Both.mk ?_ ?_) <;> conv => whnf) | ((with_reducible refine Any.mk fun b hb => ?_); conv => whnf) | ((with_reducible first | refine AskB.dec (fun hb => ?_) (fun hb => ?_) | refine AskB.ndec (fun hb => ?_) (fun hb => ?_) | refine AskB.mk (fun hb => ?_) (fun hb => ?_)) <;> first | (exfalso; omega) | (conv => whnf)) | ((with_reducible first | refine Run.drawX rfl (by decide +kernel) ?_ | refine Run.drawT rfl (by decide +kernel) ?_ | refine Run.drawW rfl (by decide +kernel) ?_); conv => whnf))
      all_goals try (exfalso; omega)
      refine Run.to _ _ ?_ ?_ (IH (i + 1) (by omega) (by omega))
      · exact ⟨Le.refl _, Le.refl _, Le.refl _, Le.refl _, Le.int hwi, trivial⟩
      · exact ⟨MOle.refl _, MOle.refl _, MOle.refl _, trivial⟩
  · have hie : i = t.wits.length := by omega
    refine Run.go ?_; (conv => whnf); repeat' (first | ((with_reducible refine Know.mk fun _ => ?_); conv => whnf) | ((with_reducible refine Need.mk ?_ ?_); exact nd; conv => whnf) | ((with_reducible refine Both.mk ?_ ?_) <;> conv => whnf) | ((with_reducible refine Any.mk fun b hb => ?_); conv => whnf) | ((with_reducible first | refine AskB.dec (fun hb => ?_) (fun hb => ?_) | refine AskB.ndec (fun hb => ?_) (fun hb => ?_) | refine AskB.mk (fun hb => ?_) (fun hb => ?_)) <;> first | (exfalso; omega) | (conv => whnf)) | ((with_reducible first | refine Run.drawX rfl (by decide +kernel) ?_ | refine Run.drawT rfl (by decide +kernel) ?_ | refine Run.drawW rfl (by decide +kernel) ?_); conv => whnf))
    all_goals try (exfalso; omega)
    exact Run.leave (ts := [2]) (.inr ⟨_, rfl⟩) rfl Tryd.func4 rfl (Le.refl _)
end Go.Proofs.YtjoecebimleoaaaDoor.V

namespace Go.Proofs.YtjoecebimleoaaaDoor.V
set_option linter.unusedVariables false
set_option linter.unusedSimpArgs false
open Go Go.Proofs Go.RowKit
set_option maxRecDepth 100000
def bkWit (w : Wit) : Nat := w.name.size + w.head.size + sumL bkW w.words + 4
theorem dWs : Dec Tryd.prog 55 (tL tWrd) (fun l => sumL bkW l + 1) := Dec.slice (e := 54) (by kernel_rfl) (by kernel_rfl) (by decide) dWord
theorem dWit : Dec Tryd.prog 57 tWit bkWit :=
  Dec.map (fun x : ByteArray × ByteArray × List Wrd × Unit => ⟨x.1, x.2.1, x.2.2.1⟩) rfl (fun x j hj => match j, hj with | 0, _ => Le.refl _ | 1, _ => Le.refl _ | 2, _ => Le.refl _) (fun x => by simp only [bkWit]; omega)
    (Dec.struct (t := 57) (fs := #[⟨"Name", 9, 0, false, "", "", 0⟩, ⟨"Head", 9, 1, false, "", "", 16⟩, ⟨"Words", 55, 2, false, "", "", 32⟩]) (by kernel_rfl) (by kernel_rfl)
      (DecF.cons rfl (Dec.str (by kernel_rfl) (by kernel_rfl)) (DecF.cons rfl (Dec.str (by kernel_rfl) (by kernel_rfl)) (DecF.cons rfl dWs DecF.nil))))
theorem dInt : Dec Tryd.prog 3 tI (fun _ => 1) := Dec.int (by kernel_rfl) (by kernel_rfl)
def bkI (l : List Int) : Nat := sumL (fun _ => 1) l + 1
theorem dIs : Dec Tryd.prog 47 (tL tI) bkI := Dec.slice (e := 3) (by kernel_rfl) (by kernel_rfl) (by decide) dInt
def tTab : Ty Tab := ⟨2, tabG, ⟨[], []⟩⟩
def bkTab (t : Tab) : Nat := sumL bkWit t.wits + sumL bkI t.cols + 3
theorem dTab : Dec Tryd.prog 25 tTab bkTab :=
  Dec.map (fun x : List Wit × List (List Int) × Unit => ⟨x.1, x.2.1⟩) rfl (fun x j hj => match j, hj with | 0, _ => Le.refl _ | 1, _ => Le.refl _) (fun x => by simp only [bkTab]; omega)
    (Dec.struct (t := 25) (fs := #[⟨"Wits", 22, 0, false, "", "", 0⟩, ⟨"Cols", 23, 1, false, "", "", 24⟩]) (by kernel_rfl) (by kernel_rfl)
      (DecF.cons rfl (Dec.slice (e := 57) (t := 22) (by kernel_rfl) (by kernel_rfl) (by decide) dWit) (DecF.cons rfl (Dec.slice (e := 47) (t := 23) (by kernel_rfl) (by kernel_rfl) (by decide) dIs) DecF.nil)))
theorem argTab : Arg Tryd.prog 25 tbA bkTab := Arg.struct (T := tTab) (fs := #[⟨"Wits", 22, 0, false, "", "", 0⟩, ⟨"Cols", 23, 1, false, "", "", 24⟩]) (by kernel_rfl) dTab
/-! ### bounds -/
theorem fitT_of {t : Tab} {n : Nat} (h : bkTab t ≤ n) (hn : n ≤ 1048576) : FitT t := by
  unfold bkTab at h
  have h1 := sumL_len bkWit (fun w => by unfold bkWit; omega) t.wits
  have h2 := sumL_len bkI (fun w => by unfold bkI; omega) t.cols
  refine ⟨by omega, by omega, fun l hl => ?_, fun w hw => ?_, fun w hw => ?_⟩
  · have h3 : sumL (fun _ : Int => 1) l + 1 ≤ sumL bkI t.cols := sumL_mem bkI hl
    have h4 := sumL_len (fun _ : Int => 1) (fun _ => Nat.le_refl _) l
    omega
  · have h3 : w.name.size + w.head.size + sumL bkW w.words + 4 ≤ sumL bkWit t.wits := sumL_mem bkWit hw
    omega
  · have h3 : w.name.size + w.head.size + sumL bkW w.words + 4 ≤ sumL bkWit t.wits := sumL_mem bkWit hw
    obtain ⟨f1, f2, f3⟩ := fitW_of (s := w.head) (l := w.words) (n := 1048576) (by omega) (by omega)
    have h4 := bkW_sum w.words
    exact ⟨f1, by omega, f3⟩
end Go.Proofs.YtjoecebimleoaaaDoor.V

