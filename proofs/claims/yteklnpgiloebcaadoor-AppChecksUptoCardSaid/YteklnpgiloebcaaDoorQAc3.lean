/-
The texts BTc, BGz, BAa, BNa, BNl, BNc, BNd, BAi, BAb, BAc, BAd, BTf, BAj, BAk, VF, BAl, VS, BAm, BAe, BAn, BTe, BAo, of each what the law needs.
-/
import Derived.Test.YteklnpgiloebcaaDoorQAc2
import Derived.WideLaws
namespace Go.Proofs.YteklnpgiloebcaaDoor.V
set_option linter.unusedVariables false
set_option linter.unusedSimpArgs false
open Go Go.Proofs Go.RowKit
set_option maxRecDepth 100000
set_option maxHeartbeats 4000000
theorem tot_le {t : Tab} (hf : FitT t) : ∀ n, n ≤ t.wits.length → sumR (lens t) n ≤ n * 2000000
  | 0, _ => by simp [sumR]
  | n + 1, h => by
    have h1 := tot_le hf n (by omega)
    have h2 := (hf.wit (t.wits.getD n wit0) (getD_mem' n (by omega))).2.1
    simp only [sumR, lens, witAt] at *
    rw [Nat.add_mul]; omega
theorem ins_mem {α : Type} [DecidableEq α] (k : α) : ∀ (l : List α) (x : α), x ∈ ins k l ↔ x = k ∨ x ∈ l
  | [], x => by simp [ins]
  | p :: l, x => by
    unfold ins
    split
    · rename_i e; subst e; simp
    · rw [List.mem_cons, ins_mem k l x, List.mem_cons]
      constructor
      · rintro (h | h | h)
        · exact .inr (.inl h)
        · exact .inl h
        · exact .inr (.inr h)
      · rintro (h | h | h)
        · exact .inr (.inl h)
        · exact .inl h
        · exact .inr (.inr h)
theorem check_fn (t : Tab) (hf : FitT t) : Fn Tryd.prog 25 [tbA t] (.int .i64 (chkT t)) := by
  refine Fn.of Tryd.f25 _ Tryd.func25 rfl (by decide) (by show 1 ≤ _; decide) tbOk 124 rfl fun S w0 gl => ?_
  have hno : ∀ {P : Prop}, (OkT t → ¬ P) → P → chkT t = 121 := fun h p => chk_no (fun o => h o p)
  have hfw := hf.wits
  have hfc := hf.cols
  refine Run.go ?_; (conv => whnf); repeat' (first | ((with_reducible refine Know.mk fun _ => ?_); conv => whnf) | ((with_reducible refine Need.mk ?_ ?_); exact nd; conv => whnf) | ((with_reducible first | refine Both.mk ?_ ?_ | refine Any.mk fun b hb => ?_ | refine AskB.dec (fun hb => ?_) (fun hb => ?_) | refine AskB.ndec (fun hb => ?_) (fun hb => ?_) | refine AskB.mk (fun hb => ?_) (fun hb => ?_)) <;> conv => whnf) | ((with_reducible first | refine Run.drawX rfl (by decide +kernel) ?_ | refine Run.drawT rfl (by decide +kernel) ?_ | refine Run.drawW rfl (by decide +kernel) ?_); conv => whnf) | fail)
  · exact Run.leave (ts := [2]) (.inr ⟨_, rfl⟩) rfl Tryd.func25 rfl (Le.int (hno (fun o h => by have := o.n1; omega) hb).symm)
  · exact Run.leave (ts := [2]) (.inr ⟨_, rfl⟩) rfl Tryd.func25 rfl (Le.int (hno (fun o h => by have := o.n12; omega) hb).symm)
  · exact Run.leave (ts := [2]) (.inr ⟨_, rfl⟩) rfl Tryd.func25 rfl (Le.int (hno (fun o h => by have := o.nc; omega) hb).symm)
  have hn1 : 1 ≤ t.wits.length := by omega
  have hn12 : t.wits.length ≤ 12 := by omega
  have hnc : t.cols.length ≤ 4096 := by omega
  have htl := tot_le hf
  refine Run.loop [3, 31, 32] (fun (a : Nat × List ByteArray) => [(1, .box 1 0), (4, .int .i64 ((sumR (lens t) a.1 : Nat) : Int)), (33, .int .i64 (a.1 : Int))]) (fun a => [(1, .box 67 [tWit.L t.wits, tIL.L t.cols]), (29, .mp (.sb a.2))])
    (fun a => a.1 ≤ t.wits.length ∧ (∀ i, i < a.1 → WitOk t i) ∧ ∀ s, s ∈ a.2 ↔ ∃ k, k < a.1 ∧ (witAt t k).name = s) (fun a => t.wits.length - a.1) (0, []) ⟨Nat.zero_le _, fun i hi => absurd hi (Nat.not_lt_zero _), fun s => ⟨fun h => (by cases h), fun ⟨k, hk, _⟩ => absurd hk (Nat.not_lt_zero _)⟩⟩
    ⟨Le.refl _, Le.refl _, Le.refl _, trivial⟩ ⟨MOle.refl _, MOle.refl _, trivial⟩ ?_
  intro ⟨i, l⟩ ⟨hi, hwk, hl⟩ IH
  simp only [] at hi hwk hl ⊢
  have hwi : IntKind.i64.wrap ((i : Int) + 1) = ((i + 1 : Nat) : Int) := wrap64 (by omega) (by omega)
  have hti := htl i hi
  refine Run.go ?_; (conv => whnf); repeat' (first | ((with_reducible refine Know.mk fun _ => ?_); conv => whnf) | ((with_reducible refine Need.mk ?_ ?_); exact nd; conv => whnf) | ((with_reducible first | refine Both.mk ?_ ?_ | refine Any.mk fun b hb => ?_ | refine AskB.dec (fun hb => ?_) (fun hb => ?_) | refine AskB.ndec (fun hb => ?_) (fun hb => ?_) | refine AskB.mk (fun hb => ?_) (fun hb => ?_)) <;> conv => whnf) | ((with_reducible first | refine Run.drawX rfl (by decide +kernel) ?_ | refine Run.drawT rfl (by decide +kernel) ?_ | refine Run.drawW rfl (by decide +kernel) ?_); conv => whnf) | fail)
  · have hil : i < t.wits.length := by omega
    have hwt := hf.wit (witAt t i) (getD_mem' i hil)
    refine Run.callBX (named_fn (witAt t i).name) rfl rfl ⟨Le.refl _, trivial⟩ rfl rfl rfl ?_
    (conv => whnf); repeat' (first | ((with_reducible refine Know.mk fun _ => ?_); conv => whnf) | ((with_reducible refine Need.mk ?_ ?_); exact nd; conv => whnf) | ((with_reducible first | refine Both.mk ?_ ?_ | refine Any.mk fun b hb => ?_ | refine AskB.dec (fun hb => ?_) (fun hb => ?_) | refine AskB.ndec (fun hb => ?_) (fun hb => ?_) | refine AskB.mk (fun hb => ?_) (fun hb => ?_)) <;> conv => whnf) | ((with_reducible first | refine Run.drawX rfl (by decide +kernel) ?_ | refine Run.drawT rfl (by decide +kernel) ?_ | refine Run.drawW rfl (by decide +kernel) ?_); conv => whnf) | fail)
    · have hk : ¬ WitOk t i := fun h => by
        have hd := (hasK_iff _ _).mp hb
        obtain ⟨k, hk1, hk2⟩ := (hl _).mp hd
        exact h.2.2 k hk1 hk2
      exact Run.leave (ts := [2]) (.inr ⟨_, rfl⟩) rfl Tryd.func25 rfl (Le.int (hno (fun o h => h (o.wit i hil)) hk).symm)
    · refine Run.callBX (right19_fn (witAt t i).head (witAt t i).words hwt.1) rfl rfl ⟨Le.refl _, Le.refl _, trivial⟩ rfl rfl rfl ?_
      (conv => whnf); repeat' (first | ((with_reducible refine Know.mk fun _ => ?_); conv => whnf) | ((with_reducible refine Need.mk ?_ ?_); exact nd; conv => whnf) | ((with_reducible first | refine Both.mk ?_ ?_ | refine Any.mk fun b hb => ?_ | refine AskB.dec (fun hb => ?_) (fun hb => ?_) | refine AskB.ndec (fun hb => ?_) (fun hb => ?_) | refine AskB.mk (fun hb => ?_) (fun hb => ?_)) <;> conv => whnf) | ((with_reducible first | refine Run.drawX rfl (by decide +kernel) ?_ | refine Run.drawT rfl (by decide +kernel) ?_ | refine Run.drawW rfl (by decide +kernel) ?_); conv => whnf) | fail)
      · have hk : ¬ WitOk t i := fun h => by rw [h.2.1] at hb; cases hb
        exact Run.leave (ts := [2]) (.inr ⟨_, rfl⟩) rfl Tryd.func25 rfl (Le.int (hno (fun o h => h (o.wit i hil)) hk).symm)
      · have hwt2 := hwt.2.1
        have hok : WitOk t i := ⟨by assumption, by simpa using hb, fun k hk e => (hasK_not _ _).mp (by assumption) ((hl _).mpr ⟨k, hk, e⟩)⟩
        refine Run.to _ _ ?_ ?_ (IH (i + 1, ins (witAt t i).name l) (by simp only []; omega) ⟨by simp only []; omega, fun k hk => ?_, fun s => ?_⟩)
        · refine ⟨Le.refl _, Le.refl _, Le.refl _, Le.refl _, Le.int ?_, Le.int hwi, trivial⟩
          show IntKind.i64.wrap ((sumR (lens t) i : Nat) + ((witAt t i).words.length : Int)) = _
          rw [wrap64 (by omega) (by omega)]
          simp only [sumR, lens]; omega
        · exact ⟨MOle.refl _, MOle.refl _, trivial⟩
        · by_cases e : k = i
          · subst e; exact hok
          · exact hwk k (by omega)
        · rw [ins_mem, hl]
          constructor
          · rintro (rfl | ⟨k, hk, rfl⟩)
            · exact ⟨i, Nat.lt_succ_self i, rfl⟩
            · exact ⟨k, Nat.lt_succ_of_lt hk, rfl⟩
          · rintro ⟨k, hk, rfl⟩
            by_cases e : k = i
            · subst e; exact .inl rfl
            · exact .inr ⟨k, by omega, rfl⟩
    · have hk : ¬ WitOk t i := fun h => hb h.1
      exact Run.leave (ts := [2]) (.inr ⟨_, rfl⟩) rfl Tryd.func25 rfl (Le.int (hno (fun o h => h (o.wit i hil)) hk).symm)
  obtain rfl : i = t.wits.length := by omega
  clear IH
  have htot : tot t ≤ 24000000 := by
    have := htl t.wits.length (Nat.le_refl _)
    unfold tot; omega
  refine Run.loop [1, 69, 70] (fun (c : Nat) => [(4, .int .i64 ((tot t - sumN t c 0 : Nat) : Int)), (7, .row 67), (71, .int .i64 (c : Int))]) (fun c => [(1, .box 67 [tWit.L t.wits, tIL.L t.cols]), (67, tI.R 3 (nextL t c 0))])
    (fun c => c ≤ t.cols.length ∧ (∀ k, k < c → ColOk t k) ∧ LeT t c 0) (fun c => t.cols.length - c) 0 ⟨Nat.zero_le _, fun i hi => absurd hi (Nat.not_lt_zero _), fun j hj => by simp [nx, cnt]⟩
    ⟨Le.int ?_, Le.refl _, Le.refl _, trivial⟩ ⟨MOle.refl _, ?_, trivial⟩ ?_
  · have : sumN t 0 0 = 0 := by
      unfold sumN
      have h0 : ∀ n, sumR (nx t 0 0) n = 0 := fun n => by
        induction n with
        | zero => rfl
        | succ n ih => simp only [sumR, ih]; simp [nx, cnt]
      exact h0 _
    rw [this, Nat.sub_zero]; rfl
  · rw [nextL_zero]
    refine ⟨rfl, rfl, by simp, fun i j hi hj => ?_⟩
    obtain rfl : j = 0 := by have : j < 1 := hj; omega
    refine Le.int ?_
    have hi' : i < t.wits.length := by simpa using hi
    rw [List.getD, List.getElem?_replicate, if_pos hi']; rfl
  intro c ⟨hc, hck, hle⟩ IH
  have hwc : IntKind.i64.wrap ((c : Int) + 1) = ((c + 1 : Nat) : Int) := wrap64 (by omega) (by omega)
  have hs0 := le_sum hle
  have hnl := nextL_len t c 0
  show Run _ _ (lst (_ ++ [(4, .int .i64 ((tot t - sumN t c 0 : Nat) : Int)), (7, .row 67), (71, .int .i64 (c : Int))])) (lstH [(1, .box 67 [tWit.L t.wits, tIL.L t.cols]), (67, tI.R 3 (nextL t c 0))])
  have hcl : c < t.cols.length → (t.cols.getD (c : Int).toNat tIL.z).length ≤ 2000000 := fun h => hf.col _ (getD_mem' c h)
  refine Run.go ?_; (conv => whnf); repeat' (first | ((with_reducible refine Know.mk fun _ => ?_); conv => whnf) | ((with_reducible refine Need.mk ?_ ?_); exact nd; conv => whnf) | ((with_reducible refine Both.mk ?_ ?_) <;> conv => whnf) | ((with_reducible refine Any.mk fun b hb => ?_); conv => whnf) | ((with_reducible first | refine AskB.dec (fun hb => ?_) (fun hb => ?_) | refine AskB.ndec (fun hb => ?_) (fun hb => ?_) | refine AskB.mk (fun hb => ?_) (fun hb => ?_)) <;> first | (exfalso; omega) | (conv => whnf)) | ((with_reducible first | refine Run.drawX rfl (by decide +kernel) ?_ | refine Run.drawT rfl (by decide +kernel) ?_ | refine Run.drawW rfl (by decide +kernel) ?_); conv => whnf) | fail)
  all_goals try (exfalso; omega)
  · have hcc : c < t.cols.length := by omega
    have hlen : (t.cols.getD c []).length = t.wits.length := by
      have h2 : (t.cols.getD (c : Int).toNat tIL.z).length = t.wits.length := by omega
      exact h2
    refine Run.loop [1, 10, 69, 70, 71, 81, 82] (fun (i : Nat) => [(4, .int .i64 ((tot t - sumN t c i : Nat) : Int)), (7, .row 67), (83, .int .i64 (i : Int))]) (fun i => [(1, .box 67 [tWit.L t.wits, tIL.L t.cols]), (67, tI.R 3 (nextL t c i))])
      (fun i => i ≤ t.wits.length ∧ LeT t c i ∧ (∀ k, k < i → atC t c k = -1 ∨ (atC t c k = (cnt (t.cols.take c) k : Nat) ∧ cnt (t.cols.take c) k < (witAt t k).words.length)) ∧ (sumN t c i = sumN t c 0 → ∀ k, k < i → atC t c k = -1)) (fun i => t.wits.length - i) 0 ⟨Nat.zero_le _, hle, fun i hi => absurd hi (Nat.not_lt_zero _), fun _ i hi => absurd hi (Nat.not_lt_zero _)⟩
      ⟨Le.refl _, Le.refl _, Le.refl _, trivial⟩ ⟨MOle.refl _, MOle.refl _, trivial⟩ ?_
    intro i ⟨hi, hlei, hcells, hsame⟩ IHi
    have hwi : IntKind.i64.wrap ((i : Int) + 1) = ((i + 1 : Nat) : Int) := wrap64 (by omega) (by omega)
    have hsi := le_sum hlei
    have hnli := nextL_len t c i
    have hge : sumN t c 0 ≤ sumN t c i := sumR_le _ (fun j hj => by
      unfold nx
      rw [if_neg (Nat.not_lt_zero _)]
      split
      · rw [cnt_take _ _ _ hcc]; omega
      · exact Nat.le_refl _)
    show Run _ _ (lst (_ ++ [(4, .int .i64 ((tot t - sumN t c i : Nat) : Int)), (7, .row 67), (83, .int .i64 (i : Int))])) (lstH [(1, .box 67 [tWit.L t.wits, tIL.L t.cols]), (67, tI.R 3 (nextL t c i))])
    by_cases hil : i < t.wits.length
    · have hx : (t.cols.getD (c : Int).toNat tIL.z).getD (i : Int).toNat tI.z = atC t c i := rfl
      have hn : (nextL t c i).getD (i : Int).toNat tI.z = ((cnt (t.cols.take c) i : Nat) : Int) := by
        have := nextL_at t c i i hil
        rw [nx_same] at this; exact this
      have hlw : lens t i ≤ 2000000 := (hf.wit (witAt t i) (getD_mem' i hil)).2.1
      have hcnt : cnt (t.cols.take c) i ≤ lens t i := by
        have := hlei i hil
        rw [nx_same] at this; exact this
      have hlw2 : (t.wits.getD (i : Int).toNat tWit.z).words.length = lens t i := rfl
      refine Run.go ?_; (conv => whnf); repeat' (first | ((with_reducible refine Know.mk fun _ => ?_); conv => whnf) | ((with_reducible refine Need.mk ?_ ?_); exact nd; conv => whnf) | ((with_reducible refine Both.mk ?_ ?_) <;> conv => whnf) | ((with_reducible refine Any.mk fun b hb => ?_); conv => whnf) | ((with_reducible first | refine AskB.dec (fun hb => ?_) (fun hb => ?_) | refine AskB.ndec (fun hb => ?_) (fun hb => ?_) | refine AskB.mk (fun hb => ?_) (fun hb => ?_)) <;> first | (exfalso; omega) | (conv => whnf)) | ((with_reducible first | refine Run.drawX rfl (by decide +kernel) ?_ | refine Run.drawT rfl (by decide +kernel) ?_ | refine Run.drawW rfl (by decide +kernel) ?_); conv => whnf) | fail)
      all_goals try (exfalso; omega)
      · have hm : atC t c i = -1 := by omega
        refine Run.to _ _ ?_ ?_ (IHi (i + 1) (by omega) ⟨by omega, le_none hcc hlei hm, fun k hk => ?_, fun he k hk => ?_⟩)
        · refine ⟨Le.refl _, Le.refl _, Le.refl _, Le.refl _, Le.refl _, Le.refl _, Le.refl _, ?_, Le.refl _, Le.int hwi, trivial⟩
          rw [sumN_none hcc hm]; exact Le.refl _
        · refine ⟨MOle.refl _, ?_, trivial⟩
          rw [nextL_none hcc hm]; exact MOle.refl _
        · by_cases e : k = i
          · subst e; exact .inl hm
          · exact hcells k (by omega)
        · rw [sumN_none hcc hm] at he
          by_cases e : k = i
          · subst e; exact hm
          · exact hsame he k (by omega)
      · have hxe : atC t c i = ((cnt (t.cols.take c) i : Nat) : Int) := by omega
        have hne : atC t c i ≠ -1 := by omega
        have hlt : cnt (t.cols.take c) i < lens t i := by omega
        have hle2 := le_some hcc hlei hne (by rw [nx_same]; exact hlt)
        have hs2 := le_sum hle2
        have hsm := sumN_some hcc hil hne
        refine Run.to _ _ ?_ ?_ (IHi (i + 1) (by omega) ⟨by omega, hle2, fun k hk => ?_, fun he => ?_⟩)
        · refine ⟨Le.refl _, Le.refl _, Le.refl _, Le.refl _, Le.refl _, Le.refl _, Le.refl _, Le.int ?_, Le.refl _, Le.int hwi, trivial⟩
          rw [wrap64 (by omega) (by omega)]; omega
        · refine ⟨MOle.refl _, ?_, trivial⟩
          rw [nextL_some hcc hil hne]
          refine tI.set 3 (nextL t c i) i _ (by omega) _ rfl (Le.one (Le.int ?_))
          rw [hn, nx_same, wrap64 (by omega) (by omega)]
        · by_cases e : k = i
          · subst e; exact .inr ⟨hxe, hlt⟩
          · exact hcells k (by omega)
        · omega
      all_goals
        have hk : ¬ ColOk t c := fun h => by
          rcases h.2.1 i hil with h1 | ⟨h1, h2⟩
          · omega
          · have h3 : cnt (t.cols.take c) i < lens t i := h2
            omega
        exact Run.leave (ts := [2]) (.inr ⟨_, rfl⟩) rfl Tryd.func25 rfl (Le.int (hno (fun o h => h (o.col c hcc)) hk).symm)
    · obtain rfl : i = t.wits.length := by omega
      refine Run.go ?_; (conv => whnf); repeat' (first | ((with_reducible refine Know.mk fun _ => ?_); conv => whnf) | ((with_reducible refine Need.mk ?_ ?_); exact nd; conv => whnf) | ((with_reducible refine Both.mk ?_ ?_) <;> conv => whnf) | ((with_reducible refine Any.mk fun b hb => ?_); conv => whnf) | ((with_reducible first | refine AskB.dec (fun hb => ?_) (fun hb => ?_) | refine AskB.ndec (fun hb => ?_) (fun hb => ?_) | refine AskB.mk (fun hb => ?_) (fun hb => ?_)) <;> first | (exfalso; omega) | (conv => whnf)) | ((with_reducible first | refine Run.drawX rfl (by decide +kernel) ?_ | refine Run.drawT rfl (by decide +kernel) ?_ | refine Run.drawW rfl (by decide +kernel) ?_); conv => whnf) | fail)
      all_goals try (exfalso; omega)
      · have hk : ¬ ColOk t c := fun h => by
          obtain ⟨k, hk1, hk2⟩ := h.2.2
          exact hk2 (hsame (by omega) k hk1)
        exact Run.leave (ts := [2]) (.inr ⟨_, rfl⟩) rfl Tryd.func25 rfl (Le.int (hno (fun o h => h (o.col c hcc)) hk).symm)
      · have hok : ColOk t c := ⟨hlen, hcells, by
          refine Classical.byContradiction fun hno' => ?_
          have hall : ∀ k, k < t.wits.length → atC t c k = -1 := fun k hk => Classical.byContradiction fun h => hno' ⟨k, hk, h⟩
          have hz : ∀ n, n ≤ t.wits.length → sumN t c n = sumN t c 0 := fun n => by
            induction n with
            | zero => intro _; rfl
            | succ n ih => intro h; rw [sumN_none hcc (hall n (by omega)), ih (by omega)]
          have := hz _ (Nat.le_refl _)
          omega⟩
        refine Run.to _ _ ?_ ?_ (IH (c + 1) (by omega) ⟨by omega, fun k hk => ?_, le_end hlei⟩)
        · refine ⟨Le.refl _, Le.refl _, Le.refl _, ?_, Le.refl _, Le.int hwc, trivial⟩
          rw [← sumN_end]; exact Le.refl _
        · refine ⟨MOle.refl _, ?_, trivial⟩
          rw [← nextL_end]; exact MOle.refl _
        · by_cases e : k = c
          · subst e; exact hok
          · exact hck k (by omega)
  · have hcc : c < t.cols.length := by omega
    have hk : ¬ ColOk t c := fun h => by
      have h1 := h.1
      have h2 : (t.cols.getD (c : Int).toNat tIL.z).length = t.wits.length := h1
      omega
    exact Run.leave (ts := [2]) (.inr ⟨_, rfl⟩) rfl Tryd.func25 rfl (Le.int (hno (fun o h => h (o.col c hcc)) hk).symm)
  all_goals obtain rfl : c = t.cols.length := by omega
  · refine Run.leave (ts := [2]) (.inr ⟨_, rfl⟩) rfl Tryd.func25 rfl (Le.int (hno (fun o h => ?_) hb).symm)
    have := sum_of o.all
    omega
  · refine Run.leave (ts := [2]) (.inr ⟨_, rfl⟩) rfl Tryd.func25 rfl (Le.int (chk_ok ⟨hn1, hn12, hnc, hwk, hck, all_of hle (by omega)⟩).symm)
end Go.Proofs.YteklnpgiloebcaaDoor.V

namespace Go.Proofs.YteklnpgiloebcaaDoor.V
set_option linter.unusedVariables false
set_option linter.unusedSimpArgs false
open Go Go.Proofs Go.RowKit
structure Rd where
  none : Bool
  text : ByteArray
  wits : List Int
deriving DecidableEq
def rd0 : Rd := ⟨false, .empty, []⟩
def tRd : Ty Rd := ⟨3, fun r j => match j with | 0 => .bool r.none | 1 => .str r.text | _ => tI.L r.wits, rd0⟩
end Go.Proofs.YteklnpgiloebcaaDoor.V

namespace Go.Proofs.YteklnpgiloebcaaDoor.V
set_option linter.unusedVariables false
set_option linter.unusedSimpArgs false
open Go
set_option linter.deprecated false
structure En where
  col : Int
  rds : List Rd
def tEn : Ty En := ⟨2, fun e j => match j with | 0 => .int .i64 e.col | _ => tRd.L e.rds, ⟨0, []⟩⟩
def fl (rds : List Rd) : List Int := rds.flatMap (·.wits)
def seenL (n : Int) (l : List Int) : List Bool := (List.range n.toNat).map fun (w : Nat) => decide ((w : Int) ∈ l)
structure RdOk (n : Int) (r : Rd) : Prop where
  some : r.wits ≠ []
  nons : r.none = decide (r.text = ⟨#[]⟩)
  up : r.wits.Pairwise (· < ·)
  rng : ∀ w ∈ r.wits, 0 ≤ w ∧ w < n
structure Part (n : Int) (rds : List Rd) : Prop where
  each : ∀ r ∈ rds, RdOk n r
  nodup : (fl rds).Nodup
  apart : rds.Pairwise (fun p r => p.text ≠ r.text ∧ p.wits.headD 0 < r.wits.headD 0)
def Right (n : Int) (rds : List Rd) : Prop := Part n rds ∧ 2 ≤ rds.length ∧ ((fl rds).length : Int) = n
noncomputable instance (n : Int) (rds : List Rd) : Decidable (Right n rds) := Classical.propDecidable _

theorem seen_at {n : Int} {l : List Int} {w : Int} (h0 : 0 ≤ w) (h1 : w < n) : (seenL n l).getD w.toNat false = decide (w ∈ l) := by
  have h2 : w.toNat < n.toNat := by omega
  have h3 : ((w.toNat : Nat) : Int) = w := by omega
  simp [seenL, List.getD, h2, h3]
theorem getD_mem {α : Type} {z : α} {l : List α} (i : Nat) (h : i < l.length) : l.getD i z ∈ l := by
  rw [List.getD, List.getElem?_eq_getElem h]; exact List.getElem_mem h
theorem take_get {α : Type} (z : α) (l : List α) (i : Nat) (h : i < l.length) : l.take (i + 1) = l.take i ++ [l.getD i z] := by
  rw [List.take_succ, List.getD, List.getElem?_eq_getElem h]; rfl
theorem all_get {α : Type} (z : α) (l : List α) (i : Nat) (h : i < l.length) : l = l.take i ++ l.getD i z :: l.drop (i + 1) := by
  rw [List.getD, List.getElem?_eq_getElem h, Option.getD_some, List.getElem_cons_drop, List.take_append_drop]
theorem fl_append (a b : List Rd) : fl (a ++ b) = fl a ++ fl b := by simp [fl]
theorem fl_take (z : Rd) (l : List Rd) (i : Nat) (h : i < l.length) : fl (l.take (i + 1)) = fl (l.take i) ++ (l.getD i z).wits := by
  rw [take_get z l i h, fl_append]; simp [fl]
theorem fl_sub (z : Rd) (l : List Rd) (i : Nat) (h : i < l.length) : ∃ rest, fl l = fl (l.take i) ++ (l.getD i z).wits ++ rest := by
  refine ⟨fl (l.drop (i + 1)), ?_⟩
  have := congrArg fl (all_get z l i h)
  rw [fl_append] at this
  rw [this]; simp [fl]
theorem pair_at {R : Int → Int → Prop} {l : List Int} (h : l.Pairwise R) {i j : Nat} (hij : i < j) (hj : j < l.length) : R (l.getD i 0) (l.getD j 0) := by
  rw [List.getD, List.getD, List.getElem?_eq_getElem hj, List.getElem?_eq_getElem (by omega)]
  exact List.pairwise_iff_getElem.mp h i j (by omega) hj hij
theorem pair_push {R : Int → Int → Prop} (tr : ∀ a b c, R a b → R b c → R a c) {l : List Int} {k : Nat} (hk : k < l.length) (h : (l.take k).Pairwise R) (hl : 0 < k → R (l.getD (k - 1) 0) (l.getD k 0)) : (l.take (k + 1)).Pairwise R := by
  rw [take_get 0 l k hk]
  refine List.pairwise_append.mpr ⟨h, by simp, fun a ha b hb => ?_⟩
  have hb' : b = l.getD k 0 := by simpa using hb
  subst hb'
  obtain ⟨j, hj, rfl⟩ := List.getElem_of_mem ha
  have hj' : j < k := by simp at hj; omega
  by_cases e : j = k - 1
  · subst e
    have := hl (by omega)
    simpa [List.getD, show k - 1 < l.length by omega] using this
  · have h1 := List.pairwise_iff_getElem.mp h j (k - 1) hj (by simp; omega) (by omega)
    refine tr _ _ _ h1 ?_
    have := hl (by omega)
    simpa [List.getD, show k - 1 < l.length by omega] using this

theorem nodup_len : ∀ (m : Nat) (l : List Int), l.Nodup → (∀ w ∈ l, 0 ≤ w ∧ w < (m : Int)) → l.length ≤ m
  | 0, l, _, h => by
    cases l with
    | nil => simp
    | cons a l => have := h a (by simp); omega
  | m + 1, l, hn, h => by
    have h1 := nodup_len m (l.erase (m : Int)) (hn.erase _) (fun w hw => by
      have h2 := h w (List.mem_of_mem_erase hw)
      have h3 : w ≠ (m : Int) := fun e => by rw [e] at hw; exact hn.not_mem_erase hw
      omega)
    have h4 : l.length ≤ (l.erase (m : Int)).length + 1 := by rw [List.length_erase]; split <;> omega
    omega
theorem seen_upd {n : Int} {l : List Int} {w : Int} (h0 : 0 ≤ w) (h1 : w < n) (c : List AV) (hc : c = [.tt]) : MOle (.row 4 1 n.toNat (updRow (tB.G (seenL n l)) w.toNat 0 c)) (.row 4 1 n.toNat (tB.G (seenL n (l ++ [w])))) := by
  subst hc
  refine ⟨rfl, rfl, rfl, fun i j hi hj => ?_⟩
  have : j = 0 := by omega
  subst this
  have e1 : ∀ l : List Int, (seenL n l).getD i false = decide ((i : Int) ∈ l) := fun l => by
    have := seen_at (n := n) (l := l) (w := (i : Int)) (by omega) (by omega)
    simpa using this
  unfold updRow
  by_cases hiw : i = w.toNat
  · rw [if_pos ⟨hiw, Nat.le_refl _, by simp⟩]
    refine Le.tt.trans (Le.bool ?_)
    show true = (seenL n (l ++ [w])).getD i false
    rw [e1, eq_comm, decide_eq_true_eq]
    exact List.mem_append.mpr (.inr (by simp; omega))
  · rw [if_neg (fun h => hiw h.1)]
    refine Le.bool ?_
    show (seenL n l).getD i false = (seenL n (l ++ [w])).getD i false
    rw [e1, e1, decide_eq_decide, List.mem_append]
    have : ¬ (i : Int) = w := by omega
    simp [this]

theorem pair_atG {α : Type} {R : α → α → Prop} {z : α} {l : List α} (h : l.Pairwise R) {i j : Nat} (hij : i < j) (hj : j < l.length) : R (l.getD i z) (l.getD j z) := by
  rw [List.getD, List.getD, List.getElem?_eq_getElem hj, List.getElem?_eq_getElem (by omega)]
  exact List.pairwise_iff_getElem.mp h i j (by omega) hj hij
theorem head_get (l : List Int) : l.headD 0 = l.getD 0 0 := by cases l <;> rfl

def lastW (l : List Rd) : Int := (l.getLast?.map fun r => r.wits.headD 0).getD (-1)
theorem ins_new {α : Type} [DecidableEq α] {k : α} : ∀ {l : List α}, k ∉ l → ins k l = l ++ [k]
  | [], _ => rfl
  | p :: l, h => by
    have h1 : ¬ k = p := fun e => h (by simp [e])
    rw [ins, if_neg h1, ins_new (fun h2 => h (by simp [h2]))]; rfl
theorem lastW_lt {n : Int} {rds : List Rd} (h : Part n rds) {i : Nat} (hi : i < rds.length) : lastW (rds.take i) < (rds.getD i tRd.z).wits.headD 0 := by
  have hr := h.each _ (getD_mem (z := tRd.z) i hi)
  cases i with
  | zero =>
    have h1 : (rds.getD 0 tRd.z).wits.headD 0 ∈ (rds.getD 0 tRd.z).wits := by
      cases hq : (rds.getD 0 tRd.z).wits with
      | nil => exact absurd hq hr.some
      | cons a l => simp
    have := (hr.rng _ h1).1
    simp only [lastW, List.take_zero, List.getLast?_nil, Option.map_none, Option.getD_none]
    omega
  | succ i =>
    have := (pair_atG (z := tRd.z) h.apart (Nat.lt_succ_self i) hi).2
    rw [take_get tRd.z rds i (by omega)]
    simpa [lastW] using this
theorem lastW_ge {n : Int} {l : List Rd} (h : Part n l) {p : Rd} (hp : p ∈ l) : p.wits.headD 0 ≤ lastW l := by
  obtain ⟨m, hm, rfl⟩ := List.getElem_of_mem hp
  have hl : 0 < l.length := by omega
  have e1 : lastW l = l[l.length - 1].wits.headD 0 := by
    unfold lastW
    rw [List.getLast?_eq_getElem?, List.getElem?_eq_getElem (by omega)]; rfl
  rw [e1]
  by_cases e : m = l.length - 1
  · subst e; exact Int.le_refl _
  · exact Int.le_of_lt (List.pairwise_iff_getElem.mp h.apart m (l.length - 1) hm (by omega) (by omega)).2

structure Good (n c : Int) (es : List En) : Prop where
  each : ∀ e ∈ es, 0 ≤ e.col ∧ e.col < c ∧ Right n e.rds
  up : (es.map (·.col)).Pairwise (· < ·)
noncomputable instance (n c : Int) (es : List En) : Decidable (Good n c es) := Classical.propDecidable _
noncomputable def chk (es : List En) (n c : Int) : Int := if n < 1 ∨ 12 < n ∨ c < 0 ∨ 4096 < c then 2 else if Good n c es then 0 else 170
theorem goodE_at {n c : Int} {es : List En} (h : Good n c es) {i j : Nat} (hij : i < j) (hj : j < es.length) : (es.getD i tEn.z).col < (es.getD j tEn.z).col := by
  have := List.pairwise_iff_getElem.mp h.up i j (by simp; omega) (by simpa using hj) hij
  rw [List.getD, List.getD, List.getElem?_eq_getElem hj, List.getElem?_eq_getElem (by omega)]
  simpa using this
theorem good_up {n c : Int} {es : List En} (h : Good n c es) {i : Nat} (hi : i < es.length) : (if i = 0 then -1 else (es.getD (i - 1) tEn.z).col) < (es.getD i tEn.z).col := by
  by_cases h0 : i = 0
  · rw [if_pos h0]
    have := (h.each _ (getD_mem (z := tEn.z) i hi)).1
    omega
  · rw [if_neg h0]; exact goodE_at h (by omega) hi
theorem good_push {n c : Int} {es : List En} {i : Nat} (h : Good n c (es.take i)) (hi : i < es.length) (h1 : (if i = 0 then -1 else (es.getD (i - 1) tEn.z).col) < (es.getD i tEn.z).col) (h2 : (es.getD i tEn.z).col < c) (h3 : Right n (es.getD i tEn.z).rds) : Good n c (es.take (i + 1)) := by
  have hlast : ∀ p ∈ es.take i, p.col < (es.getD i tEn.z).col := by
    intro p hp
    obtain ⟨m, hm, rfl⟩ := List.getElem_of_mem hp
    have hmi : m < i := by simp at hm; omega
    rw [if_neg (by omega)] at h1
    by_cases e : m = i - 1
    · subst e; simpa [List.getD, show i - 1 < es.length by omega] using h1
    · have h5 : (es.take i).getD m tEn.z = (es.take i)[m] := by rw [List.getD, List.getElem?_eq_getElem hm]; rfl
      have h6 : (es.take i).getD (i - 1) tEn.z = es.getD (i - 1) tEn.z := by simp [List.getD, show i - 1 < i by omega]
      have := goodE_at h (show m < i - 1 by omega) (by simp; omega)
      rw [h5, h6] at this
      exact Int.lt_trans this h1
  have hpos : 0 ≤ (es.getD i tEn.z).col := by
    by_cases h0 : i = 0
    · rw [if_pos h0] at h1; omega
    · have := (h.each _ (getD_mem (z := tEn.z) (l := es.take i) (i - 1) (by simp; omega))).1
      have h7 := hlast _ (getD_mem (z := tEn.z) (l := es.take i) (i - 1) (by simp; omega))
      omega
  rw [take_get tEn.z es i hi]
  refine ⟨fun e he => ?_, ?_⟩
  · rcases List.mem_append.mp he with h' | h'
    · exact h.each e h'
    · have : e = es.getD i tEn.z := by simpa using h'
      rw [this]; exact ⟨hpos, h2, h3⟩
  · rw [List.map_append]
    refine List.pairwise_append.mpr ⟨h.up, by simp, fun a ha b hb => ?_⟩
    obtain ⟨p, hp, rfl⟩ := List.mem_map.mp ha
    have : b = (es.getD i tEn.z).col := by simpa using hb
    rw [this]; exact hlast p hp

end Go.Proofs.YteklnpgiloebcaaDoor.V

namespace Go.Proofs.YteklnpgiloebcaaDoor.V
set_option linter.unusedVariables false
set_option linter.unusedSimpArgs false
open Go Go.Proofs Go.RowKit
set_option maxRecDepth 100000
set_option maxHeartbeats 2000000
open Go Go.Proofs Go.Proofs.YteklnpgiloebcaaDoor.V
def tRow : Ty (List Int) := ⟨1, fun l _ => tI.L l, []⟩
def RowOk (m : List (List Int)) (i : Nat) : Prop := (m.getD i tRow.z).length = (m.getD 0 tRow.z).length ∧ (m.getD i tRow.z).length ≤ 4096 ∧ ∀ j, j < (m.getD i tRow.z).length → -1 ≤ (m.getD i tRow.z).getD j tI.z ∧ (m.getD i tRow.z).getD j tI.z < 12
def OkM (m : List (List Int)) : Prop := 0 < m.length ∧ m.length ≤ 12 ∧ ∀ i, i < m.length → RowOk m i
open Classical in
noncomputable def codeM (m : List (List Int)) : Int := if OkM m then 0 else 190
end Go.Proofs.YteklnpgiloebcaaDoor.V

namespace Go.Proofs.YteklnpgiloebcaaDoor.V
set_option linter.unusedVariables false
set_option linter.unusedSimpArgs false
open Go
def bs (l : List UInt8) : ByteArray := ⟨l.toArray⟩
theorem bs_size (l : List UInt8) : (bs l).size = l.length := by simp [bs, ByteArray.size]
theorem bs_data (l : List UInt8) : (bs l).data.toList = l := by simp [bs]
end Go.Proofs.YteklnpgiloebcaaDoor.V

namespace Go.Proofs.YteklnpgiloebcaaDoor.V
set_option linter.unusedVariables false
set_option linter.unusedSimpArgs false
open Go Go.Proofs Go.RowKit
set_option maxRecDepth 100000
set_option maxHeartbeats 2000000
open Go Go.Proofs Go.Proofs.YteklnpgiloebcaaDoor.V
theorem ib60_fn (l : List UInt8) (c : Int) : Fn Tryd.prog 56 [.str (bs l), .int .u8 c] (.int .i64 (Lib.indexByte l c.toNat.toUInt8)) := by
  refine Fn.of Tryd.f56 _ Tryd.func56 rfl (by decide) (by show 2 ≤ _; decide) tbOk 8 rfl fun S w0 gl => ?_
  refine Run.go ?_; (conv => whnf); repeat' (first | ((with_reducible refine Know.mk fun _ => ?_); conv => whnf) | ((with_reducible refine Need.mk ?_ ?_); exact nd; conv => whnf) | ((with_reducible first | refine Both.mk ?_ ?_ | refine Any.mk fun b hb => ?_ | refine AskB.dec (fun hb => ?_) (fun hb => ?_) | refine AskB.ndec (fun hb => ?_) (fun hb => ?_) | refine AskB.mk (fun hb => ?_) (fun hb => ?_)) <;> conv => whnf) | ((with_reducible first | refine Run.drawX rfl (by decide +kernel) ?_ | refine Run.drawT rfl (by decide +kernel) ?_ | refine Run.drawW rfl (by decide +kernel) ?_); conv => whnf) | fail)
  refine Run.indexByteS (f := 72) (x := .tmp 5) (y := .tmp 6) (bs l) c rfl rfl rfl rfl Tryd.func72 (by kernel_rfl) (by kernel_rfl) (by kernel_rfl) (by kernel_rfl) rfl rfl ?_
  rw [bs_data]
  refine Run.go ?_; (conv => whnf); repeat' (first | ((with_reducible refine Know.mk fun _ => ?_); conv => whnf) | ((with_reducible refine Need.mk ?_ ?_); exact nd; conv => whnf) | ((with_reducible first | refine Both.mk ?_ ?_ | refine Any.mk fun b hb => ?_ | refine AskB.dec (fun hb => ?_) (fun hb => ?_) | refine AskB.ndec (fun hb => ?_) (fun hb => ?_) | refine AskB.mk (fun hb => ?_) (fun hb => ?_)) <;> conv => whnf) | ((with_reducible first | refine Run.drawX rfl (by decide +kernel) ?_ | refine Run.drawT rfl (by decide +kernel) ?_ | refine Run.drawW rfl (by decide +kernel) ?_); conv => whnf) | fail)
  exact Run.leave (ts := [4]) (.inr ⟨_, rfl⟩) rfl Tryd.func56 rfl (Le.refl _)
theorem ib47_fn (l : List UInt8) (c : Int) : Fn Tryd.prog 42 [.str (bs l), .int .u8 c] (.int .i64 (Lib.indexByte l c.toNat.toUInt8)) := by
  refine Fn.of Tryd.f42 _ Tryd.func42 rfl (by decide) (by show 2 ≤ _; decide) tbOk 8 rfl fun S w0 gl => ?_
  refine Run.go ?_; (conv => whnf); repeat' (first | ((with_reducible refine Know.mk fun _ => ?_); conv => whnf) | ((with_reducible refine Need.mk ?_ ?_); exact nd; conv => whnf) | ((with_reducible first | refine Both.mk ?_ ?_ | refine Any.mk fun b hb => ?_ | refine AskB.dec (fun hb => ?_) (fun hb => ?_) | refine AskB.ndec (fun hb => ?_) (fun hb => ?_) | refine AskB.mk (fun hb => ?_) (fun hb => ?_)) <;> conv => whnf) | ((with_reducible first | refine Run.drawX rfl (by decide +kernel) ?_ | refine Run.drawT rfl (by decide +kernel) ?_ | refine Run.drawW rfl (by decide +kernel) ?_); conv => whnf) | fail)
  refine Run.callBX (ib60_fn l c) rfl rfl ⟨Le.refl _, Le.refl _, trivial⟩ rfl rfl rfl ?_
  (conv => whnf); repeat' (first | ((with_reducible refine Know.mk fun _ => ?_); conv => whnf) | ((with_reducible refine Need.mk ?_ ?_); exact nd; conv => whnf) | ((with_reducible first | refine Both.mk ?_ ?_ | refine Any.mk fun b hb => ?_ | refine AskB.dec (fun hb => ?_) (fun hb => ?_) | refine AskB.ndec (fun hb => ?_) (fun hb => ?_) | refine AskB.mk (fun hb => ?_) (fun hb => ?_)) <;> conv => whnf) | ((with_reducible first | refine Run.drawX rfl (by decide +kernel) ?_ | refine Run.drawT rfl (by decide +kernel) ?_ | refine Run.drawW rfl (by decide +kernel) ?_); conv => whnf) | fail)
  exact Run.leave (ts := [4]) (.inr ⟨_, rfl⟩) rfl Tryd.func42 rfl (Le.refl _)
theorem nl_size : (bs [10]).size = 1 := rfl
theorem bs_inj {a b : List UInt8} (h : bs a = bs b) : a = b := by
  have := congrArg (fun x : ByteArray => x.data.toList) h
  simpa [bs] using this
theorem index100_fn (l : List UInt8) : Fn Tryd.prog 47 [.str (bs l), .str (bs [10])] (.int .i64 (Lib.indexByte l 10)) := by
  refine Fn.of Tryd.f47 _ Tryd.func47 rfl (by decide) (by show 2 ≤ _; decide) tbOk 143 rfl fun S w0 gl => ?_
  have hs := nl_size
  refine Run.go ?_; (conv => whnf); repeat' (first | ((with_reducible refine Know.mk fun _ => ?_); conv => whnf) | ((with_reducible refine Need.mk ?_ ?_); exact nd; conv => whnf) | ((with_reducible first | refine Both.mk ?_ ?_ | refine Any.mk fun b hb => ?_ | refine AskB.dec (fun hb => ?_) (fun hb => ?_) | refine AskB.ndec (fun hb => ?_) (fun hb => ?_) | refine AskB.mk (fun hb => ?_) (fun hb => ?_)) <;> conv => whnf) | ((with_reducible first | refine Run.drawX rfl (by decide +kernel) ?_ | refine Run.drawT rfl (by decide +kernel) ?_ | refine Run.drawW rfl (by decide +kernel) ?_); conv => whnf) | fail)
  all_goals try (exfalso; omega)
  · have := bs_inj hb
    subst this
    exact Run.leave (ts := [4]) (.inr ⟨_, rfl⟩) rfl Tryd.func47 rfl (Le.int (by decide))
  · refine Run.callBX (ib60_fn l 10) rfl rfl ⟨Le.refl _, Le.refl _, trivial⟩ rfl rfl rfl ?_
    (conv => whnf); repeat' (first | ((with_reducible refine Know.mk fun _ => ?_); conv => whnf) | ((with_reducible refine Need.mk ?_ ?_); exact nd; conv => whnf) | ((with_reducible first | refine Both.mk ?_ ?_ | refine Any.mk fun b hb => ?_ | refine AskB.dec (fun hb => ?_) (fun hb => ?_) | refine AskB.ndec (fun hb => ?_) (fun hb => ?_) | refine AskB.mk (fun hb => ?_) (fun hb => ?_)) <;> conv => whnf) | ((with_reducible first | refine Run.drawX rfl (by decide +kernel) ?_ | refine Run.drawT rfl (by decide +kernel) ?_ | refine Run.drawW rfl (by decide +kernel) ?_); conv => whnf) | fail)
    exact Run.leave (ts := [4]) (.inr ⟨_, rfl⟩) rfl Tryd.func47 rfl (Le.refl _)
end Go.Proofs.YteklnpgiloebcaaDoor.V

namespace Go.Proofs.YteklnpgiloebcaaDoor.V
set_option linter.unusedVariables false
set_option linter.unusedSimpArgs false
open Go Go.Proofs Go.RowKit
set_option maxRecDepth 100000
set_option maxHeartbeats 2000000
open Go Go.Proofs Go.Proofs.YteklnpgiloebcaaDoor.V
def signL : List UInt8 := [63, 48, 49, 50, 51, 52, 53, 54, 55, 56, 57, 97, 98]
def signC (x : Int) : UInt8 := signL.getD (x + 1).toNat 0
/-- A matrix's bytes. -/
def prL (m : List (List Int)) : List UInt8 := m.flatMap (fun r => r.map signC ++ [10])
theorem bs_push (a : List UInt8) (u : UInt8) : bs a ++ ⟨#[u]⟩ = bs (a ++ [u]) := by
  apply ByteArray.ext; apply Array.ext'; simp [bs]
open Classical in
noncomputable def printS (m : List (List Int)) : ByteArray := if OkM m then bs (prL m) else .empty
end Go.Proofs.YteklnpgiloebcaaDoor.V

namespace Go.Proofs.YteklnpgiloebcaaDoor.V
set_option linter.unusedVariables false
set_option linter.unusedSimpArgs false
open Go Go.Proofs Go.RowKit
set_option maxRecDepth 100000
set_option maxHeartbeats 1000000
/-- Witnesses without words. -/
def nmWit (s : ByteArray) : Wit := ⟨s, .empty, []⟩
def nmTab (names : List ByteArray) : Tab := ⟨names.map nmWit, []⟩
theorem nmFit {names : List ByteArray} (h : names.length ≤ 2000000) (h2 : ∀ s ∈ names, s.size ≤ 2000000) : FitT (nmTab names) where
  wits := by simpa [nmTab] using h
  cols := by simp [nmTab]
  col := fun l hl => absurd hl List.not_mem_nil
  name := fun w hw => by
    obtain ⟨s, hs, rfl⟩ := List.mem_map.mp hw
    exact h2 s hs
  wit := fun w hw => by
    obtain ⟨s, hs, rfl⟩ := List.mem_map.mp hw
    exact ⟨⟨by simp [nmWit], by simp [nmWit, catW]⟩, by simp [nmWit], fun v hv => absurd hv List.not_mem_nil⟩
noncomputable def nmOk (names : List ByteArray) : Bool := decide (chkT (nmTab names) = 0)
theorem named17_fn (names : List ByteArray) (h1 : names.length ≤ 2000000) (h2 : ∀ s ∈ names, s.size ≤ 2000000) : Fn Tryd.prog 13 [tS.L names] (.bool (nmOk names)) := by
  refine Fn.of Tryd.f13 _ Tryd.func13 rfl (by decide) (by show 1 ≤ _; decide) tbOk 26 rfl fun S w0 gl => ?_
  refine Run.go ?_; (conv => whnf); repeat' (first | ((with_reducible refine Know.mk fun _ => ?_); conv => whnf) | ((with_reducible refine Need.mk ?_ ?_); exact nd; conv => whnf) | ((with_reducible first | refine Both.mk ?_ ?_ | refine Any.mk fun b hb => ?_ | refine AskB.dec (fun hb => ?_) (fun hb => ?_) | refine AskB.ndec (fun hb => ?_) (fun hb => ?_) | refine AskB.mk (fun hb => ?_) (fun hb => ?_)) <;> conv => whnf) | ((with_reducible first | refine Run.drawX rfl (by decide +kernel) ?_ | refine Run.drawT rfl (by decide +kernel) ?_ | refine Run.drawW rfl (by decide +kernel) ?_); conv => whnf) | fail)
  · refine Run.leave (ts := [2]) (.inr ⟨_, rfl⟩) rfl Tryd.func13 rfl (Le.ff.trans (Le.bool (decide_eq_false (fun h => ?_)).symm))
    have h4 : (nmTab names).wits.length = names.length := by simp [nmTab]
    rw [chk_no (fun hok => by have := hok.n1; omega)] at h
    exact absurd h (by decide)
  refine Run.holdBoxNil 3 0 90 70 3 (fun _ _ => .u) rfl rfl rfl rfl ?_
  refine Run.loop [9, 10] (fun (i : Nat) => [(3, .box 3 0), (11, .int .i64 (i : Int))]) (fun i => [(3, .box 67 [.row 90, .nils]), (90, tWit.R 70 ((names.take i).map nmWit))]) (fun i => i ≤ names.length) (fun i => names.length - i) 0 (Nat.zero_le _) ⟨Le.refl _, Le.refl _, trivial⟩ ⟨MOle.refl _, ⟨rfl, rfl, rfl, fun i j hi => absurd hi (Nat.not_lt_zero _)⟩, trivial⟩ ?_
  intro i hi IH
  have hwi : IntKind.i64.wrap ((i : Int) + 1) = ((i + 1 : Nat) : Int) := wrap64 (by omega) (by omega)
  have htl : ((names.take i).map nmWit).length = i := by rw [List.length_map, List.length_take]; omega
  by_cases hil : i < names.length
  · have hn : (names.take (i + 1)).map nmWit = (names.take i).map nmWit ++ [nmWit (names.getD i .empty)] := by rw [take_at names i .empty hil, List.map_append]; rfl
    have IH := IH (i + 1) (by omega) (by omega)
    rw [hn] at IH
    generalize (names.take i).map nmWit = L at htl IH ⊢
    show Run _ _ (lst (_ ++ [(3, .box 3 0), (11, .int .i64 (i : Int))])) (lstH [(3, .box 67 [.row 90, .nils]), (90, tWit.R 70 L)])
    refine Run.go ?_; (conv => whnf); repeat' (first | ((with_reducible refine Know.mk fun _ => ?_); conv => whnf) | ((with_reducible refine Need.mk ?_ ?_); exact nd; conv => whnf) | ((with_reducible refine Both.mk ?_ ?_) <;> conv => whnf) | ((with_reducible refine Any.mk fun b hb => ?_); conv => whnf) | ((with_reducible first | refine AskB.dec (fun hb => ?_) (fun hb => ?_) | refine AskB.ndec (fun hb => ?_) (fun hb => ?_) | refine AskB.mk (fun hb => ?_) (fun hb => ?_)) <;> first | (exfalso; omega) | (conv => whnf)) | ((with_reducible first | refine Run.drawX rfl (by decide +kernel) ?_ | refine Run.drawT rfl (by decide +kernel) ?_ | refine Run.drawW rfl (by decide +kernel) ?_); conv => whnf) | fail)
    all_goals try (exfalso; omega)
    refine Run.holdBoxRow 3 0 90 20 (by rfl) (by rfl) (by rfl) rfl rfl rfl ?_
    refine Run.to _ _ ?_ ?_ IH
    · exact ⟨Le.refl _, Le.refl _, Le.refl _, Le.int hwi, trivial⟩
    · refine ⟨MOle.refl _, ?_, trivial⟩
      refine tWit.push 70 L (nmWit (names.getD i .empty)) _ (fun q hq => ?_)
      match q, hq with
      | 0, _ => exact Le.refl _
      | 1, _ => exact Le.refl _
      | 2, _ => exact tWrd.nil
  · obtain rfl : i = names.length := by omega
    rw [List.take_length]
    refine Run.freeze 90 (by rfl) ?_
    refine Run.go ?_; (conv => whnf); repeat' (first | ((with_reducible refine Know.mk fun _ => ?_); conv => whnf) | ((with_reducible refine Need.mk ?_ ?_); exact nd; conv => whnf) | ((with_reducible refine Both.mk ?_ ?_) <;> conv => whnf) | ((with_reducible refine Any.mk fun b hb => ?_); conv => whnf) | ((with_reducible first | refine AskB.dec (fun hb => ?_) (fun hb => ?_) | refine AskB.ndec (fun hb => ?_) (fun hb => ?_) | refine AskB.mk (fun hb => ?_) (fun hb => ?_)) <;> first | (exfalso; omega) | (conv => whnf)) | ((with_reducible first | refine Run.drawX rfl (by decide +kernel) ?_ | refine Run.drawT rfl (by decide +kernel) ?_ | refine Run.drawW rfl (by decide +kernel) ?_); conv => whnf) | fail)
    all_goals try (exfalso; omega)
    refine Run.callBX (check_fn (nmTab names) (nmFit h1 h2)) rfl rfl ⟨tb_le (nmTab names) (Le.refl _) tIL.nil, trivial⟩ rfl rfl rfl ?_
    (conv => whnf); repeat' (first | ((with_reducible refine Know.mk fun _ => ?_); conv => whnf) | ((with_reducible refine Need.mk ?_ ?_); exact nd; conv => whnf) | ((with_reducible first | refine Both.mk ?_ ?_ | refine Any.mk fun b hb => ?_ | refine AskB.dec (fun hb => ?_) (fun hb => ?_) | refine AskB.ndec (fun hb => ?_) (fun hb => ?_) | refine AskB.mk (fun hb => ?_) (fun hb => ?_)) <;> conv => whnf) | ((with_reducible first | refine Run.drawX rfl (by decide +kernel) ?_ | refine Run.drawT rfl (by decide +kernel) ?_ | refine Run.drawW rfl (by decide +kernel) ?_); conv => whnf) | fail)
    exact Run.leave (ts := [2]) (.inr ⟨_, rfl⟩) rfl Tryd.func13 rfl (Le.refl _)
/-- Bytes that a form shows as they are. -/
def plainB (c : UInt8) : Bool := decide (32 < c.toNat) && decide (c.toNat ≤ 126) && (Lib.indexByte [59, 93, 92] c == -1)
def dashB : ByteArray := ⟨#[45]⟩
theorem wb3 {N : Nat} {w0 : World} {S : Nat → Prop} {gl : GlobOk S w0} {f : FuncId} {R : Ending → World → Prop} {ops : Array Oper} {i : Nat} {rest : List Nat} {k : List Item} {env : Env} {h : Heap} {o : Oper} {x y : Operand}
    (p : AV) (t : ByteArray) (u : UInt8) (ho : ops.toList[i]? = some o) (hc : calls? o = some (43, [x, y])) (hd : okD N o.dst = true) (hr : ready env ops o = true) (hx : ev (scrubE 900 env) x = .box 3 0) (hy : ev (scrubE 900 env) y = .int .u8 (u.toNat : Int))
    (hs : t.size + 1 ≤ 34359738368) (hp : p = .nilp ∨ p = .box 3 0)
    (next : Run ⟨Tryd.prog, TB, tbOk, N, w0, S, gl, f, R⟩ (.inRegion ops rest :: k) (putE (envB 90 env) o.dst .u) (bldr 50 5 3 90 (heapB 90 h) (.box 3 0) (t ++ ⟨#[u]⟩))) :
    Run ⟨Tryd.prog, TB, tbOk, N, w0, S, gl, f, R⟩ (.inRegion ops (i :: rest) :: k) env (bldr 50 5 3 90 h p t) := by
  refine Run.inline 900 Tryd.f43 _ 17 ho hc Tryd.func43 rfl (by decide) rfl (by show 2 ≤ 17; decide) hd hr (fun a hsz hdf => ?_)
  simp only [List.map, hx, hy]
  have fin : ∀ (E : Env) (H : Heap) (X : AV), (∀ i, E i = scrub 14 (scrub 13 (scrub 901 (scrub 900 (env i))))) → (∀ id, Nat.beq id 3 = false → Nat.beq id 90 = false → Nat.beq id 14 = false → Nat.beq id 13 = false → Nat.beq id 901 = false → Nat.beq id 900 = false → H id = scrubM 90 (scrubM 14 (scrubM 13 (scrubM 901 (scrubM 900 (h id)))))) →
      MOle (H 3) (.box 50 [.box 3 0, .row 90]) → MOle (H 90) (.row 5 1 (t ++ ⟨#[u]⟩).size (bytesG (t ++ ⟨#[u]⟩))) → Run ⟨Tryd.prog, TB, tbOk, N, w0, S, gl, f, R⟩ (.inRegion ops rest :: k) (scrubE 90 (putE E o.dst X)) H := by
    intro E H X hE hH h5 h90
    refine Run.weaken (fun i => ?_) (fun id => ?_) next
    · cases hdst : o.dst with
      | none => show Le (scrub 90 (E i)) _; rw [hE]; exact Le.refl _
      | some d =>
        show Le (scrub 90 (upd E d X i)) (upd (envB 90 env) d .u i)
        by_cases e : i = d
        · subst e; rw [upd_same, upd_same]; exact Le.u _
        · rw [upd_other _ _ e, upd_other _ _ e, hE]; exact Le.refl _
    · unfold bldr heapB
      cases e5 : Nat.beq id 3 with
      | true => have := Nat.eq_of_beq_eq_true e5; subst this; exact h5
      | false =>
      cases e90 : Nat.beq id 90 with
      | true => have := Nat.eq_of_beq_eq_true e90; subst this; exact h90
      | false =>
      cases e900 : Nat.beq id 900 with
      | true => simp only [upd, e5, e90, e900, cond_true, cond_false]; exact mole_dead _
      | false =>
      cases e901 : Nat.beq id 901 with
      | true => simp only [upd, e5, e90, e900, e901, cond_true, cond_false]; exact mole_dead _
      | false =>
      cases e13 : Nat.beq id 13 with
      | true => simp only [upd, e5, e90, e900, e901, e13, cond_true, cond_false]; exact mole_dead _
      | false =>
      cases e14 : Nat.beq id 14 with
      | true => simp only [upd, e5, e90, e900, e901, e13, e14, cond_true, cond_false]; exact mole_dead _
      | false =>
        rw [hH id e5 e90 e14 e13 e901 e900]
        simp only [upd, e5, e90, e900, e901, e13, e14, cond_true, cond_false]
        exact MOle.refl _
  rcases hp with rfl | rfl
  · refine Run.go ?_; (conv => whnf); repeat' (first | ((with_reducible refine Know.mk fun _ => ?_); conv => whnf) | ((with_reducible refine Need.mk ?_ ?_); exact nd; conv => whnf) | ((with_reducible first | refine Both.mk ?_ ?_ | refine Any.mk fun b hb => ?_ | refine AskB.dec (fun hb => ?_) (fun hb => ?_) | refine AskB.ndec (fun hb => ?_) (fun hb => ?_) | refine AskB.mk (fun hb => ?_) (fun hb => ?_)) <;> conv => whnf) | ((with_reducible first | refine Run.drawX rfl (by decide +kernel) ?_ | refine Run.drawT rfl (by decide +kernel) ?_ | refine Run.drawW rfl (by decide +kernel) ?_); conv => whnf) | fail)
    refine Run.inline 901 Tryd.f26 _ 20 rfl rfl Tryd.func26 rfl (by decide) rfl (by decide) rfl rfl (fun a2 hsz2 hdf2 => ?_)
    refine Run.go ?_; (conv => whnf); repeat' (first | ((with_reducible refine Know.mk fun _ => ?_); conv => whnf) | ((with_reducible refine Need.mk ?_ ?_); exact nd; conv => whnf) | ((with_reducible first | refine Both.mk ?_ ?_ | refine Any.mk fun b hb => ?_ | refine AskB.dec (fun hb => ?_) (fun hb => ?_) | refine AskB.ndec (fun hb => ?_) (fun hb => ?_) | refine AskB.mk (fun hb => ?_) (fun hb => ?_)) <;> conv => whnf) | ((with_reducible first | refine Run.drawX rfl (by decide +kernel) ?_ | refine Run.drawT rfl (by decide +kernel) ?_ | refine Run.drawW rfl (by decide +kernel) ?_); conv => whnf) | fail)
    refine Run.toUnsafe (id := 3) (l := [.nilp, .row 90]) (e := 50) (t := 50) (src := 47) (dst := 86) (x := .tmp 8) rfl rfl rfl rfl rfl rfl (by decide) (by kernel_rfl) (by kernel_rfl) (j := (Tryd.prog.info? 50).get (by kernel_rfl)) (by kernel_rfl) (by decide +kernel) ?_
    refine Run.noEscape (f := 41) (x := .tmp 9) rfl rfl rfl rfl Tryd.func41 (by kernel_rfl) (by kernel_rfl) (by kernel_rfl) (by kernel_rfl) ?_
    refine Run.fromUnsafe (id := 3) (l := [.nilp, .row 90]) (e := 50) (u := 50) (src := 86) (dst := 47) (x := .tmp 10) rfl rfl rfl rfl rfl rfl (by kernel_rfl) (by kernel_rfl) (j := (Tryd.prog.info? 50).get (by kernel_rfl)) (by kernel_rfl) (by kernel_rfl) ?_
    refine Run.go ?_; (conv => whnf); repeat' (first | ((with_reducible refine Know.mk fun _ => ?_); conv => whnf) | ((with_reducible refine Need.mk ?_ ?_); exact nd; conv => whnf) | ((with_reducible first | refine Both.mk ?_ ?_ | refine Any.mk fun b hb => ?_ | refine AskB.dec (fun hb => ?_) (fun hb => ?_) | refine AskB.ndec (fun hb => ?_) (fun hb => ?_) | refine AskB.mk (fun hb => ?_) (fun hb => ?_)) <;> conv => whnf) | ((with_reducible first | refine Run.drawX rfl (by decide +kernel) ?_ | refine Run.drawT rfl (by decide +kernel) ?_ | refine Run.drawW rfl (by decide +kernel) ?_); conv => whnf) | fail)
    refine Run.back 901 (ts := []) hsz2 hdf2 (.inl rfl) (by rfl) Tryd.func26 rfl ?_
    refine Run.go ?_; (conv => whnf); repeat' (first | ((with_reducible refine Know.mk fun _ => ?_); conv => whnf) | ((with_reducible refine Need.mk ?_ ?_); exact nd; conv => whnf) | ((with_reducible first | refine Both.mk ?_ ?_ | refine Any.mk fun b hb => ?_ | refine AskB.dec (fun hb => ?_) (fun hb => ?_) | refine AskB.ndec (fun hb => ?_) (fun hb => ?_) | refine AskB.mk (fun hb => ?_) (fun hb => ?_)) <;> conv => whnf) | ((with_reducible first | refine Run.drawX rfl (by decide +kernel) ?_ | refine Run.drawT rfl (by decide +kernel) ?_ | refine Run.drawW rfl (by decide +kernel) ?_); conv => whnf) | fail)
    refine Run.back 900 (ts := [4]) hsz hdf (.inr ⟨_, rfl⟩) (by rfl) Tryd.func43 rfl ?_
    refine Run.holdBoxRow 3 1 90 14 (by rfl) (by rfl) (by rfl) rfl rfl rfl ?_
    refine fin _ _ _ (fun i => rfl) (fun id e5 e90 e14 e13 e901 e900 => ?_) (MOle.refl _) (bytesG_push 5 t u _ rfl)
    simp only [upd, scrubH, scrubM, bldr, e5, e90, e14, e13, e901, e900, cond_false]
  · refine Run.go ?_; (conv => whnf); repeat' (first | ((with_reducible refine Know.mk fun _ => ?_); conv => whnf) | ((with_reducible refine Need.mk ?_ ?_); exact nd; conv => whnf) | ((with_reducible first | refine Both.mk ?_ ?_ | refine Any.mk fun b hb => ?_ | refine AskB.dec (fun hb => ?_) (fun hb => ?_) | refine AskB.ndec (fun hb => ?_) (fun hb => ?_) | refine AskB.mk (fun hb => ?_) (fun hb => ?_)) <;> conv => whnf) | ((with_reducible first | refine Run.drawX rfl (by decide +kernel) ?_ | refine Run.drawT rfl (by decide +kernel) ?_ | refine Run.drawW rfl (by decide +kernel) ?_); conv => whnf) | fail)
    refine Run.inline 901 Tryd.f26 _ 20 rfl rfl Tryd.func26 rfl (by decide) rfl (by decide) rfl rfl (fun a2 hsz2 hdf2 => ?_)
    refine Run.go ?_; (conv => whnf); repeat' (first | ((with_reducible refine Know.mk fun _ => ?_); conv => whnf) | ((with_reducible refine Need.mk ?_ ?_); exact nd; conv => whnf) | ((with_reducible first | refine Both.mk ?_ ?_ | refine Any.mk fun b hb => ?_ | refine AskB.dec (fun hb => ?_) (fun hb => ?_) | refine AskB.ndec (fun hb => ?_) (fun hb => ?_) | refine AskB.mk (fun hb => ?_) (fun hb => ?_)) <;> conv => whnf) | ((with_reducible first | refine Run.drawX rfl (by decide +kernel) ?_ | refine Run.drawT rfl (by decide +kernel) ?_ | refine Run.drawW rfl (by decide +kernel) ?_); conv => whnf) | fail)
    refine Run.back 901 (ts := []) hsz2 hdf2 (.inl rfl) (by rfl) Tryd.func26 rfl ?_
    refine Run.go ?_; (conv => whnf); repeat' (first | ((with_reducible refine Know.mk fun _ => ?_); conv => whnf) | ((with_reducible refine Need.mk ?_ ?_); exact nd; conv => whnf) | ((with_reducible first | refine Both.mk ?_ ?_ | refine Any.mk fun b hb => ?_ | refine AskB.dec (fun hb => ?_) (fun hb => ?_) | refine AskB.ndec (fun hb => ?_) (fun hb => ?_) | refine AskB.mk (fun hb => ?_) (fun hb => ?_)) <;> conv => whnf) | ((with_reducible first | refine Run.drawX rfl (by decide +kernel) ?_ | refine Run.drawT rfl (by decide +kernel) ?_ | refine Run.drawW rfl (by decide +kernel) ?_); conv => whnf) | fail)
    refine Run.back 900 (ts := [4]) hsz hdf (.inr ⟨_, rfl⟩) (by rfl) Tryd.func43 rfl ?_
    refine Run.holdBoxRow 3 1 90 14 (by rfl) (by rfl) (by rfl) rfl rfl rfl ?_
    refine fin _ _ _ (fun i => rfl) (fun id e5 e90 e14 e13 e901 e900 => ?_) (MOle.refl _) (bytesG_push 5 t u _ rfl)
    simp only [upd, scrubH, scrubM, bldr, e5, e90, e14, e13, e901, e900, cond_false]

theorem bs3 {N : Nat} {w0 : World} {S : Nat → Prop} {gl : GlobOk S w0} {f : FuncId} {R : Ending → World → Prop} {ops : Array Oper} {i : Nat} {rest : List Nat} {k : List Item} {env : Env} {h : Heap} {o : Oper} {x : Operand}
    (p : AV) (t : ByteArray) (ho : ops.toList[i]? = some o) (hc : calls? o = some (17, [x])) (hd : okD N o.dst = true) (hr : ready env ops o = true) (hx : ev (scrubE 900 env) x = .box 3 0)
    (next : Run ⟨Tryd.prog, TB, tbOk, N, w0, S, gl, f, R⟩ (.inRegion ops rest :: k) (putE (scrubE 900 env) o.dst (.str t)) (upd (upd (upd (scrubH 900 h) 900 .dead) 3 .dead) 90 .dead)) :
    Run ⟨Tryd.prog, TB, tbOk, N, w0, S, gl, f, R⟩ (.inRegion ops (i :: rest) :: k) env (bldr 50 5 3 90 h p t) := by
  refine Run.inline 900 Tryd.f17 _ 14 ho hc Tryd.func17 rfl (by decide) rfl (by show 1 ≤ 14; decide) hd hr (fun a hsz hdf => ?_)
  simp only [List.map, hx]
  have fin : ∀ (H : Heap), (∀ id, Nat.beq id 3 = false → Nat.beq id 90 = false → Nat.beq id 900 = false → H id = scrubM 900 (h id)) →
      Run ⟨Tryd.prog, TB, tbOk, N, w0, S, gl, f, R⟩ (.inRegion ops rest :: k) (putE (scrubE 900 env) o.dst (.str t)) H := by
    intro H hH
    refine Run.weaken (fun i => Le.refl _) (fun id => ?_) next
    cases e5 : Nat.beq id 3 with
    | true => simp only [upd, e5, cond_true, cond_false]; cases Nat.beq id 90 <;> exact mole_dead _
    | false =>
    cases e90 : Nat.beq id 90 with
    | true => simp only [upd, e5, e90, cond_true, cond_false]; exact mole_dead _
    | false =>
    cases e900 : Nat.beq id 900 with
    | true => simp only [upd, e5, e90, e900, cond_true, cond_false]; exact mole_dead _
    | false =>
      rw [hH id e5 e90 e900]
      simp only [upd, e5, e90, e900, cond_true, cond_false]
      exact MOle.refl _
  refine Run.go ?_; (conv => whnf); repeat' (first | ((with_reducible refine Know.mk fun _ => ?_); conv => whnf) | ((with_reducible refine Need.mk ?_ ?_); exact nd; conv => whnf) | ((with_reducible first | refine Both.mk ?_ ?_ | refine Any.mk fun b hb => ?_ | refine AskB.dec (fun hb => ?_) (fun hb => ?_) | refine AskB.ndec (fun hb => ?_) (fun hb => ?_) | refine AskB.mk (fun hb => ?_) (fun hb => ?_)) <;> conv => whnf) | ((with_reducible first | refine Run.drawX rfl (by decide +kernel) ?_ | refine Run.drawT rfl (by decide +kernel) ?_ | refine Run.drawW rfl (by decide +kernel) ?_); conv => whnf) | fail)
  · refine Run.unsafeString0 (i := 10) (rest := [11]) (k := [.code .ret]) (x := .tmp 7) (y := .tmp 12) (c := ⟨.builtin .unsafeString, #[.tmp 7, .tmp 12], #[75, 3]⟩) rfl rfl rfl rfl rfl rfl rfl (.inl rfl) (by show AV.int .i64 (t.size : Int) = _; rw [hb]; rfl) ?_
    have ht : t = .empty := by simpa using hb
    refine Run.go ?_; (conv => whnf); repeat' (first | ((with_reducible refine Know.mk fun _ => ?_); conv => whnf) | ((with_reducible refine Need.mk ?_ ?_); exact nd; conv => whnf) | ((with_reducible first | refine Both.mk ?_ ?_ | refine Any.mk fun b hb => ?_ | refine AskB.dec (fun hb => ?_) (fun hb => ?_) | refine AskB.ndec (fun hb => ?_) (fun hb => ?_) | refine AskB.mk (fun hb => ?_) (fun hb => ?_)) <;> conv => whnf) | ((with_reducible first | refine Run.drawX rfl (by decide +kernel) ?_ | refine Run.drawT rfl (by decide +kernel) ?_ | refine Run.drawW rfl (by decide +kernel) ?_); conv => whnf) | fail)
    refine Run.back 900 (ts := [2]) hsz hdf (.inr ⟨_, rfl⟩) (by rfl) Tryd.func17 rfl ?_
    rw [ht] at fin next ⊢
    exact fin _ (fun id e5 e90 e900 => by simp only [upd, scrubH, bldr, e5, e90, e900, cond_false])
  · refine Run.unsafeString (i := 10) (rest := [11]) (k := [.code .ret]) (x := .tmp 7) (y := .tmp 12) (c := ⟨.builtin .unsafeString, #[.tmp 7, .tmp 12], #[75, 3]⟩) t rfl rfl rfl rfl rfl rfl rfl rfl rfl (e := 5) (n := t.size) (q := 90) (get := bytesG t) rfl rfl hb (fun _ _ => rfl) (by kernel_rfl) (by kernel_rfl) ?_
    refine Run.go ?_; (conv => whnf); repeat' (first | ((with_reducible refine Know.mk fun _ => ?_); conv => whnf) | ((with_reducible refine Need.mk ?_ ?_); exact nd; conv => whnf) | ((with_reducible first | refine Both.mk ?_ ?_ | refine Any.mk fun b hb => ?_ | refine AskB.dec (fun hb => ?_) (fun hb => ?_) | refine AskB.ndec (fun hb => ?_) (fun hb => ?_) | refine AskB.mk (fun hb => ?_) (fun hb => ?_)) <;> conv => whnf) | ((with_reducible first | refine Run.drawX rfl (by decide +kernel) ?_ | refine Run.drawT rfl (by decide +kernel) ?_ | refine Run.drawW rfl (by decide +kernel) ?_); conv => whnf) | fail)
    refine Run.back 900 (ts := [2]) hsz hdf (.inr ⟨_, rfl⟩) (by rfl) Tryd.func17 rfl ?_
    exact fin _ (fun id e5 e90 e900 => by simp only [upd, scrubH, bldr, e5, e90, e900, cond_false])
theorem bt_bs (l : List UInt8) (i : Nat) : bt (bs l) i = ((l.getD i 0).toNat : Int) := by
  unfold bt bs
  simp [List.getD, Array.getD_eq_getD_getElem?]
theorem form1_fn (nn : Bool) (l : List UInt8) (ws : List Int) (hn : nn = false → bs l ≠ dashB) (hp : ∀ i, i < l.length → plainB (l.getD i 0) = true) (hs : l.length ≤ 1000000) : Fn Tryd.prog 27 [.agg 3 (tRd.enc ⟨nn, bs l, ws⟩)] (.str (if nn = true then dashB else bs l)) := by
  refine Fn.of Tryd.f27 _ Tryd.func27 rfl (by decide) (by show 1 ≤ _; decide) tbOk 54 rfl fun S w0 gl => ?_
  refine Run.go ?_; (conv => whnf); repeat' (first | ((with_reducible refine Know.mk fun _ => ?_); conv => whnf) | ((with_reducible refine Need.mk ?_ ?_); exact nd; conv => whnf) | ((with_reducible first | refine Both.mk ?_ ?_ | refine Any.mk fun b hb => ?_ | refine AskB.dec (fun hb => ?_) (fun hb => ?_) | refine AskB.ndec (fun hb => ?_) (fun hb => ?_) | refine AskB.mk (fun hb => ?_) (fun hb => ?_)) <;> conv => whnf) | ((with_reducible first | refine Run.drawX rfl (by decide +kernel) ?_ | refine Run.drawT rfl (by decide +kernel) ?_ | refine Run.drawW rfl (by decide +kernel) ?_); conv => whnf) | fail)
  · rw [if_pos hb]
    exact Run.leave (ts := [2]) (.inr ⟨_, rfl⟩) rfl Tryd.func27 rfl (Le.refl _)
  · exact absurd hb (hn (by assumption))
  have hnn : nn = false := by assumption
  rw [if_neg (by rw [hnn]; decide)]
  refine Run.holdBoxNil 3 1 90 5 1 (bytesG .empty) rfl rfl rfl rfl ?_
  refine Run.loop [1, 3, 15] (fun (a : Nat × AV) => [(16, .int .i64 (a.1 : Int))]) (fun a => [(1, .box 42 [.bool nn, .str (bs l), tI.L ws]), (3, .box 50 [a.2, .row 90]), (90, .row 5 1 (bs (l.take a.1)).size (bytesG (bs (l.take a.1))))]) (fun a => a.1 ≤ l.length ∧ (a.2 = .nilp ∨ a.2 = .box 3 0)) (fun a => l.length - a.1) (0, .nilp) ⟨Nat.zero_le _, .inl rfl⟩ ⟨Le.refl _, trivial⟩ ⟨MOle.refl _, MOle.refl _, MOle.refl _, trivial⟩ ?_
  intro ⟨i, p⟩ ⟨hi, hp2⟩ IH
  simp only [] at hi hp2 ⊢
  have hwi : IntKind.i64.wrap ((i : Int) + 1) = ((i + 1 : Nat) : Int) := wrap64 (by omega) (by omega)
  have hsz := bs_size l
  have hst : (bs (l.take i)).size ≤ 1000000 := by rw [bs_size, List.length_take]; omega
  by_cases hil : i < l.length
  · have hpi := hp i hil
    unfold plainB at hpi
    rw [Bool.and_eq_true, Bool.and_eq_true, decide_eq_true_eq, decide_eq_true_eq, beq_iff_eq] at hpi
    have hc : bt (bs l) (i : Int).toNat = ((l.getD i 0).toNat : Int) := bt_bs l i
    have hib : Lib.indexByte [59, 93, 92] (bt (bs l) (i : Int).toNat).toNat.toUInt8 = -1 := by
      rw [hc, Int.toNat_natCast, Nat.toUInt8, UInt8.ofNat_toNat]; exact hpi.2
    refine Run.go ?_; (conv => whnf); repeat' (first | ((with_reducible refine Know.mk fun _ => ?_); conv => whnf) | ((with_reducible refine Need.mk ?_ ?_); exact nd; conv => whnf) | ((with_reducible refine Both.mk ?_ ?_) <;> conv => whnf) | ((with_reducible refine Any.mk fun b hb => ?_); conv => whnf) | ((with_reducible first | refine AskB.dec (fun hb => ?_) (fun hb => ?_) | refine AskB.ndec (fun hb => ?_) (fun hb => ?_) | refine AskB.mk (fun hb => ?_) (fun hb => ?_)) <;> first | (exfalso; omega) | (conv => whnf)) | ((with_reducible first | refine Run.drawX rfl (by decide +kernel) ?_ | refine Run.drawT rfl (by decide +kernel) ?_ | refine Run.drawW rfl (by decide +kernel) ?_); conv => whnf) | fail)
    all_goals try (exfalso; omega)
    refine Run.callBX (ib47_fn [59, 93, 92] _) rfl rfl ⟨Le.refl _, Le.refl _, trivial⟩ rfl rfl rfl ?_
    rw [hib]
    (conv => whnf); repeat' (first | ((with_reducible refine Know.mk fun _ => ?_); conv => whnf) | ((with_reducible refine Need.mk ?_ ?_); exact nd; conv => whnf) | ((with_reducible refine Both.mk ?_ ?_) <;> conv => whnf) | ((with_reducible refine Any.mk fun b hb => ?_); conv => whnf) | ((with_reducible first | refine AskB.dec (fun hb => ?_) (fun hb => ?_) | refine AskB.ndec (fun hb => ?_) (fun hb => ?_) | refine AskB.mk (fun hb => ?_) (fun hb => ?_)) <;> first | (exfalso; omega) | (conv => whnf)) | ((with_reducible first | refine Run.drawX rfl (by decide +kernel) ?_ | refine Run.drawT rfl (by decide +kernel) ?_ | refine Run.drawW rfl (by decide +kernel) ?_); conv => whnf) | fail)
    all_goals try (exfalso; omega)
    refine Run.bldr 50 5 3 90 p (bs (l.take i)) (MOle.refl _) (MOle.refl _) ?_
    refine wb3 p _ (l.getD i 0) rfl rfl rfl rfl rfl ?_ (by omega) hp2 ?_
    · show AV.int .u8 (bt (bs l) (i : Int).toNat) = _
      rw [hc]
    refine Run.tidy [1, 3, 15, 16] [1, 3, 90] ?_; (conv => whnf)
    refine Run.go ?_; (conv => whnf); repeat' (first | ((with_reducible refine Know.mk fun _ => ?_); conv => whnf) | ((with_reducible refine Need.mk ?_ ?_); exact nd; conv => whnf) | ((with_reducible first | refine Both.mk ?_ ?_ | refine Any.mk fun b hb => ?_ | refine AskB.dec (fun hb => ?_) (fun hb => ?_) | refine AskB.ndec (fun hb => ?_) (fun hb => ?_) | refine AskB.mk (fun hb => ?_) (fun hb => ?_)) <;> conv => whnf) | ((with_reducible first | refine Run.drawX rfl (by decide +kernel) ?_ | refine Run.drawT rfl (by decide +kernel) ?_ | refine Run.drawW rfl (by decide +kernel) ?_); conv => whnf) | fail)
    refine Run.to _ _ ?_ ?_ (IH (i + 1, .box 3 0) (by simp only []; omega) ⟨by simp only []; omega, .inr rfl⟩)
    · exact ⟨Le.refl _, Le.refl _, Le.refl _, Le.int hwi, trivial⟩
    · refine ⟨MOle.refl _, MOle.refl _, ?_, trivial⟩
      have : bs (l.take i) ++ ⟨#[l.getD i 0]⟩ = bs (l.take (i + 1)) := by rw [bs_push, take_at l i 0 hil]
      rw [← this]
      exact MOle.refl _
  · obtain rfl : i = l.length := by omega
    refine Run.go ?_; (conv => whnf); repeat' (first | ((with_reducible refine Know.mk fun _ => ?_); conv => whnf) | ((with_reducible refine Need.mk ?_ ?_); exact nd; conv => whnf) | ((with_reducible refine Both.mk ?_ ?_) <;> conv => whnf) | ((with_reducible refine Any.mk fun b hb => ?_); conv => whnf) | ((with_reducible first | refine AskB.dec (fun hb => ?_) (fun hb => ?_) | refine AskB.ndec (fun hb => ?_) (fun hb => ?_) | refine AskB.mk (fun hb => ?_) (fun hb => ?_)) <;> first | (exfalso; omega) | (conv => whnf)) | ((with_reducible first | refine Run.drawX rfl (by decide +kernel) ?_ | refine Run.drawT rfl (by decide +kernel) ?_ | refine Run.drawW rfl (by decide +kernel) ?_); conv => whnf) | fail)
    all_goals try (exfalso; omega)
    refine Run.bldr 50 5 3 90 p (bs (l.take l.length)) (MOle.refl _) (MOle.refl _) ?_
    refine bs3 p _ rfl rfl rfl rfl rfl ?_
    refine Run.go ?_; (conv => whnf); repeat' (first | ((with_reducible refine Know.mk fun _ => ?_); conv => whnf) | ((with_reducible refine Need.mk ?_ ?_); exact nd; conv => whnf) | ((with_reducible first | refine Both.mk ?_ ?_ | refine Any.mk fun b hb => ?_ | refine AskB.dec (fun hb => ?_) (fun hb => ?_) | refine AskB.ndec (fun hb => ?_) (fun hb => ?_) | refine AskB.mk (fun hb => ?_) (fun hb => ?_)) <;> conv => whnf) | ((with_reducible first | refine Run.drawX rfl (by decide +kernel) ?_ | refine Run.drawT rfl (by decide +kernel) ?_ | refine Run.drawW rfl (by decide +kernel) ?_); conv => whnf) | fail)
    exact Run.leave (ts := [2]) (.inr ⟨_, rfl⟩) rfl Tryd.func27 rfl (Le.str (by rw [List.take_length]))
theorem small1_fn : Fn Tryd.prog 73 [.int .i64 1] (.str ⟨#[49]⟩) := by
  refine Fn.of Tryd.f73 _ Tryd.func73 rfl (by decide) (by show 1 ≤ _; decide) tbOk 15 rfl fun S w0 gl => ?_
  refine Run.go ?_; (conv => whnf); repeat' (first | ((with_reducible refine Know.mk fun _ => ?_); conv => whnf) | ((with_reducible refine Need.mk ?_ ?_); exact nd; conv => whnf) | ((with_reducible first | refine Both.mk ?_ ?_ | refine Any.mk fun b hb => ?_ | refine AskB.dec (fun hb => ?_) (fun hb => ?_) | refine AskB.ndec (fun hb => ?_) (fun hb => ?_) | refine AskB.mk (fun hb => ?_) (fun hb => ?_)) <;> conv => whnf) | ((with_reducible first | refine Run.drawX rfl (by decide +kernel) ?_ | refine Run.drawT rfl (by decide +kernel) ?_ | refine Run.drawW rfl (by decide +kernel) ?_); conv => whnf) | fail)
  all_goals first
    | exact Run.leave (ts := [2]) (.inr ⟨_, rfl⟩) rfl Tryd.func73 rfl (Le.str (by decide +kernel))
    | (exfalso; omega)
theorem fmtInt1_fn : Fn Tryd.prog 57 [.int .i64 1, .int .i64 10] (.str ⟨#[49]⟩) := by
  refine Fn.of Tryd.f57 _ Tryd.func57 rfl (by decide) (by show 2 ≤ _; decide) tbOk 54 rfl fun S w0 gl => ?_
  refine Run.go ?_; (conv => whnf); repeat' (first | ((with_reducible refine Know.mk fun _ => ?_); conv => whnf) | ((with_reducible refine Need.mk ?_ ?_); exact nd; conv => whnf) | ((with_reducible refine Both.mk ?_ ?_) <;> conv => whnf) | ((with_reducible refine Any.mk fun b hb => ?_); conv => whnf) | ((with_reducible first | refine AskB.dec (fun hb => ?_) (fun hb => ?_) | refine AskB.ndec (fun hb => ?_) (fun hb => ?_) | refine AskB.mk (fun hb => ?_) (fun hb => ?_)) <;> first | (exfalso; omega) | (conv => whnf)) | ((with_reducible first | refine Run.drawX rfl (by decide +kernel) ?_ | refine Run.drawT rfl (by decide +kernel) ?_ | refine Run.drawW rfl (by decide +kernel) ?_); conv => whnf) | fail)
  all_goals try (exfalso; omega)
  refine Run.callBX small1_fn rfl rfl ⟨Le.refl _, trivial⟩ rfl rfl rfl ?_
  (conv => whnf); repeat' (first | ((with_reducible refine Know.mk fun _ => ?_); conv => whnf) | ((with_reducible refine Need.mk ?_ ?_); exact nd; conv => whnf) | ((with_reducible first | refine Both.mk ?_ ?_ | refine Any.mk fun b hb => ?_ | refine AskB.dec (fun hb => ?_) (fun hb => ?_) | refine AskB.ndec (fun hb => ?_) (fun hb => ?_) | refine AskB.mk (fun hb => ?_) (fun hb => ?_)) <;> conv => whnf) | ((with_reducible first | refine Run.drawX rfl (by decide +kernel) ?_ | refine Run.drawT rfl (by decide +kernel) ?_ | refine Run.drawW rfl (by decide +kernel) ?_); conv => whnf) | fail)
  exact Run.leave (ts := [4]) (.inr ⟨_, rfl⟩) rfl Tryd.func57 rfl (Le.refl _)
theorem itoaI1_fn : Fn Tryd.prog 44 [.int .i64 1] (.str ⟨#[49]⟩) := by
  refine Fn.of Tryd.f44 _ Tryd.func44 rfl (by decide) (by show 1 ≤ _; decide) tbOk 5 rfl fun S w0 gl => ?_
  refine Run.go ?_; (conv => whnf); repeat' (first | ((with_reducible refine Know.mk fun _ => ?_); conv => whnf) | ((with_reducible refine Need.mk ?_ ?_); exact nd; conv => whnf) | ((with_reducible first | refine Both.mk ?_ ?_ | refine Any.mk fun b hb => ?_ | refine AskB.dec (fun hb => ?_) (fun hb => ?_) | refine AskB.ndec (fun hb => ?_) (fun hb => ?_) | refine AskB.mk (fun hb => ?_) (fun hb => ?_)) <;> conv => whnf) | ((with_reducible first | refine Run.drawX rfl (by decide +kernel) ?_ | refine Run.drawT rfl (by decide +kernel) ?_ | refine Run.drawW rfl (by decide +kernel) ?_); conv => whnf) | fail)
  refine Run.callBX fmtInt1_fn rfl rfl ⟨Le.refl _, Le.refl _, trivial⟩ rfl rfl rfl ?_
  (conv => whnf); repeat' (first | ((with_reducible refine Know.mk fun _ => ?_); conv => whnf) | ((with_reducible refine Need.mk ?_ ?_); exact nd; conv => whnf) | ((with_reducible first | refine Both.mk ?_ ?_ | refine Any.mk fun b hb => ?_ | refine AskB.dec (fun hb => ?_) (fun hb => ?_) | refine AskB.ndec (fun hb => ?_) (fun hb => ?_) | refine AskB.mk (fun hb => ?_) (fun hb => ?_)) <;> conv => whnf) | ((with_reducible first | refine Run.drawX rfl (by decide +kernel) ?_ | refine Run.drawT rfl (by decide +kernel) ?_ | refine Run.drawW rfl (by decide +kernel) ?_); conv => whnf) | fail)
  exact Run.leave (ts := [2]) (.inr ⟨_, rfl⟩) rfl Tryd.func44 rfl (Le.refl _)
theorem itoa1_fn : Fn Tryd.prog 28 [.int .i64 1] (.str ⟨#[49]⟩) := by
  refine Fn.of Tryd.f28 _ Tryd.func28 rfl (by decide) (by show 1 ≤ _; decide) tbOk 5 rfl fun S w0 gl => ?_
  refine Run.go ?_; (conv => whnf); repeat' (first | ((with_reducible refine Know.mk fun _ => ?_); conv => whnf) | ((with_reducible refine Need.mk ?_ ?_); exact nd; conv => whnf) | ((with_reducible first | refine Both.mk ?_ ?_ | refine Any.mk fun b hb => ?_ | refine AskB.dec (fun hb => ?_) (fun hb => ?_) | refine AskB.ndec (fun hb => ?_) (fun hb => ?_) | refine AskB.mk (fun hb => ?_) (fun hb => ?_)) <;> conv => whnf) | ((with_reducible first | refine Run.drawX rfl (by decide +kernel) ?_ | refine Run.drawT rfl (by decide +kernel) ?_ | refine Run.drawW rfl (by decide +kernel) ?_); conv => whnf) | fail)
  refine Run.callBX itoaI1_fn rfl rfl ⟨Le.refl _, trivial⟩ rfl rfl rfl ?_
  (conv => whnf); repeat' (first | ((with_reducible refine Know.mk fun _ => ?_); conv => whnf) | ((with_reducible refine Need.mk ?_ ?_); exact nd; conv => whnf) | ((with_reducible first | refine Both.mk ?_ ?_ | refine Any.mk fun b hb => ?_ | refine AskB.dec (fun hb => ?_) (fun hb => ?_) | refine AskB.ndec (fun hb => ?_) (fun hb => ?_) | refine AskB.mk (fun hb => ?_) (fun hb => ?_)) <;> conv => whnf) | ((with_reducible first | refine Run.drawX rfl (by decide +kernel) ?_ | refine Run.drawT rfl (by decide +kernel) ?_ | refine Run.drawW rfl (by decide +kernel) ?_); conv => whnf) | fail)
  exact Run.leave (ts := [2]) (.inr ⟨_, rfl⟩) rfl Tryd.func28 rfl (Le.refl _)
theorem join1_fn (s sep : ByteArray) : Fn Tryd.prog 29 [tS.L [s], .str sep] (.str s) := by
  refine Fn.of Tryd.f29 _ Tryd.func29 rfl (by decide) (by show 2 ≤ _; decide) tbOk 75 rfl fun S w0 gl => ?_
  have hl : [s].length = 1 := rfl
  refine Run.go ?_; (conv => whnf); repeat' (first | ((with_reducible refine Know.mk fun _ => ?_); conv => whnf) | ((with_reducible refine Need.mk ?_ ?_); exact nd; conv => whnf) | ((with_reducible refine Both.mk ?_ ?_) <;> conv => whnf) | ((with_reducible refine Any.mk fun b hb => ?_); conv => whnf) | ((with_reducible first | refine AskB.dec (fun hb => ?_) (fun hb => ?_) | refine AskB.ndec (fun hb => ?_) (fun hb => ?_) | refine AskB.mk (fun hb => ?_) (fun hb => ?_)) <;> first | (exfalso; omega) | (conv => whnf)) | ((with_reducible first | refine Run.drawX rfl (by decide +kernel) ?_ | refine Run.drawT rfl (by decide +kernel) ?_ | refine Run.drawW rfl (by decide +kernel) ?_); conv => whnf) | fail)
  all_goals try (exfalso; omega)
  exact Run.leave (ts := [4]) (.inr ⟨_, rfl⟩) rfl Tryd.func29 rfl (Le.refl _)
end Go.Proofs.YteklnpgiloebcaaDoor.V

namespace Go.Proofs.YteklnpgiloebcaaDoor.V
set_option linter.unusedVariables false
set_option linter.unusedSimpArgs false
open Go Go.Proofs Go.RowKit
set_option maxRecDepth 100000
set_option maxHeartbeats 1000000
theorem entry_fn (e : En) (n : Int) (h0 : 1 ≤ n) (h1 : n ≤ 12) : Fn Tryd.prog 21 [.agg 2 (tEn.enc e), .int .i64 n] (.bool (decide (Right n e.rds))) := by
  refine Fn.of Tryd.f21 _ Tryd.func21 rfl (by decide) (by show 2 ≤ _; decide) tbOk 123 rfl fun S w0 gl => ?_
  refine Run.go ?_; (conv => whnf); repeat' (first | ((with_reducible refine Know.mk fun _ => ?_); conv => whnf) | ((with_reducible refine Need.mk ?_ ?_); exact nd; conv => whnf) | ((with_reducible first | refine Both.mk ?_ ?_ | refine Any.mk fun b hb => ?_ | refine AskB.dec (fun hb => ?_) (fun hb => ?_) | refine AskB.ndec (fun hb => ?_) (fun hb => ?_) | refine AskB.mk (fun hb => ?_) (fun hb => ?_)) <;> conv => whnf) | ((with_reducible first | refine Run.drawX rfl (by decide +kernel) ?_ | refine Run.drawT rfl (by decide +kernel) ?_ | refine Run.drawW rfl (by decide +kernel) ?_); conv => whnf) | fail)
  · refine Run.leave (ts := [4]) (.inr ⟨_, rfl⟩) rfl Tryd.func21 rfl (Le.bool (decide_eq_false ?_).symm)
    rintro ⟨_, h2, _⟩; omega
  refine Run.loop [1,2,5] (fun i : Nat => [(6, .int .i64 ((fl (e.rds.take i)).length : Int)), (7, .int .i64 (i : Int))]) (fun i => [(2, .box 45 [.int .i64 e.col, tRd.L e.rds]), (18, .row 4 1 n.toNat (tB.G (seenL n (fl (e.rds.take i)))))])
    (fun i => i ≤ e.rds.length ∧ Part n (e.rds.take i)) (fun i => e.rds.length - i) 0 ⟨Nat.zero_le _, ⟨by simp, by simp [fl], by simp⟩⟩ ⟨Le.refl _, Le.refl _, trivial⟩ ⟨?_, ?_, trivial⟩ ?_
  · exact MOle.refl _
  · refine ⟨rfl, rfl, rfl, fun i j hi hj => ?_⟩
    have : j = 0 := by omega
    subst this
    refine Le.ff.trans (Le.bool ?_)
    simp [seenL, fl, hi]
  intro i ⟨hi, hP⟩ IH
  refine Run.go ?_; (conv => whnf); repeat' (first | ((with_reducible refine Know.mk fun _ => ?_); conv => whnf) | ((with_reducible refine Need.mk ?_ ?_); exact nd; conv => whnf) | ((with_reducible first | refine Both.mk ?_ ?_ | refine Any.mk fun b hb => ?_ | refine AskB.dec (fun hb => ?_) (fun hb => ?_) | refine AskB.ndec (fun hb => ?_) (fun hb => ?_) | refine AskB.mk (fun hb => ?_) (fun hb => ?_)) <;> conv => whnf) | ((with_reducible first | refine Run.drawX rfl (by decide +kernel) ?_ | refine Run.drawT rfl (by decide +kernel) ?_ | refine Run.drawW rfl (by decide +kernel) ?_); conv => whnf) | fail)
  · refine Run.leave (ts := [4]) (.inr ⟨_, rfl⟩) rfl Tryd.func21 rfl (Le.bool (decide_eq_false fun hR => ?_).symm)
    rw [Int.toNat_natCast] at hb
    exact (hR.1.each _ (getD_mem (z := tRd.z) i (by omega))).some (List.length_eq_zero_iff.mp (by omega))
  · refine Run.leave (ts := [4]) (.inr ⟨_, rfl⟩) rfl Tryd.func21 rfl (Le.bool (decide_eq_false fun hR => ?_).symm)
    rw [Int.toNat_natCast] at hb
    have := (hR.1.each _ (getD_mem (z := tRd.z) _ (show i < e.rds.length by omega))).nons
    rw [this] at hb
    simp at hb
  · have hil : i < e.rds.length := by omega
    have hrn0 := hb
    rename_i hwl
    have hmem : e.rds.getD (↑i : Int).toNat tRd.z ∈ e.rds := by rw [Int.toNat_natCast]; exact getD_mem i hil
    have hfl : fl (e.rds.take (i + 1)) = fl (e.rds.take i) ++ (e.rds.getD (↑i : Int).toNat tRd.z).wits := by rw [Int.toNat_natCast]; exact fl_take _ _ _ hil
    have hsub : ∃ rest, fl e.rds = fl (e.rds.take i) ++ (e.rds.getD (↑i : Int).toNat tRd.z).wits ++ rest := by rw [Int.toNat_natCast]; exact fl_sub _ _ _ hil
    have htk : e.rds.take (i + 1) = e.rds.take i ++ [e.rds.getD (↑i : Int).toNat tRd.z] := by rw [Int.toNat_natCast]; exact take_get _ _ _ hil
    generalize hr : e.rds.getD (↑i : Int).toNat tRd.z = r at *
    refine Run.loop [1,2,5,7,8] (fun k : Nat => [(6, .int .i64 (((fl (e.rds.take i)).length + k : Nat) : Int)), (9, .int .i64 (k : Int))])
      (fun k => [(2, .box 45 [.int .i64 e.col, tRd.L e.rds]), (8, .box 42 [.bool r.none, .str r.text, tI.L r.wits]), (18, .row 4 1 n.toNat (tB.G (seenL n (fl (e.rds.take i) ++ r.wits.take k))))])
      (fun k => k ≤ r.wits.length ∧ (r.wits.take k).Pairwise (· < ·) ∧ (∀ w ∈ r.wits.take k, 0 ≤ w ∧ w < n) ∧ (fl (e.rds.take i) ++ r.wits.take k).Nodup) (fun k => r.wits.length - k) 0
      ⟨Nat.zero_le _, by simp, by simp, by simpa using hP.nodup⟩ ⟨Le.refl _, Le.refl _, trivial⟩ ⟨?_, ?_, ?_, trivial⟩ ?_
    · exact MOle.refl _
    · rw [← hr]; exact MOle.refl _
    · simp only [List.take_zero, List.append_nil]; exact MOle.refl _
    intro k ⟨hk, hup, hrng, hnd⟩ IHk
    refine Run.go ?_; (conv => whnf); repeat' (first | ((with_reducible refine Know.mk fun _ => ?_); conv => whnf) | ((with_reducible refine Need.mk ?_ ?_); exact nd; conv => whnf) | ((with_reducible first | refine Both.mk ?_ ?_ | refine Any.mk fun b hb => ?_ | refine AskB.dec (fun hb => ?_) (fun hb => ?_) | refine AskB.ndec (fun hb => ?_) (fun hb => ?_) | refine AskB.mk (fun hb => ?_) (fun hb => ?_)) <;> conv => whnf) | ((with_reducible first | refine Run.drawX rfl (by decide +kernel) ?_ | refine Run.drawT rfl (by decide +kernel) ?_ | refine Run.drawW rfl (by decide +kernel) ?_); conv => whnf) | fail)
    · refine Run.leave (ts := [4]) (.inr ⟨_, rfl⟩) rfl Tryd.func21 rfl (Le.bool (decide_eq_false fun hR => ?_).symm)
      rw [Int.toNat_natCast] at hb
      have := ((hR.1.each _ hmem).rng _ (getD_mem (z := tI.z) k (by omega))).1
      omega
    · refine Run.leave (ts := [4]) (.inr ⟨_, rfl⟩) rfl Tryd.func21 rfl (Le.bool (decide_eq_false fun hR => ?_).symm)
      rw [Int.toNat_natCast] at hb
      have := ((hR.1.each _ hmem).rng _ (getD_mem (z := tI.z) k (by omega))).2
      omega
    · refine Run.leave (ts := [4]) (.inr ⟨_, rfl⟩) rfl Tryd.func21 rfl (Le.bool (decide_eq_false fun hR => ?_).symm)
      rw [Int.toNat_natCast] at hb
      have h9 := ((hR.1.each _ hmem).rng _ (getD_mem (z := tI.z) k (by omega)))
      rw [show tB.z = false from rfl, seen_at h9.1 h9.2, decide_eq_true_eq] at hb
      obtain ⟨rest, hrest⟩ := hsub
      have hn := hR.1.nodup
      rw [hrest, all_get tI.z r.wits k (by omega), ← List.append_assoc, List.append_assoc] at hn
      exact (List.nodup_append.mp hn).2.2 _ hb _ (by simp) rfl
    · refine Run.leave (ts := [4]) (.inr ⟨_, rfl⟩) rfl Tryd.func21 rfl (Le.bool (decide_eq_false fun hR => ?_).symm)
      rw [Int.toNat_natCast, wrap64 (by omega) (by omega), show ((k : Int) - 1).toNat = k - 1 by omega] at hb
      have := pair_at (hR.1.each _ hmem).up (show k - 1 < k by omega) (by omega)
      have hb' : r.wits.getD k 0 ≤ r.wits.getD (k - 1) 0 := hb
      omega
    · rename_i hw0 hwn hsn hk0
      rw [Int.toNat_natCast] at hw0 hwn hsn
      rw [Int.toNat_natCast, wrap64 (by omega) (by omega), show ((k : Int) - 1).toNat = k - 1 by omega] at hb
      have hw0' : 0 ≤ r.wits.getD k 0 := Int.not_lt.mp hw0
      have hwn' : r.wits.getD k 0 < n := Int.not_le.mp hwn
      have hb' : r.wits.getD (k - 1) 0 < r.wits.getD k 0 := Int.not_le.mp hb
      have htk2 := take_get 0 r.wits k (by omega)
      have hlen := nodup_len n.toNat _ hnd (fun w hw => by
        rcases List.mem_append.mp hw with hw | hw
        · obtain ⟨r', hr', hw'⟩ := List.mem_flatMap.mp hw
          have := (hP.each r' hr').rng w hw'; omega
        · have := hrng w hw; omega)
      rw [List.length_append, List.length_take] at hlen
      rw [show tB.z = false from rfl, show tI.z = 0 from rfl, seen_at hw0' hwn', decide_eq_false_iff_not] at hsn
      refine Run.to _ _ ?_ ?_ (IHk (k + 1) (by omega) ⟨by omega, pair_push (R := fun a b => a < b) (fun a b c => Int.lt_trans) (show k < r.wits.length by omega) hup (fun _ => hb'), fun w hw => ?_, ?_⟩)
      · exact ⟨Le.refl _, Le.refl _, Le.refl _, Le.refl _, Le.refl _, Le.wrap64 (by omega) (by omega) (by omega), Le.wrap64 (by omega) (by omega) (by omega), trivial⟩
      · refine ⟨MOle.refl _, MOle.refl _, ?_, trivial⟩
        rw [htk2, ← List.append_assoc]
        exact seen_upd hw0' hwn' _ rfl
      · rw [htk2] at hw
        rcases List.mem_append.mp hw with hw | hw
        · exact hrng w hw
        · have : w = r.wits.getD k 0 := by simpa using hw
          omega
      · rw [htk2, ← List.append_assoc]
        exact List.nodup_append.mpr ⟨hnd, by simp, fun a ha b hb2 e => hsn (by rw [← (show b = r.wits.getD k 0 by simpa using hb2), ← e]; exact ha)⟩
    · rename_i hw0 hwn hsn
      rw [Int.toNat_natCast] at hw0 hwn hsn
      have hw0' : 0 ≤ r.wits.getD k 0 := Int.not_lt.mp hw0
      have hwn' : r.wits.getD k 0 < n := Int.not_le.mp hwn
      have htk2 := take_get 0 r.wits k (by omega)
      have hlen := nodup_len n.toNat _ hnd (fun w hw => by
        rcases List.mem_append.mp hw with hw | hw
        · obtain ⟨r', hr', hw'⟩ := List.mem_flatMap.mp hw
          have := (hP.each r' hr').rng w hw'; omega
        · have := hrng w hw; omega)
      rw [List.length_append, List.length_take] at hlen
      rw [show tB.z = false from rfl, show tI.z = 0 from rfl, seen_at hw0' hwn', decide_eq_false_iff_not] at hsn
      refine Run.to _ _ ?_ ?_ (IHk (k + 1) (by omega) ⟨by omega, pair_push (R := fun a b => a < b) (fun a b c => Int.lt_trans) (show k < r.wits.length by omega) hup (fun h => absurd h (by omega)), fun w hw => ?_, ?_⟩)
      · exact ⟨Le.refl _, Le.refl _, Le.refl _, Le.refl _, Le.refl _, Le.wrap64 (by omega) (by omega) (by omega), Le.wrap64 (by omega) (by omega) (by omega), trivial⟩
      · refine ⟨MOle.refl _, MOle.refl _, ?_, trivial⟩
        rw [htk2, ← List.append_assoc]
        exact seen_upd hw0' hwn' _ rfl
      · rw [htk2] at hw
        rcases List.mem_append.mp hw with hw | hw
        · exact hrng w hw
        · have : w = r.wits.getD k 0 := by simpa using hw
          omega
      · rw [htk2, ← List.append_assoc]
        exact List.nodup_append.mpr ⟨hnd, by simp, fun a ha b hb2 e => hsn (by rw [← (show b = r.wits.getD k 0 by simpa using hb2), ← e]; exact ha)⟩
    · have hkl : k = r.wits.length := by omega
      subst hkl
      rw [List.take_length] at hnd hrng hup ⊢
      refine Run.loop [1,2,5,6,7,8] (fun j : Nat => [(11, .int .i64 (j : Int))])
        (fun j => [(2, .box 45 [.int .i64 e.col, tRd.L e.rds]), (8, .box 42 [.bool r.none, .str r.text, tI.L r.wits]), (18, .row 4 1 n.toNat (tB.G (seenL n (fl (e.rds.take i) ++ r.wits))))])
        (fun j => j ≤ i ∧ ∀ q, q < j → (e.rds.getD q tRd.z).text ≠ r.text ∧ (e.rds.getD q tRd.z).wits.headD 0 < r.wits.headD 0) (fun j => i - j) 0
        ⟨Nat.zero_le _, fun q hq => absurd hq (Nat.not_lt_zero _)⟩ ⟨Le.refl _, trivial⟩ ⟨MOle.refl _, MOle.refl _, MOle.refl _, trivial⟩ ?_
      intro j ⟨hj, hap⟩ IHj
      have hjm : j < i → e.rds.getD j tRd.z ∈ e.rds.take i := fun h => by
        have h2 : (e.rds.take i).getD j tRd.z = e.rds.getD j tRd.z := by simp [List.getD, h]
        rw [← h2]; exact getD_mem j (by simp; omega)
      have hjp : j < i → 0 < (e.rds.getD (↑j : Int).toNat tRd.z).wits.length := fun h => by
        rw [Int.toNat_natCast]
        exact List.length_pos_iff.mpr (hP.each _ (hjm h)).some
      refine Run.go ?_; (conv => whnf); repeat' (first | ((with_reducible refine Know.mk fun _ => ?_); conv => whnf) | ((with_reducible refine Need.mk ?_ ?_); exact nd; conv => whnf) | ((with_reducible first | refine Both.mk ?_ ?_ | refine Any.mk fun b hb => ?_ | refine AskB.dec (fun hb => ?_) (fun hb => ?_) | refine AskB.ndec (fun hb => ?_) (fun hb => ?_) | refine AskB.mk (fun hb => ?_) (fun hb => ?_)) <;> conv => whnf) | ((with_reducible first | refine Run.drawX rfl (by decide +kernel) ?_ | refine Run.drawT rfl (by decide +kernel) ?_ | refine Run.drawW rfl (by decide +kernel) ?_); conv => whnf) | fail)
      · refine Run.leave (ts := [4]) (.inr ⟨_, rfl⟩) rfl Tryd.func21 rfl (Le.bool (decide_eq_false fun hR => ?_).symm)
        have h9 := pair_atG (z := tRd.z) hR.1.apart (show j < i by omega) hil
        rw [← Int.toNat_natCast i, hr] at h9
        rw [Int.toNat_natCast] at hb
        exact h9.1 hb
      · refine Run.leave (ts := [4]) (.inr ⟨_, rfl⟩) rfl Tryd.func21 rfl (Le.bool (decide_eq_false fun hR => ?_).symm)
        have h9 := pair_atG (z := tRd.z) hR.1.apart (show j < i by omega) hil
        rw [← Int.toNat_natCast i, hr, head_get, head_get] at h9
        rw [Int.toNat_natCast] at hb
        exact absurd h9.2 (Int.not_lt.mpr hb)
      · refine Run.to _ _ ?_ ?_ (IHj (j + 1) (by omega) ⟨by omega, fun q hq => ?_⟩)
        · exact ⟨Le.refl _, Le.refl _, Le.refl _, Le.refl _, Le.refl _, Le.refl _, Le.wrap64 (by omega) (by omega) (by omega), trivial⟩
        · exact ⟨MOle.refl _, MOle.refl _, MOle.refl _, trivial⟩
        · by_cases hqj : q = j
          · subst hqj
            rw [Int.toNat_natCast] at *
            refine ⟨by assumption, ?_⟩
            rw [head_get, head_get]
            exact Int.not_le.mp hb
          · exact hap q (by omega)
      · refine Run.leave (ts := [4]) (.inr ⟨_, rfl⟩) rfl Tryd.func21 rfl (Le.bool (decide_eq_false fun hR => ?_).symm)
        have h9 := pair_atG (z := tRd.z) hR.1.apart (show j < i by omega) hil
        rw [← Int.toNat_natCast i, hr, head_get, head_get] at h9
        rw [Int.toNat_natCast] at hb
        exact absurd h9.2 (Int.not_lt.mpr hb)
      · refine Run.to _ _ ?_ ?_ (IHj (j + 1) (by omega) ⟨by omega, fun q hq => ?_⟩)
        · exact ⟨Le.refl _, Le.refl _, Le.refl _, Le.refl _, Le.refl _, Le.refl _, Le.wrap64 (by omega) (by omega) (by omega), trivial⟩
        · exact ⟨MOle.refl _, MOle.refl _, MOle.refl _, trivial⟩
        · by_cases hqj : q = j
          · subst hqj
            rw [Int.toNat_natCast] at *
            refine ⟨fun e => by
              have e1 := (hP.each _ (hjm (by omega))).nons
              rename_i hne
              have e2 : r.none = decide (r.text = ⟨#[]⟩) := by simpa using hrn0
              rw [e1, e, e2] at hne
              simp at hne, ?_⟩
            rw [head_get, head_get]
            exact Int.not_le.mp hb
          · exact hap q (by omega)
      · have hji : j = i := by omega
        subst hji
        have hnew : Part n (e.rds.take (j + 1)) := by
          rw [htk]
          refine ⟨fun r' hr' => ?_, ?_, ?_⟩
          · rcases List.mem_append.mp hr' with h | h
            · exact hP.each r' h
            · have : r' = r := by simpa using h
              subst this
              exact ⟨fun e9 => hwl (by rw [e9]; rfl), by simpa using hrn0, hup, hrng⟩
          · rw [fl_append]; simpa [fl] using hnd
          · refine List.pairwise_append.mpr ⟨hP.apart, by simp, fun p hp q hq => ?_⟩
            have : q = r := by simpa using hq
            subst this
            obtain ⟨m, hm, rfl⟩ := List.getElem_of_mem hp
            have hmj : m < j := by simp at hm; omega
            have := hap m hmj
            simpa [List.getD, show m < e.rds.length by omega] using this
        refine Run.to _ _ ?_ ?_ (IH (j + 1) (by omega) ⟨by omega, hnew⟩)
        · exact ⟨Le.refl _, Le.refl _, Le.refl _, Le.int (by rw [hfl, List.length_append]), Le.wrap64 (by omega) (by omega) (by omega), trivial⟩
        · refine ⟨MOle.refl _, ?_, trivial⟩
          rw [hfl]; exact MOle.refl _
  · refine Run.leave (ts := [4]) (.inr ⟨_, rfl⟩) rfl Tryd.func21 rfl (Le.bool ?_)
    have : i = e.rds.length := by omega
    subst this
    rw [List.take_length] at hP ⊢
    rw [decide_eq_decide]
    exact ⟨fun h => ⟨hP, by omega, h⟩, fun h => h.2.2⟩

end Go.Proofs.YteklnpgiloebcaaDoor.V

namespace Go.Proofs.YteklnpgiloebcaaDoor.V
set_option linter.unusedVariables false
set_option linter.unusedSimpArgs false
open Go Go.Proofs Go.RowKit
set_option maxRecDepth 100000
set_option maxHeartbeats 1000000
theorem right_fn (e : En) (n : Int) (h0 : 1 ≤ n) (h1 : n ≤ 12) : Fn Tryd.prog 20 [.agg 2 (tEn.enc e), .int .i64 n] (.bool (decide (Right n e.rds))) := by
  refine Fn.of Tryd.f20 _ Tryd.func20 rfl (by decide) (by show 2 ≤ _; decide) tbOk 90 rfl fun S w0 gl => ?_
  refine Run.go ?_; (conv => whnf); repeat' (first | ((with_reducible refine Know.mk fun _ => ?_); conv => whnf) | ((with_reducible refine Need.mk ?_ ?_); exact nd; conv => whnf) | ((with_reducible first | refine Both.mk ?_ ?_ | refine Any.mk fun b hb => ?_ | refine AskB.dec (fun hb => ?_) (fun hb => ?_) | refine AskB.ndec (fun hb => ?_) (fun hb => ?_) | refine AskB.mk (fun hb => ?_) (fun hb => ?_)) <;> conv => whnf) | ((with_reducible first | refine Run.drawX rfl (by decide +kernel) ?_ | refine Run.drawT rfl (by decide +kernel) ?_ | refine Run.drawW rfl (by decide +kernel) ?_); conv => whnf) | fail)
  refine Run.loop [1,2,5,6,16,17] (fun i : Nat => [(7, .int .i64 (lastW (e.rds.take i))), (18, .int .i64 (i : Int))])
    (fun i => [(2, .box 45 [.int .i64 e.col, tRd.L e.rds]), (13, .mp (.ib (fl (e.rds.take i)))), (14, .mp (.sb ((e.rds.take i).map (·.text))))])
    (fun i => i ≤ e.rds.length ∧ Part n (e.rds.take i)) (fun i => e.rds.length - i) 0 ⟨Nat.zero_le _, ⟨by simp, by simp [fl], by simp⟩⟩ ⟨Le.refl _, Le.refl _, trivial⟩ ⟨MOle.refl _, rfl, rfl, trivial⟩ ?_
  intro i ⟨hi, hP⟩ IH
  refine Run.go ?_; (conv => whnf); repeat' (first | ((with_reducible refine Know.mk fun _ => ?_); conv => whnf) | ((with_reducible refine Need.mk ?_ ?_); exact nd; conv => whnf) | ((with_reducible first | refine Both.mk ?_ ?_ | refine Any.mk fun b hb => ?_ | refine AskB.dec (fun hb => ?_) (fun hb => ?_) | refine AskB.ndec (fun hb => ?_) (fun hb => ?_) | refine AskB.mk (fun hb => ?_) (fun hb => ?_)) <;> conv => whnf) | ((with_reducible first | refine Run.drawX rfl (by decide +kernel) ?_ | refine Run.drawT rfl (by decide +kernel) ?_ | refine Run.drawW rfl (by decide +kernel) ?_); conv => whnf) | fail)
  · refine Run.leave (ts := [4]) (.inr ⟨_, rfl⟩) rfl Tryd.func20 rfl (Le.bool (decide_eq_false fun hR => ?_).symm)
    rw [Int.toNat_natCast] at hb
    exact (hR.1.each _ (getD_mem (z := tRd.z) i (by omega))).some (List.length_eq_zero_iff.mp (by omega))
  · refine Run.leave (ts := [4]) (.inr ⟨_, rfl⟩) rfl Tryd.func20 rfl (Le.bool (decide_eq_false fun hR => ?_).symm)
    rw [Int.toNat_natCast] at hb
    exact absurd (lastW_lt hR.1 (show i < e.rds.length by omega)) (Int.not_lt.mpr (by rw [head_get]; exact hb))
  · refine Run.leave (ts := [4]) (.inr ⟨_, rfl⟩) rfl Tryd.func20 rfl (Le.bool (decide_eq_false fun hR => ?_).symm)
    rw [Int.toNat_natCast] at hb
    have := (hR.1.each _ (getD_mem (z := tRd.z) _ (show i < e.rds.length by omega))).nons
    rw [this] at hb
    simp at hb
  · refine Run.leave (ts := [4]) (.inr ⟨_, rfl⟩) rfl Tryd.func20 rfl (Le.bool (decide_eq_false fun hR => ?_).symm)
    rw [Int.toNat_natCast, hasK_iff] at hb
    obtain ⟨p, hp, hpt⟩ := List.mem_map.mp hb
    obtain ⟨m, hm, rfl⟩ := List.getElem_of_mem hp
    have hmi : m < i := by simp at hm; omega
    have := (pair_atG (z := tRd.z) hR.1.apart hmi (by omega)).1
    refine this ?_
    rw [← hpt]
    simp [List.getD, show m < e.rds.length by omega]
  · have hil : i < e.rds.length := by omega
    have hmem : e.rds.getD (↑i : Int).toNat tRd.z ∈ e.rds := by rw [Int.toNat_natCast]; exact getD_mem i hil
    have hfl : fl (e.rds.take (i + 1)) = fl (e.rds.take i) ++ (e.rds.getD (↑i : Int).toNat tRd.z).wits := by rw [Int.toNat_natCast]; exact fl_take _ _ _ hil
    have hsub : ∃ rest, fl e.rds = fl (e.rds.take i) ++ (e.rds.getD (↑i : Int).toNat tRd.z).wits ++ rest := by rw [Int.toNat_natCast]; exact fl_sub _ _ _ hil
    have htk : e.rds.take (i + 1) = e.rds.take i ++ [e.rds.getD (↑i : Int).toNat tRd.z] := by rw [Int.toNat_natCast]; exact take_get _ _ _ hil
    rename_i hwl hlast hrn0 hkn
    generalize hr : e.rds.getD (↑i : Int).toNat tRd.z = r at *
    rw [hasK_not] at hb
    have hbt := hb
    have htx : ins r.text ((e.rds.take i).map (·.text)) = (e.rds.take (i + 1)).map (·.text) := by rw [ins_new hb, htk]; simp
    refine Run.loop [1,2,5,6,7,16,17,18,56,57] (fun k : Nat => [(10, .int .i64 (if k = 0 then -1 else r.wits.getD (k - 1) 0)), (58, .int .i64 (k : Int))])
      (fun k => [(2, .box 45 [.int .i64 e.col, tRd.L e.rds]), (13, .mp (.ib (fl (e.rds.take i) ++ r.wits.take k))), (14, .mp (.sb ((e.rds.take (i + 1)).map (·.text))))])
      (fun k => k ≤ r.wits.length ∧ (r.wits.take k).Pairwise (· < ·) ∧ (∀ w ∈ r.wits.take k, 0 ≤ w ∧ w < n) ∧ (fl (e.rds.take i) ++ r.wits.take k).Nodup) (fun k => r.wits.length - k) 0
      ⟨Nat.zero_le _, by simp, by simp, by simpa using hP.nodup⟩ ⟨Le.refl _, Le.refl _, trivial⟩ ⟨?_, ?_, ?_, trivial⟩ ?_
    · exact MOle.refl _
    · simp only [List.take_zero, List.append_nil]; exact MOle.refl _
    · rw [← htx]; exact MOle.refl _
    intro k ⟨hk, hup, hrng, hnd⟩ IHk
    refine Run.go ?_; (conv => whnf); repeat' (first | ((with_reducible refine Know.mk fun _ => ?_); conv => whnf) | ((with_reducible refine Need.mk ?_ ?_); exact nd; conv => whnf) | ((with_reducible first | refine Both.mk ?_ ?_ | refine Any.mk fun b hb => ?_ | refine AskB.dec (fun hb => ?_) (fun hb => ?_) | refine AskB.ndec (fun hb => ?_) (fun hb => ?_) | refine AskB.mk (fun hb => ?_) (fun hb => ?_)) <;> conv => whnf) | ((with_reducible first | refine Run.drawX rfl (by decide +kernel) ?_ | refine Run.drawT rfl (by decide +kernel) ?_ | refine Run.drawW rfl (by decide +kernel) ?_); conv => whnf) | fail)
    · refine Run.leave (ts := [4]) (.inr ⟨_, rfl⟩) rfl Tryd.func20 rfl (Le.bool (decide_eq_false fun hR => ?_).symm)
      rw [Int.toNat_natCast] at hb
      have h9 := (hR.1.each _ hmem).rng _ (getD_mem (z := 0) k (show k < r.wits.length by omega))
      have hb' : r.wits.getD k 0 ≤ if k = 0 then -1 else r.wits.getD (k - 1) 0 := hb
      by_cases hk0 : k = 0
      · rw [if_pos hk0] at hb'; omega
      · rw [if_neg hk0] at hb'
        have := pair_at (hR.1.each _ hmem).up (show k - 1 < k by omega) (by omega)
        omega
    · refine Run.leave (ts := [4]) (.inr ⟨_, rfl⟩) rfl Tryd.func20 rfl (Le.bool (decide_eq_false fun hR => ?_).symm)
      rw [Int.toNat_natCast] at hb
      have := ((hR.1.each _ hmem).rng _ (getD_mem (z := tI.z) k (by omega))).2
      omega
    · refine Run.leave (ts := [4]) (.inr ⟨_, rfl⟩) rfl Tryd.func20 rfl (Le.bool (decide_eq_false fun hR => ?_).symm)
      rw [Int.toNat_natCast, hasK_iff] at hb
      obtain ⟨rest, hrest⟩ := hsub
      have hn := hR.1.nodup
      rw [hrest, all_get tI.z r.wits k (by omega), ← List.append_assoc, List.append_assoc] at hn
      exact (List.nodup_append.mp hn).2.2 _ hb _ (by simp) rfl
    · rename_i hpv hwn
      rw [Int.toNat_natCast, hasK_not] at hb
      have hb : r.wits.getD k 0 ∉ fl (e.rds.take i) ++ r.wits.take k := hb
      rw [Int.toNat_natCast] at hpv hwn
      have hpv' : (if k = 0 then -1 else r.wits.getD (k - 1) 0) < r.wits.getD k 0 := Int.not_le.mp hpv
      have hwn' : r.wits.getD k 0 < n := Int.not_le.mp hwn
      have htk2 := take_get 0 r.wits k (by omega)
      have hw0' : 0 ≤ r.wits.getD k 0 := by
        by_cases hk0 : k = 0
        · rw [if_pos hk0] at hpv'; omega
        · rw [if_neg hk0] at hpv'
          have : r.wits.getD (k - 1) 0 ∈ r.wits.take k := by
            have h2 : (r.wits.take k).getD (k - 1) 0 = r.wits.getD (k - 1) 0 := by simp [List.getD, show k - 1 < k by omega]
            rw [← h2]; exact getD_mem (k - 1) (by simp; omega)
          have := (hrng _ this).1; omega
      refine Run.to _ _ ?_ ?_ (IHk (k + 1) (by omega) ⟨by omega, pair_push (R := fun a b => a < b) (fun a b c => Int.lt_trans) (show k < r.wits.length by omega) hup (fun h => by rw [if_neg (by omega)] at hpv'; exact hpv'), fun w hw => ?_, ?_⟩)
      · refine ⟨Le.refl _, Le.refl _, Le.refl _, Le.refl _, Le.refl _, Le.refl _, Le.refl _, Le.refl _, Le.refl _, Le.refl _, ?_, Le.wrap64 (by omega) (by omega) (by omega), trivial⟩
        show Le (.int .i64 (r.wits.getD k 0)) (.int .i64 (if k + 1 = 0 then -1 else r.wits.getD (k + 1 - 1) 0))
        rw [if_neg (Nat.succ_ne_zero k)]
        exact Le.refl _
      · refine ⟨MOle.refl _, ?_, MOle.refl _, trivial⟩
        show MOle (.mp (.ib (ins (r.wits.getD k 0) (fl (e.rds.take i) ++ r.wits.take k)))) (.mp (.ib (fl (e.rds.take i) ++ r.wits.take (k + 1))))
        rw [htk2, ← List.append_assoc, ins_new hb]
        exact MOle.refl _
      · rw [htk2] at hw
        rcases List.mem_append.mp hw with hw | hw
        · exact hrng w hw
        · have : w = r.wits.getD k 0 := by simpa using hw
          omega
      · rw [htk2, ← List.append_assoc]
        exact List.nodup_append.mpr ⟨hnd, by simp, fun a ha b hb2 e => hb (by rw [← (show b = r.wits.getD k 0 by simpa using hb2), ← e]; exact ha)⟩
    · have hkl : k = r.wits.length := by omega
      subst hkl
      rw [List.take_length] at hnd hrng hup
      have hnew : Part n (e.rds.take (i + 1)) := by
        rw [htk]
        refine ⟨fun r' hr' => ?_, ?_, ?_⟩
        · rcases List.mem_append.mp hr' with h | h
          · exact hP.each r' h
          · have : r' = r := by simpa using h
            subst this
            exact ⟨fun e9 => hwl (by rw [e9]; rfl), by simpa using hrn0, hup, hrng⟩
        · rw [fl_append]; simpa [fl] using hnd
        · refine List.pairwise_append.mpr ⟨hP.apart, by simp, fun p hp q hq => ?_⟩
          have : q = r := by simpa using hq
          subst this
          refine ⟨fun e9 => ?_, ?_⟩
          · exact hbt (List.mem_map.mpr ⟨p, hp, e9⟩)
          · rw [head_get q.wits]
            exact Int.lt_of_le_of_lt (lastW_ge hP hp) (Int.not_le.mp hlast)
      refine Run.to _ _ ?_ ?_ (IH (i + 1) (by omega) ⟨by omega, hnew⟩)
      · refine ⟨Le.refl _, Le.refl _, Le.refl _, Le.refl _, Le.refl _, Le.refl _, Le.int ?_, Le.wrap64 (by omega) (by omega) (by omega), trivial⟩
        rw [htk]; simp only [lastW, List.getLast?_append, List.getLast?_singleton, Option.some_or, Option.map_some, Option.getD_some, head_get]; rfl
      · refine ⟨MOle.refl _, ?_, MOle.refl _, trivial⟩
        rw [hfl, List.take_length]; exact MOle.refl _
  · refine Run.leave (ts := [4]) (.inr ⟨_, rfl⟩) rfl Tryd.func20 rfl (Le.bool ?_)
    have : i = e.rds.length := by omega
    subst this
    rw [List.take_length] at hP ⊢
    rw [decide_eq_decide]
    exact ⟨fun h => ⟨hP, by omega, h⟩, fun h => h.2.2⟩
  · refine Run.leave (ts := [4]) (.inr ⟨_, rfl⟩) rfl Tryd.func20 rfl (Le.bool (decide_eq_false ?_).symm)
    rintro ⟨_, h2, _⟩; omega

end Go.Proofs.YteklnpgiloebcaaDoor.V

namespace Go.Proofs.YteklnpgiloebcaaDoor.V
set_option linter.unusedVariables false
set_option linter.unusedSimpArgs false
open Go Go.Proofs Go.RowKit
set_option maxRecDepth 100000
set_option maxHeartbeats 1000000
theorem appCheck_fn (es : List En) (n c : Int) : Fn Tryd.prog 9 [tEn.L es, .int .i64 n, .int .i64 c] (.int .i64 (chk es n c)) := by
  refine Fn.of Tryd.f9 _ Tryd.func9 rfl (by decide) (by show 3 ≤ _; decide) tbOk 49 rfl fun S w0 gl => ?_
  refine Run.go ?_; (conv => whnf); repeat' (first | ((with_reducible refine Know.mk fun _ => ?_); conv => whnf) | ((with_reducible refine Need.mk ?_ ?_); exact nd; conv => whnf) | ((with_reducible first | refine Both.mk ?_ ?_ | refine Any.mk fun b hb => ?_ | refine AskB.dec (fun hb => ?_) (fun hb => ?_) | refine AskB.ndec (fun hb => ?_) (fun hb => ?_) | refine AskB.mk (fun hb => ?_) (fun hb => ?_)) <;> conv => whnf) | ((with_reducible first | refine Run.drawX rfl (by decide +kernel) ?_ | refine Run.drawT rfl (by decide +kernel) ?_ | refine Run.drawW rfl (by decide +kernel) ?_); conv => whnf) | fail)
  iterate 4 (· exact Run.leave (ts := [6]) (.inr ⟨_, rfl⟩) rfl Tryd.func9 rfl (Le.int (by unfold chk; rw [if_pos (by omega)])))
  refine Run.loop [1,2,24,25] (fun i : Nat => [(7, .int .i64 (if i = 0 then -1 else (es.getD (i - 1) tEn.z).col)), (26, .int .i64 (i : Int))]) (fun i => [])
    (fun i => i ≤ es.length ∧ Good n c (es.take i)) (fun i => es.length - i) 0 ⟨Nat.zero_le _, ⟨by simp, by simp⟩⟩ ⟨Le.refl _, Le.refl _, trivial⟩ trivial ?_
  intro i ⟨hi, hG⟩ IH
  refine Run.go ?_; (conv => whnf); repeat' (first | ((with_reducible refine Know.mk fun _ => ?_); conv => whnf) | ((with_reducible refine Need.mk ?_ ?_); exact nd; conv => whnf) | ((with_reducible first | refine Both.mk ?_ ?_ | refine Any.mk fun b hb => ?_ | refine AskB.dec (fun hb => ?_) (fun hb => ?_) | refine AskB.ndec (fun hb => ?_) (fun hb => ?_) | refine AskB.mk (fun hb => ?_) (fun hb => ?_)) <;> conv => whnf) | ((with_reducible first | refine Run.drawX rfl (by decide +kernel) ?_ | refine Run.drawT rfl (by decide +kernel) ?_ | refine Run.drawW rfl (by decide +kernel) ?_); conv => whnf) | fail)
  · refine Run.leave (ts := [6]) (.inr ⟨_, rfl⟩) rfl Tryd.func9 rfl (Le.int ?_)
    rw [Int.toNat_natCast] at hb
    unfold chk
    rw [if_neg (by omega), if_neg (fun hG' => ?_)]
    exact absurd (good_up hG' (show i < es.length by omega)) (Int.not_lt.mpr hb)
  · refine Run.leave (ts := [6]) (.inr ⟨_, rfl⟩) rfl Tryd.func9 rfl (Le.int ?_)
    rw [Int.toNat_natCast] at hb
    unfold chk
    rw [if_neg (by omega), if_neg (fun hG' => ?_)]
    have := (hG'.each _ (getD_mem (z := tEn.z) i (by omega))).2.1
    omega
  · refine Run.callAX (right_fn (es.getD i tEn.z) n (by omega) (by omega)) rfl rfl ⟨?_, ?_, trivial⟩ rfl rfl rfl ?_
    · refine Le.agg fun j hj => ?_
      match j, hj with
      | 0, _ => exact Le.refl _
      | 1, _ => exact Le.refl _
    · exact Le.refl _
    (conv => whnf); repeat' (first | ((with_reducible refine Know.mk fun _ => ?_); conv => whnf) | ((with_reducible refine Need.mk ?_ ?_); exact nd; conv => whnf) | ((with_reducible first | refine Both.mk ?_ ?_ | refine Any.mk fun b hb => ?_ | refine AskB.dec (fun hb => ?_) (fun hb => ?_) | refine AskB.ndec (fun hb => ?_) (fun hb => ?_) | refine AskB.mk (fun hb => ?_) (fun hb => ?_)) <;> conv => whnf) | ((with_reducible first | refine Run.drawX rfl (by decide +kernel) ?_ | refine Run.drawT rfl (by decide +kernel) ?_ | refine Run.drawW rfl (by decide +kernel) ?_); conv => whnf) | fail)
    · rename_i hlast hcol
      rw [Int.toNat_natCast] at hlast hcol
      refine Run.to _ _ ?_ ?_ (IH (i + 1) (by omega) ⟨by omega, ?_⟩)
      · exact ⟨Le.refl _, Le.refl _, Le.refl _, Le.refl _, Le.int (by rw [Int.toNat_natCast, if_neg (Nat.succ_ne_zero i)]; rfl), Le.wrap64 (by omega) (by omega) (by omega), trivial⟩
      · exact trivial
      · exact good_push hG (by omega) (Int.not_le.mp hlast) (Int.not_le.mp hcol) hb
    · refine Run.leave (ts := [6]) (.inr ⟨_, rfl⟩) rfl Tryd.func9 rfl (Le.int ?_)
      unfold chk
      rw [if_neg (by omega), if_neg (fun hG' => ?_)]
      exact hb (hG'.each _ (getD_mem (z := tEn.z) i (by omega))).2.2
  · refine Run.leave (ts := [6]) (.inr ⟨_, rfl⟩) rfl Tryd.func9 rfl (Le.int ?_)
    have : i = es.length := by omega
    subst this
    rw [List.take_length] at hG
    unfold chk
    rw [if_neg (by omega), if_pos hG]

end Go.Proofs.YteklnpgiloebcaaDoor.V

namespace Go.Proofs.YteklnpgiloebcaaDoor.V
set_option linter.unusedVariables false
set_option linter.unusedSimpArgs false
open Go Go.Proofs Go.RowKit
set_option maxRecDepth 100000
theorem noCells : wordsOf .empty = ((.empty, []), 0) := by
  have ht : toksOf .empty = [] := by
    unfold toksOf
    rw [if_neg (by decide), cells_out (by decide), toks_out (by decide)]
  rw [wordsOf_fit (by decide) (by rw [ht]; decide), ht]; rfl
theorem awRight0 : rightB .empty [] = true := by
  unfold rightB
  rw [show ByteArray.empty ++ catW [] = .empty by decide +kernel, noCells]
  exact decide_eq_true rfl
theorem two {P : Nat → Prop} (h0 : P 0) (h1 : P 1) : ∀ i, i < 2 → P i
  | 0, _ => h0
  | 1, _ => h1
  | i + 2, h => absurd h (by omega)
end Go.Proofs.YteklnpgiloebcaaDoor.V

namespace Go.Proofs.YteklnpgiloebcaaDoor.V
set_option linter.unusedVariables false
set_option linter.unusedSimpArgs false
open Go Go.Proofs Go.RowKit
set_option maxRecDepth 100000
set_option maxHeartbeats 1000000
def awNm : List ByteArray := [⟨#[65]⟩, ⟨#[66]⟩, ⟨#[67]⟩]
def awR0 : Rd := ⟨true, bs [], [0]⟩
def awR1 : Rd := ⟨false, bs [99], [1, 2]⟩
def awEn : En := ⟨1, [awR0, awR1]⟩
/-- "c", "c B", "c B C". -/
def awS : Nat → ByteArray
  | 0 => ⟨#[99]⟩
  | 1 => ⟨#[99, 32, 66]⟩
  | _ => ⟨#[99, 32, 66, 32, 67]⟩
/-- The line: 1 - ] c B C. -/
def awLn : ByteArray := ⟨#[49, 32, 45, 32, 93, 32, 99, 32, 66, 32, 67, 10]⟩
theorem form_aw1 : Fn Tryd.prog 27 [.agg 3 (tRd.enc awR1)] (.str (awS 0)) := form1_fn false [99] [1, 2] (fun _ h => by cases h) (one0 (by decide)) (by decide)
theorem form_aw0 : Fn Tryd.prog 27 [.agg 3 (tRd.enc awR0)] (.str dashB) := form1_fn true [] [0] (fun h => by cases h) (fun i hi => absurd hi (Nat.not_lt_zero _)) (by decide)
theorem rdA_le (r : Rd) {g : Nat → AV} (h0 : Le (g 0) (.bool r.none)) (h1 : Le (g 1) (.str r.text)) (h2 : Le (g 2) (tI.L r.wits)) : Le (.agg 3 g) (.agg 3 (tRd.enc r)) := Le.agg fun j hj => by
  match j, hj with
  | 0, _ => exact h0
  | 1, _ => exact h1
  | 2, _ => exact h2
theorem line_aw : Fn Tryd.prog 15 [.agg 2 (tEn.enc awEn), tS.L awNm] (.str awLn) := by
  refine Fn.of Tryd.f15 _ Tryd.func15 rfl (by decide) (by show 2 ≤ _; decide) tbOk 56 rfl fun S w0 gl => ?_
  have hl : awEn.rds.length = 2 := rfl
  refine Run.go ?_; (conv => whnf); repeat' (first | ((with_reducible refine Know.mk fun _ => ?_); conv => whnf) | ((with_reducible refine Need.mk ?_ ?_); exact nd; conv => whnf) | ((with_reducible first | refine Both.mk ?_ ?_ | refine Any.mk fun b hb => ?_ | refine AskB.dec (fun hb => ?_) (fun hb => ?_) | refine AskB.ndec (fun hb => ?_) (fun hb => ?_) | refine AskB.mk (fun hb => ?_) (fun hb => ?_)) <;> conv => whnf) | ((with_reducible first | refine Run.drawX rfl (by decide +kernel) ?_ | refine Run.drawT rfl (by decide +kernel) ?_ | refine Run.drawW rfl (by decide +kernel) ?_); conv => whnf) | fail)
  refine Run.holdNil 5 1000 9 1 (fun _ _ => .u) rfl ?_
  refine Run.loop [1, 13, 14] (fun (k : Nat) => [(2, .box 2 0), (5, .row 1000), (15, .int .i64 (k : Int))]) (fun k => [(2, .box 45 [.int .i64 1, tRd.L [awR0, awR1]]), (1000, tS.R 9 (if k = 0 then [] else [awS 2]))]) (fun k => k ≤ 1) (fun k => 1 - k) 0 (Nat.zero_le _) ⟨Le.refl _, Le.refl _, Le.refl _, trivial⟩ ⟨MOle.refl _, ⟨rfl, rfl, rfl, fun i j hi => absurd hi (Nat.not_lt_zero _)⟩, trivial⟩ ?_
  intro k hk IH
  have hk01 : k = 0 ∨ k = 1 := by omega
  rcases hk01 with rfl | rfl
  · have IH := IH 1 (by omega) (by omega)
    show Run _ _ (lst (_ ++ [(2, .box 2 0), (5, .row 1000), (15, .int .i64 ((0 : Nat) : Int))])) (lstH [(2, .box 45 [.int .i64 1, tRd.L [awR0, awR1]]), (1000, tS.R 9 [])])
    refine Run.go ?_; (conv => whnf); repeat' (first | ((with_reducible refine Know.mk fun _ => ?_); conv => whnf) | ((with_reducible refine Need.mk ?_ ?_); exact nd; conv => whnf) | ((with_reducible first | refine Both.mk ?_ ?_ | refine Any.mk fun b hb => ?_ | refine AskB.dec (fun hb => ?_) (fun hb => ?_) | refine AskB.ndec (fun hb => ?_) (fun hb => ?_) | refine AskB.mk (fun hb => ?_) (fun hb => ?_)) <;> conv => whnf) | ((with_reducible first | refine Run.drawX rfl (by decide +kernel) ?_ | refine Run.drawT rfl (by decide +kernel) ?_ | refine Run.drawW rfl (by decide +kernel) ?_); conv => whnf) | fail)
    all_goals try (exact absurd (by decide) hb)
    refine Run.callBX form_aw1 rfl rfl ⟨rdA_le awR1 (Le.refl _) (Le.refl _) (Le.refl _), trivial⟩ rfl rfl rfl ?_
    (conv => whnf); repeat' (first | ((with_reducible refine Know.mk fun _ => ?_); conv => whnf) | ((with_reducible refine Need.mk ?_ ?_); exact nd; conv => whnf) | ((with_reducible first | refine Both.mk ?_ ?_ | refine Any.mk fun b hb => ?_ | refine AskB.dec (fun hb => ?_) (fun hb => ?_) | refine AskB.ndec (fun hb => ?_) (fun hb => ?_) | refine AskB.mk (fun hb => ?_) (fun hb => ?_)) <;> conv => whnf) | ((with_reducible first | refine Run.drawX rfl (by decide +kernel) ?_ | refine Run.drawT rfl (by decide +kernel) ?_ | refine Run.drawW rfl (by decide +kernel) ?_); conv => whnf) | fail)
    refine Run.loop [1, 13, 14, 15, 22, 23] (fun (j : Nat) => [(2, .box 2 0), (5, .row 1000), (8, .str (awS j)), (24, .int .i64 (j : Int))]) (fun j => [(2, .box 45 [.int .i64 1, tRd.L [awR0, awR1]]), (1000, tS.R 9 [])]) (fun j => j ≤ 2) (fun j => 2 - j) 0 (Nat.zero_le _) ⟨Le.refl _, Le.refl _, Le.refl _, Le.refl _, trivial⟩ ⟨MOle.refl _, MOle.refl _, trivial⟩ ?_
    intro j hj IHj
    have hj012 : j = 0 ∨ j = 1 ∨ j = 2 := by omega
    rcases hj012 with rfl | rfl | rfl
    · have IHj := IHj 1 (by omega) (by omega)
      refine Run.go ?_; (conv => whnf); repeat' (first | ((with_reducible refine Know.mk fun _ => ?_); conv => whnf) | ((with_reducible refine Need.mk ?_ ?_); exact nd; conv => whnf) | ((with_reducible first | refine Both.mk ?_ ?_ | refine Any.mk fun b hb => ?_ | refine AskB.dec (fun hb => ?_) (fun hb => ?_) | refine AskB.ndec (fun hb => ?_) (fun hb => ?_) | refine AskB.mk (fun hb => ?_) (fun hb => ?_)) <;> conv => whnf) | ((with_reducible first | refine Run.drawX rfl (by decide +kernel) ?_ | refine Run.drawT rfl (by decide +kernel) ?_ | refine Run.drawW rfl (by decide +kernel) ?_); conv => whnf) | fail)
      all_goals try (exact absurd (by decide) hb)
      refine Run.to _ _ ?_ ?_ IHj
      · exact ⟨Le.refl _, Le.refl _, Le.refl _, Le.refl _, Le.refl _, Le.refl _, Le.refl _, Le.refl _, Le.str (by decide +kernel), Le.int (by decide), trivial⟩
      · exact ⟨MOle.refl _, MOle.refl _, trivial⟩
    · have IHj := IHj 2 (by omega) (by omega)
      refine Run.go ?_; (conv => whnf); repeat' (first | ((with_reducible refine Know.mk fun _ => ?_); conv => whnf) | ((with_reducible refine Need.mk ?_ ?_); exact nd; conv => whnf) | ((with_reducible first | refine Both.mk ?_ ?_ | refine Any.mk fun b hb => ?_ | refine AskB.dec (fun hb => ?_) (fun hb => ?_) | refine AskB.ndec (fun hb => ?_) (fun hb => ?_) | refine AskB.mk (fun hb => ?_) (fun hb => ?_)) <;> conv => whnf) | ((with_reducible first | refine Run.drawX rfl (by decide +kernel) ?_ | refine Run.drawT rfl (by decide +kernel) ?_ | refine Run.drawW rfl (by decide +kernel) ?_); conv => whnf) | fail)
      all_goals try (exact absurd (by decide) hb)
      refine Run.to _ _ ?_ ?_ IHj
      · exact ⟨Le.refl _, Le.refl _, Le.refl _, Le.refl _, Le.refl _, Le.refl _, Le.refl _, Le.refl _, Le.str (by decide +kernel), Le.int (by decide), trivial⟩
      · exact ⟨MOle.refl _, MOle.refl _, trivial⟩
    · have hl0 : ([] : List ByteArray).length = 0 := rfl
      refine Run.go ?_; (conv => whnf); repeat' (first | ((with_reducible refine Know.mk fun _ => ?_); conv => whnf) | ((with_reducible refine Need.mk ?_ ?_); exact nd; conv => whnf) | ((with_reducible first | refine Both.mk ?_ ?_ | refine Any.mk fun b hb => ?_ | refine AskB.dec (fun hb => ?_) (fun hb => ?_) | refine AskB.ndec (fun hb => ?_) (fun hb => ?_) | refine AskB.mk (fun hb => ?_) (fun hb => ?_)) <;> conv => whnf) | ((with_reducible first | refine Run.drawX rfl (by decide +kernel) ?_ | refine Run.drawT rfl (by decide +kernel) ?_ | refine Run.drawW rfl (by decide +kernel) ?_); conv => whnf) | fail)
      all_goals try (exact absurd hb (by decide))
      refine Run.hold (z := 39) 5 1000 (by rfl) (by rfl) (by rfl) ?_
      refine Run.to _ _ ?_ ?_ IH
      · exact ⟨Le.refl _, Le.refl _, Le.refl _, Le.refl _, Le.refl _, Le.int (by decide), trivial⟩
      · exact ⟨MOle.refl _, tS.push 9 [] (awS 2) _ (one0 (Le.refl _)), trivial⟩
  · show Run _ _ (lst (_ ++ [(2, .box 2 0), (5, .row 1000), (15, .int .i64 ((1 : Nat) : Int))])) (lstH [(2, .box 45 [.int .i64 1, tRd.L [awR0, awR1]]), (1000, tS.R 9 [awS 2])])
    refine Run.go ?_; (conv => whnf); repeat' (first | ((with_reducible refine Know.mk fun _ => ?_); conv => whnf) | ((with_reducible refine Need.mk ?_ ?_); exact nd; conv => whnf) | ((with_reducible first | refine Both.mk ?_ ?_ | refine Any.mk fun b hb => ?_ | refine AskB.dec (fun hb => ?_) (fun hb => ?_) | refine AskB.ndec (fun hb => ?_) (fun hb => ?_) | refine AskB.mk (fun hb => ?_) (fun hb => ?_)) <;> conv => whnf) | ((with_reducible first | refine Run.drawX rfl (by decide +kernel) ?_ | refine Run.drawT rfl (by decide +kernel) ?_ | refine Run.drawW rfl (by decide +kernel) ?_); conv => whnf) | fail)
    all_goals try (exact absurd hb (by decide))
    refine CallQ.flat itoa1_fn rfl ⟨Le.refl _, trivial⟩ rfl ?_
    (conv => whnf); repeat' (first | ((with_reducible refine Know.mk fun _ => ?_); conv => whnf) | ((with_reducible refine Need.mk ?_ ?_); exact nd; conv => whnf) | ((with_reducible first | refine Both.mk ?_ ?_ | refine Any.mk fun b hb => ?_ | refine AskB.dec (fun hb => ?_) (fun hb => ?_) | refine AskB.ndec (fun hb => ?_) (fun hb => ?_) | refine AskB.mk (fun hb => ?_) (fun hb => ?_)) <;> conv => whnf) | ((with_reducible first | refine Run.drawX rfl (by decide +kernel) ?_ | refine Run.drawT rfl (by decide +kernel) ?_ | refine Run.drawW rfl (by decide +kernel) ?_); conv => whnf) | fail)
    refine CallQ.flat form_aw0 rfl ⟨rdA_le awR0 (Le.refl _) (Le.refl _) (Le.refl _), trivial⟩ rfl ?_
    (conv => whnf); repeat' (first | ((with_reducible refine Know.mk fun _ => ?_); conv => whnf) | ((with_reducible refine Need.mk ?_ ?_); exact nd; conv => whnf) | ((with_reducible first | refine Both.mk ?_ ?_ | refine Any.mk fun b hb => ?_ | refine AskB.dec (fun hb => ?_) (fun hb => ?_) | refine AskB.ndec (fun hb => ?_) (fun hb => ?_) | refine AskB.mk (fun hb => ?_) (fun hb => ?_)) <;> conv => whnf) | ((with_reducible first | refine Run.drawX rfl (by decide +kernel) ?_ | refine Run.drawT rfl (by decide +kernel) ?_ | refine Run.drawW rfl (by decide +kernel) ?_); conv => whnf) | fail)
    refine CallQ.flat (join1_fn (awS 2) _) rfl ⟨Le.refl _, Le.refl _, trivial⟩ rfl ?_
    (conv => whnf); repeat' (first | ((with_reducible refine Know.mk fun _ => ?_); conv => whnf) | ((with_reducible refine Need.mk ?_ ?_); exact nd; conv => whnf) | ((with_reducible first | refine Both.mk ?_ ?_ | refine Any.mk fun b hb => ?_ | refine AskB.dec (fun hb => ?_) (fun hb => ?_) | refine AskB.ndec (fun hb => ?_) (fun hb => ?_) | refine AskB.mk (fun hb => ?_) (fun hb => ?_)) <;> conv => whnf) | ((with_reducible first | refine Run.drawX rfl (by decide +kernel) ?_ | refine Run.drawT rfl (by decide +kernel) ?_ | refine Run.drawW rfl (by decide +kernel) ?_); conv => whnf) | fail)
    exact Run.leave (ts := [4]) (.inr ⟨_, rfl⟩) rfl Tryd.func15 rfl (Le.str (by decide +kernel))
theorem nm_ok {names : List ByteArray} (h1 : 1 ≤ names.length) (h2 : names.length ≤ 12) (h3 : ∀ i, i < names.length → NameOk (names.getD i .empty) ∧ ∀ k, k < i → names.getD k .empty ≠ names.getD i .empty) : nmOk names = true := by
  have hl : (nmTab names).wits.length = names.length := by simp [nmTab]
  have hw : ∀ i, i < names.length → witAt (nmTab names) i = nmWit (names.getD i .empty) := fun i hi => by
    unfold witAt nmTab
    simp [List.getD, hi]
  unfold nmOk
  refine decide_eq_true (chk_ok ⟨by omega, by omega, by simp [nmTab], fun i hi => ?_, fun c hc => absurd hc (by simp [nmTab]), fun i hi => ?_⟩)
  · obtain ⟨a, b⟩ := h3 i (by omega)
    unfold WitOk
    rw [hw i (by omega)]
    refine ⟨a, awRight0, fun k hk => ?_⟩
    rw [hw k (by omega)]
    exact b k hk
  · rw [hw i (by omega)]; rfl
theorem awNm_ok : nmOk awNm = true := nm_ok (by decide) (by decide) (fun i hi => by
  have : i = 0 ∨ i = 1 ∨ i = 2 := by have : awNm.length = 3 := rfl; omega
  rcases this with rfl | rfl | rfl
  · exact ⟨by decide +kernel, fun k hk => absurd hk (Nat.not_lt_zero _)⟩
  · exact ⟨by decide +kernel, one0 (by decide +kernel)⟩
  · exact ⟨by decide +kernel, two (by decide +kernel) (by decide +kernel)⟩)
theorem awEn_good : Good 3 3 [awEn] := by
  refine ⟨fun e he => ?_, by simp⟩
  simp only [List.mem_singleton] at he
  subst he
  refine ⟨by decide, by decide, ⟨fun r hr => ?_, by decide, by simp [awEn, awR0, awR1, bs]⟩, by decide, by decide⟩
  simp only [awEn, List.mem_cons, List.not_mem_nil, or_false] at hr
  rcases hr with rfl | rfl
  · exact ⟨by simp [awR0], by simp [awR0, bs], by simp [awR0], by simp [awR0]⟩
  · exact ⟨by simp [awR1], by simp [awR1, bs], by simp [awR1], by simp [awR1]⟩
theorem awEn_chk : chk [awEn] 3 3 = 0 := by
  unfold chk
  rw [if_neg (by omega), if_pos awEn_good]
end Go.Proofs.YteklnpgiloebcaaDoor.V

namespace Go.Proofs.YteklnpgiloebcaaDoor.V
set_option linter.unusedVariables false
set_option linter.unusedSimpArgs false
open Go Go.Proofs Go.RowKit
set_option maxRecDepth 100000
set_option maxHeartbeats 1000000
theorem ws9 {N : Nat} {w0 : World} {S : Nat → Prop} {gl : GlobOk S w0} {f : FuncId} {R : Ending → World → Prop} {ops : Array Oper} {i : Nat} {rest : List Nat} {k : List Item} {env : Env} {h : Heap} {o : Oper} {x y : Operand}
    (p : AV) (t s : ByteArray) (ho : ops.toList[i]? = some o) (hc : calls? o = some (14, [x, y])) (hd : okD N o.dst = true) (hr : ready env ops o = true) (hx : ev (scrubE 900 env) x = .box 9 0) (hy : ev (scrubE 900 env) y = .str s)
    (hs : t.size + s.size ≤ 140737488355328) (hp : p = .nilp ∨ p = .box 9 0)
    (next : Run ⟨Tryd.prog, TB, tbOk, N, w0, S, gl, f, R⟩ (.inRegion ops rest :: k) (putE (envW 90 env) o.dst .u) (bldr 50 5 9 90 (heapW 90 h) (.box 9 0) (t ++ s))) :
    Run ⟨Tryd.prog, TB, tbOk, N, w0, S, gl, f, R⟩ (.inRegion ops (i :: rest) :: k) env (bldr 50 5 9 90 h p t) := by
  refine Run.inline 900 Tryd.f14 _ 19 ho hc Tryd.func14 rfl (by decide) rfl (by show 2 ≤ 19; decide) hd hr (fun a hsz hdf => ?_)
  simp only [List.map, hx, hy]
  have fin : ∀ (E : Env) (H : Heap) (X : AV), (∀ i, E i = scrub 14 (scrub 901 (scrub 900 (env i)))) → (∀ id, Nat.beq id 9 = false → Nat.beq id 90 = false → Nat.beq id 14 = false → Nat.beq id 901 = false → Nat.beq id 900 = false → H id = scrubM 90 (scrubM 14 (scrubM 901 (scrubM 900 (h id))))) →
      MOle (H 9) (.box 50 [.box 9 0, .row 90]) → MOle (H 90) (.row 5 1 (t ++ s).size (bytesG (t ++ s))) → Run ⟨Tryd.prog, TB, tbOk, N, w0, S, gl, f, R⟩ (.inRegion ops rest :: k) (scrubE 90 (putE E o.dst X)) H := by
    intro E H X hE hH h5 h90
    refine Run.weaken (fun i => ?_) (fun id => ?_) next
    · cases hdst : o.dst with
      | none => show Le (scrub 90 (E i)) _; rw [hE]; exact Le.refl _
      | some d =>
        show Le (scrub 90 (upd E d X i)) (upd (envW 90 env) d .u i)
        by_cases e : i = d
        · subst e; rw [upd_same, upd_same]; exact Le.u _
        · rw [upd_other _ _ e, upd_other _ _ e, hE]; exact Le.refl _
    · unfold bldr heapW
      cases e5 : Nat.beq id 9 with
      | true => have := Nat.eq_of_beq_eq_true e5; subst this; exact h5
      | false =>
      cases e90 : Nat.beq id 90 with
      | true => have := Nat.eq_of_beq_eq_true e90; subst this; exact h90
      | false =>
      cases e900 : Nat.beq id 900 with
      | true => simp only [upd, e5, e90, e900, cond_true, cond_false]; exact mole_dead _
      | false =>
      cases e901 : Nat.beq id 901 with
      | true => simp only [upd, e5, e90, e900, e901, cond_true, cond_false]; exact mole_dead _
      | false =>
      cases e14 : Nat.beq id 14 with
      | true => simp only [upd, e5, e90, e900, e901, e14, cond_true, cond_false]; exact mole_dead _
      | false =>
        rw [hH id e5 e90 e14 e901 e900]
        simp only [upd, e5, e90, e900, e901, e14, cond_true, cond_false]
        exact MOle.refl _
  rcases hp with rfl | rfl
  · refine Run.go ?_; (conv => whnf); repeat' (first | ((with_reducible refine Know.mk fun _ => ?_); conv => whnf) | ((with_reducible refine Need.mk ?_ ?_); exact nd; conv => whnf) | ((with_reducible first | refine Both.mk ?_ ?_ | refine Any.mk fun b hb => ?_ | refine AskB.dec (fun hb => ?_) (fun hb => ?_) | refine AskB.ndec (fun hb => ?_) (fun hb => ?_) | refine AskB.mk (fun hb => ?_) (fun hb => ?_)) <;> conv => whnf) | ((with_reducible first | refine Run.drawX rfl (by decide +kernel) ?_ | refine Run.drawT rfl (by decide +kernel) ?_ | refine Run.drawW rfl (by decide +kernel) ?_); conv => whnf) | fail)
    refine Run.inline 901 Tryd.f26 _ 20 rfl rfl Tryd.func26 rfl (by decide) rfl (by decide) rfl rfl (fun a2 hsz2 hdf2 => ?_)
    refine Run.go ?_; (conv => whnf); repeat' (first | ((with_reducible refine Know.mk fun _ => ?_); conv => whnf) | ((with_reducible refine Need.mk ?_ ?_); exact nd; conv => whnf) | ((with_reducible first | refine Both.mk ?_ ?_ | refine Any.mk fun b hb => ?_ | refine AskB.dec (fun hb => ?_) (fun hb => ?_) | refine AskB.ndec (fun hb => ?_) (fun hb => ?_) | refine AskB.mk (fun hb => ?_) (fun hb => ?_)) <;> conv => whnf) | ((with_reducible first | refine Run.drawX rfl (by decide +kernel) ?_ | refine Run.drawT rfl (by decide +kernel) ?_ | refine Run.drawW rfl (by decide +kernel) ?_); conv => whnf) | fail)
    refine Run.toUnsafe (id := 9) (l := [.nilp, .row 90]) (e := 50) (t := 50) (src := 47) (dst := 86) (x := .tmp 8) rfl rfl rfl rfl rfl rfl (by decide) (by kernel_rfl) (by kernel_rfl) (j := (Tryd.prog.info? 50).get (by kernel_rfl)) (by kernel_rfl) (by decide +kernel) ?_
    refine Run.noEscape (f := 41) (x := .tmp 9) rfl rfl rfl rfl Tryd.func41 (by kernel_rfl) (by kernel_rfl) (by kernel_rfl) (by kernel_rfl) ?_
    refine Run.fromUnsafe (id := 9) (l := [.nilp, .row 90]) (e := 50) (u := 50) (src := 86) (dst := 47) (x := .tmp 10) rfl rfl rfl rfl rfl rfl (by kernel_rfl) (by kernel_rfl) (j := (Tryd.prog.info? 50).get (by kernel_rfl)) (by kernel_rfl) (by kernel_rfl) ?_
    refine Run.go ?_; (conv => whnf); repeat' (first | ((with_reducible refine Know.mk fun _ => ?_); conv => whnf) | ((with_reducible refine Need.mk ?_ ?_); exact nd; conv => whnf) | ((with_reducible first | refine Both.mk ?_ ?_ | refine Any.mk fun b hb => ?_ | refine AskB.dec (fun hb => ?_) (fun hb => ?_) | refine AskB.ndec (fun hb => ?_) (fun hb => ?_) | refine AskB.mk (fun hb => ?_) (fun hb => ?_)) <;> conv => whnf) | ((with_reducible first | refine Run.drawX rfl (by decide +kernel) ?_ | refine Run.drawT rfl (by decide +kernel) ?_ | refine Run.drawW rfl (by decide +kernel) ?_); conv => whnf) | fail)
    refine Run.back 901 (ts := []) hsz2 hdf2 (.inl rfl) (by rfl) Tryd.func26 rfl ?_
    refine Run.go ?_; (conv => whnf); repeat' (first | ((with_reducible refine Know.mk fun _ => ?_); conv => whnf) | ((with_reducible refine Need.mk ?_ ?_); exact nd; conv => whnf) | ((with_reducible first | refine Both.mk ?_ ?_ | refine Any.mk fun b hb => ?_ | refine AskB.dec (fun hb => ?_) (fun hb => ?_) | refine AskB.ndec (fun hb => ?_) (fun hb => ?_) | refine AskB.mk (fun hb => ?_) (fun hb => ?_)) <;> conv => whnf) | ((with_reducible first | refine Run.drawX rfl (by decide +kernel) ?_ | refine Run.drawT rfl (by decide +kernel) ?_ | refine Run.drawW rfl (by decide +kernel) ?_); conv => whnf) | fail)
    refine Run.back 900 (ts := [4, 5]) hsz hdf (.inr ⟨_, rfl⟩) (by rfl) Tryd.func14 rfl ?_
    refine Run.holdBoxRow 9 1 90 14 (by rfl) (by rfl) (by rfl) rfl rfl rfl ?_
    refine fin _ _ _ (fun i => rfl) (fun id e5 e90 e14 e901 e900 => ?_) (MOle.refl _) (bytesG_join 5 t s)
    simp only [upd, scrubH, scrubM, bldr, e5, e90, e14, e901, e900, cond_false]
  · refine Run.go ?_; (conv => whnf); repeat' (first | ((with_reducible refine Know.mk fun _ => ?_); conv => whnf) | ((with_reducible refine Need.mk ?_ ?_); exact nd; conv => whnf) | ((with_reducible first | refine Both.mk ?_ ?_ | refine Any.mk fun b hb => ?_ | refine AskB.dec (fun hb => ?_) (fun hb => ?_) | refine AskB.ndec (fun hb => ?_) (fun hb => ?_) | refine AskB.mk (fun hb => ?_) (fun hb => ?_)) <;> conv => whnf) | ((with_reducible first | refine Run.drawX rfl (by decide +kernel) ?_ | refine Run.drawT rfl (by decide +kernel) ?_ | refine Run.drawW rfl (by decide +kernel) ?_); conv => whnf) | fail)
    refine Run.inline 901 Tryd.f26 _ 20 rfl rfl Tryd.func26 rfl (by decide) rfl (by decide) rfl rfl (fun a2 hsz2 hdf2 => ?_)
    refine Run.go ?_; (conv => whnf); repeat' (first | ((with_reducible refine Know.mk fun _ => ?_); conv => whnf) | ((with_reducible refine Need.mk ?_ ?_); exact nd; conv => whnf) | ((with_reducible first | refine Both.mk ?_ ?_ | refine Any.mk fun b hb => ?_ | refine AskB.dec (fun hb => ?_) (fun hb => ?_) | refine AskB.ndec (fun hb => ?_) (fun hb => ?_) | refine AskB.mk (fun hb => ?_) (fun hb => ?_)) <;> conv => whnf) | ((with_reducible first | refine Run.drawX rfl (by decide +kernel) ?_ | refine Run.drawT rfl (by decide +kernel) ?_ | refine Run.drawW rfl (by decide +kernel) ?_); conv => whnf) | fail)
    refine Run.back 901 (ts := []) hsz2 hdf2 (.inl rfl) (by rfl) Tryd.func26 rfl ?_
    refine Run.go ?_; (conv => whnf); repeat' (first | ((with_reducible refine Know.mk fun _ => ?_); conv => whnf) | ((with_reducible refine Need.mk ?_ ?_); exact nd; conv => whnf) | ((with_reducible first | refine Both.mk ?_ ?_ | refine Any.mk fun b hb => ?_ | refine AskB.dec (fun hb => ?_) (fun hb => ?_) | refine AskB.ndec (fun hb => ?_) (fun hb => ?_) | refine AskB.mk (fun hb => ?_) (fun hb => ?_)) <;> conv => whnf) | ((with_reducible first | refine Run.drawX rfl (by decide +kernel) ?_ | refine Run.drawT rfl (by decide +kernel) ?_ | refine Run.drawW rfl (by decide +kernel) ?_); conv => whnf) | fail)
    refine Run.back 900 (ts := [4, 5]) hsz hdf (.inr ⟨_, rfl⟩) (by rfl) Tryd.func14 rfl ?_
    refine Run.holdBoxRow 9 1 90 14 (by rfl) (by rfl) (by rfl) rfl rfl rfl ?_
    refine fin _ _ _ (fun i => rfl) (fun id e5 e90 e14 e901 e900 => ?_) (MOle.refl _) (bytesG_join 5 t s)
    simp only [upd, scrubH, scrubM, bldr, e5, e90, e14, e901, e900, cond_false]

theorem bs9 {N : Nat} {w0 : World} {S : Nat → Prop} {gl : GlobOk S w0} {f : FuncId} {R : Ending → World → Prop} {ops : Array Oper} {i : Nat} {rest : List Nat} {k : List Item} {env : Env} {h : Heap} {o : Oper} {x : Operand}
    (p : AV) (t : ByteArray) (ho : ops.toList[i]? = some o) (hc : calls? o = some (17, [x])) (hd : okD N o.dst = true) (hr : ready env ops o = true) (hx : ev (scrubE 900 env) x = .box 9 0)
    (next : Run ⟨Tryd.prog, TB, tbOk, N, w0, S, gl, f, R⟩ (.inRegion ops rest :: k) (putE (scrubE 900 env) o.dst (.str t)) (upd (upd (upd (scrubH 900 h) 900 .dead) 9 .dead) 90 .dead)) :
    Run ⟨Tryd.prog, TB, tbOk, N, w0, S, gl, f, R⟩ (.inRegion ops (i :: rest) :: k) env (bldr 50 5 9 90 h p t) := by
  refine Run.inline 900 Tryd.f17 _ 14 ho hc Tryd.func17 rfl (by decide) rfl (by show 1 ≤ 14; decide) hd hr (fun a hsz hdf => ?_)
  simp only [List.map, hx]
  have fin : ∀ (H : Heap), (∀ id, Nat.beq id 9 = false → Nat.beq id 90 = false → Nat.beq id 900 = false → H id = scrubM 900 (h id)) →
      Run ⟨Tryd.prog, TB, tbOk, N, w0, S, gl, f, R⟩ (.inRegion ops rest :: k) (putE (scrubE 900 env) o.dst (.str t)) H := by
    intro H hH
    refine Run.weaken (fun i => Le.refl _) (fun id => ?_) next
    cases e5 : Nat.beq id 9 with
    | true => simp only [upd, e5, cond_true, cond_false]; cases Nat.beq id 90 <;> exact mole_dead _
    | false =>
    cases e90 : Nat.beq id 90 with
    | true => simp only [upd, e5, e90, cond_true, cond_false]; exact mole_dead _
    | false =>
    cases e900 : Nat.beq id 900 with
    | true => simp only [upd, e5, e90, e900, cond_true, cond_false]; exact mole_dead _
    | false =>
      rw [hH id e5 e90 e900]
      simp only [upd, e5, e90, e900, cond_true, cond_false]
      exact MOle.refl _
  refine Run.go ?_; (conv => whnf); repeat' (first | ((with_reducible refine Know.mk fun _ => ?_); conv => whnf) | ((with_reducible refine Need.mk ?_ ?_); exact nd; conv => whnf) | ((with_reducible first | refine Both.mk ?_ ?_ | refine Any.mk fun b hb => ?_ | refine AskB.dec (fun hb => ?_) (fun hb => ?_) | refine AskB.ndec (fun hb => ?_) (fun hb => ?_) | refine AskB.mk (fun hb => ?_) (fun hb => ?_)) <;> conv => whnf) | ((with_reducible first | refine Run.drawX rfl (by decide +kernel) ?_ | refine Run.drawT rfl (by decide +kernel) ?_ | refine Run.drawW rfl (by decide +kernel) ?_); conv => whnf) | fail)
  · refine Run.unsafeString0 (i := 10) (rest := [11]) (k := [.code .ret]) (x := .tmp 7) (y := .tmp 12) (c := ⟨.builtin .unsafeString, #[.tmp 7, .tmp 12], #[75, 3]⟩) rfl rfl rfl rfl rfl rfl rfl (.inl rfl) (by show AV.int .i64 (t.size : Int) = _; rw [hb]; rfl) ?_
    have ht : t = .empty := by simpa using hb
    refine Run.go ?_; (conv => whnf); repeat' (first | ((with_reducible refine Know.mk fun _ => ?_); conv => whnf) | ((with_reducible refine Need.mk ?_ ?_); exact nd; conv => whnf) | ((with_reducible first | refine Both.mk ?_ ?_ | refine Any.mk fun b hb => ?_ | refine AskB.dec (fun hb => ?_) (fun hb => ?_) | refine AskB.ndec (fun hb => ?_) (fun hb => ?_) | refine AskB.mk (fun hb => ?_) (fun hb => ?_)) <;> conv => whnf) | ((with_reducible first | refine Run.drawX rfl (by decide +kernel) ?_ | refine Run.drawT rfl (by decide +kernel) ?_ | refine Run.drawW rfl (by decide +kernel) ?_); conv => whnf) | fail)
    refine Run.back 900 (ts := [2]) hsz hdf (.inr ⟨_, rfl⟩) (by rfl) Tryd.func17 rfl ?_
    rw [ht] at fin next ⊢
    exact fin _ (fun id e5 e90 e900 => by simp only [upd, scrubH, bldr, e5, e90, e900, cond_false])
  · refine Run.unsafeString (i := 10) (rest := [11]) (k := [.code .ret]) (x := .tmp 7) (y := .tmp 12) (c := ⟨.builtin .unsafeString, #[.tmp 7, .tmp 12], #[75, 3]⟩) t rfl rfl rfl rfl rfl rfl rfl rfl rfl (e := 5) (n := t.size) (q := 90) (get := bytesG t) rfl rfl hb (fun _ _ => rfl) (by kernel_rfl) (by kernel_rfl) ?_
    refine Run.go ?_; (conv => whnf); repeat' (first | ((with_reducible refine Know.mk fun _ => ?_); conv => whnf) | ((with_reducible refine Need.mk ?_ ?_); exact nd; conv => whnf) | ((with_reducible first | refine Both.mk ?_ ?_ | refine Any.mk fun b hb => ?_ | refine AskB.dec (fun hb => ?_) (fun hb => ?_) | refine AskB.ndec (fun hb => ?_) (fun hb => ?_) | refine AskB.mk (fun hb => ?_) (fun hb => ?_)) <;> conv => whnf) | ((with_reducible first | refine Run.drawX rfl (by decide +kernel) ?_ | refine Run.drawT rfl (by decide +kernel) ?_ | refine Run.drawW rfl (by decide +kernel) ?_); conv => whnf) | fail)
    refine Run.back 900 (ts := [2]) hsz hdf (.inr ⟨_, rfl⟩) (by rfl) Tryd.func17 rfl ?_
    exact fin _ (fun id e5 e90 e900 => by simp only [upd, scrubH, bldr, e5, e90, e900, cond_false])
theorem print_aw : Fn Tryd.prog 7 [tEn.L [awEn], tS.L awNm, .int .i64 3] (tupL [.str awLn, .int .i64 0]) := by
  refine Fn.of Tryd.f7 _ Tryd.func7 rfl (by decide) (by show 3 ≤ _; decide) tbOk 37 rfl fun S w0 gl => ?_
  refine Run.go ?_; (conv => whnf); repeat' (first | ((with_reducible refine Know.mk fun _ => ?_); conv => whnf) | ((with_reducible refine Need.mk ?_ ?_); exact nd; conv => whnf) | ((with_reducible first | refine Both.mk ?_ ?_ | refine Any.mk fun b hb => ?_ | refine AskB.dec (fun hb => ?_) (fun hb => ?_) | refine AskB.ndec (fun hb => ?_) (fun hb => ?_) | refine AskB.mk (fun hb => ?_) (fun hb => ?_)) <;> conv => whnf) | ((with_reducible first | refine Run.drawX rfl (by decide +kernel) ?_ | refine Run.drawT rfl (by decide +kernel) ?_ | refine Run.drawW rfl (by decide +kernel) ?_); conv => whnf) | fail)
  refine Run.callBX (named17_fn awNm (by decide) (fun s hs => ?_)) rfl rfl ⟨Le.refl _, trivial⟩ rfl rfl rfl ?_
  · simp only [awNm, List.mem_cons, List.not_mem_nil, or_false] at hs
    rcases hs with rfl | rfl | rfl <;> decide
  rw [awNm_ok]
  (conv => whnf); repeat' (first | ((with_reducible refine Know.mk fun _ => ?_); conv => whnf) | ((with_reducible refine Need.mk ?_ ?_); exact nd; conv => whnf) | ((with_reducible first | refine Both.mk ?_ ?_ | refine Any.mk fun b hb => ?_ | refine AskB.dec (fun hb => ?_) (fun hb => ?_) | refine AskB.ndec (fun hb => ?_) (fun hb => ?_) | refine AskB.mk (fun hb => ?_) (fun hb => ?_)) <;> conv => whnf) | ((with_reducible first | refine Run.drawX rfl (by decide +kernel) ?_ | refine Run.drawT rfl (by decide +kernel) ?_ | refine Run.drawW rfl (by decide +kernel) ?_); conv => whnf) | fail)
  all_goals try (exact absurd hb (by decide))
  refine Run.callBX (appCheck_fn [awEn] 3 3) rfl rfl ⟨Le.refl _, Le.refl _, Le.refl _, trivial⟩ rfl rfl rfl ?_
  rw [awEn_chk]
  (conv => whnf); repeat' (first | ((with_reducible refine Know.mk fun _ => ?_); conv => whnf) | ((with_reducible refine Need.mk ?_ ?_); exact nd; conv => whnf) | ((with_reducible first | refine Both.mk ?_ ?_ | refine Any.mk fun b hb => ?_ | refine AskB.dec (fun hb => ?_) (fun hb => ?_) | refine AskB.ndec (fun hb => ?_) (fun hb => ?_) | refine AskB.mk (fun hb => ?_) (fun hb => ?_)) <;> conv => whnf) | ((with_reducible first | refine Run.drawX rfl (by decide +kernel) ?_ | refine Run.drawT rfl (by decide +kernel) ?_ | refine Run.drawW rfl (by decide +kernel) ?_); conv => whnf) | fail)
  all_goals try (exact absurd rfl hb)
  refine Run.holdBoxNil 9 1 90 5 1 (bytesG .empty) rfl rfl rfl rfl ?_
  refine Run.loop [1, 9, 23, 24] (fun (k : Nat) => [(25, .int .i64 (k : Int))]) (fun k => [(9, .box 50 [if k = 0 then .nilp else .box 9 0, .row 90]), (90, .row 5 1 (if k = 0 then ByteArray.empty else awLn).size (bytesG (if k = 0 then .empty else awLn)))]) (fun k => k ≤ 1) (fun k => 1 - k) 0 (Nat.zero_le _) ⟨Le.refl _, trivial⟩ ⟨MOle.refl _, MOle.refl _, trivial⟩ ?_
  intro k hk IH
  have hk01 : k = 0 ∨ k = 1 := by omega
  rcases hk01 with rfl | rfl
  · have IH := IH 1 (by omega) (by omega)
    show Run _ _ (lst (_ ++ [(25, .int .i64 ((0 : Nat) : Int))])) (lstH [(9, .box 50 [.nilp, .row 90]), (90, .row 5 1 ByteArray.empty.size (bytesG .empty))])
    refine Run.go ?_; (conv => whnf); repeat' (first | ((with_reducible refine Know.mk fun _ => ?_); conv => whnf) | ((with_reducible refine Need.mk ?_ ?_); exact nd; conv => whnf) | ((with_reducible first | refine Both.mk ?_ ?_ | refine Any.mk fun b hb => ?_ | refine AskB.dec (fun hb => ?_) (fun hb => ?_) | refine AskB.ndec (fun hb => ?_) (fun hb => ?_) | refine AskB.mk (fun hb => ?_) (fun hb => ?_)) <;> conv => whnf) | ((with_reducible first | refine Run.drawX rfl (by decide +kernel) ?_ | refine Run.drawT rfl (by decide +kernel) ?_ | refine Run.drawW rfl (by decide +kernel) ?_); conv => whnf) | fail)
    all_goals try (exact absurd (by decide) hb)
    refine Run.callBX line_aw rfl rfl ⟨?_, Le.refl _, trivial⟩ rfl rfl rfl ?_
    · exact Le.agg fun j hj => by
        match j, hj with
        | 0, _ => exact Le.refl _
        | 1, _ => exact Le.refl _
    (conv => whnf); repeat' (first | ((with_reducible refine Know.mk fun _ => ?_); conv => whnf) | ((with_reducible refine Need.mk ?_ ?_); exact nd; conv => whnf) | ((with_reducible first | refine Both.mk ?_ ?_ | refine Any.mk fun b hb => ?_ | refine AskB.dec (fun hb => ?_) (fun hb => ?_) | refine AskB.ndec (fun hb => ?_) (fun hb => ?_) | refine AskB.mk (fun hb => ?_) (fun hb => ?_)) <;> conv => whnf) | ((with_reducible first | refine Run.drawX rfl (by decide +kernel) ?_ | refine Run.drawT rfl (by decide +kernel) ?_ | refine Run.drawW rfl (by decide +kernel) ?_); conv => whnf) | fail)
    refine Run.bldr 50 5 9 90 .nilp .empty (MOle.refl _) (MOle.refl _) ?_
    refine ws9 .nilp .empty awLn rfl rfl rfl rfl rfl rfl (by decide) (.inl rfl) ?_
    refine Run.tidy [1, 9, 23, 24, 25] [9, 90] ?_; (conv => whnf)
    refine Run.go ?_; (conv => whnf); repeat' (first | ((with_reducible refine Know.mk fun _ => ?_); conv => whnf) | ((with_reducible refine Need.mk ?_ ?_); exact nd; conv => whnf) | ((with_reducible first | refine Both.mk ?_ ?_ | refine Any.mk fun b hb => ?_ | refine AskB.dec (fun hb => ?_) (fun hb => ?_) | refine AskB.ndec (fun hb => ?_) (fun hb => ?_) | refine AskB.mk (fun hb => ?_) (fun hb => ?_)) <;> conv => whnf) | ((with_reducible first | refine Run.drawX rfl (by decide +kernel) ?_ | refine Run.drawT rfl (by decide +kernel) ?_ | refine Run.drawW rfl (by decide +kernel) ?_); conv => whnf) | fail)
    refine Run.to _ _ ?_ ?_ IH
    · exact ⟨Le.refl _, Le.refl _, Le.refl _, Le.refl _, Le.int (by decide), trivial⟩
    · exact ⟨MOle.refl _, MOle.refl _, trivial⟩
  · show Run _ _ (lst (_ ++ [(25, .int .i64 ((1 : Nat) : Int))])) (lstH [(9, .box 50 [.box 9 0, .row 90]), (90, .row 5 1 awLn.size (bytesG awLn))])
    refine Run.go ?_; (conv => whnf); repeat' (first | ((with_reducible refine Know.mk fun _ => ?_); conv => whnf) | ((with_reducible refine Need.mk ?_ ?_); exact nd; conv => whnf) | ((with_reducible first | refine Both.mk ?_ ?_ | refine Any.mk fun b hb => ?_ | refine AskB.dec (fun hb => ?_) (fun hb => ?_) | refine AskB.ndec (fun hb => ?_) (fun hb => ?_) | refine AskB.mk (fun hb => ?_) (fun hb => ?_)) <;> conv => whnf) | ((with_reducible first | refine Run.drawX rfl (by decide +kernel) ?_ | refine Run.drawT rfl (by decide +kernel) ?_ | refine Run.drawW rfl (by decide +kernel) ?_); conv => whnf) | fail)
    all_goals try (exact absurd hb (by decide))
    refine Run.inline 900 Tryd.f16 _ 8 rfl rfl Tryd.func16 rfl (by decide) rfl (by show 1 ≤ 8; decide) rfl rfl (fun a hsz hdf => ?_)
    refine Run.go ?_; (conv => whnf); repeat' (first | ((with_reducible refine Know.mk fun _ => ?_); conv => whnf) | ((with_reducible refine Need.mk ?_ ?_); exact nd; conv => whnf) | ((with_reducible first | refine Both.mk ?_ ?_ | refine Any.mk fun b hb => ?_ | refine AskB.dec (fun hb => ?_) (fun hb => ?_) | refine AskB.ndec (fun hb => ?_) (fun hb => ?_) | refine AskB.mk (fun hb => ?_) (fun hb => ?_)) <;> conv => whnf) | ((with_reducible first | refine Run.drawX rfl (by decide +kernel) ?_ | refine Run.drawT rfl (by decide +kernel) ?_ | refine Run.drawW rfl (by decide +kernel) ?_); conv => whnf) | fail)
    refine Run.back 900 (ts := [2]) hsz hdf (.inr ⟨_, rfl⟩) (by rfl) Tryd.func16 rfl ?_
    have hlz : awLn.size = 12 := rfl
    refine Run.go ?_; (conv => whnf); repeat' (first | ((with_reducible refine Know.mk fun _ => ?_); conv => whnf) | ((with_reducible refine Need.mk ?_ ?_); exact nd; conv => whnf) | ((with_reducible first | refine Both.mk ?_ ?_ | refine Any.mk fun b hb => ?_ | refine AskB.dec (fun hb => ?_) (fun hb => ?_) | refine AskB.ndec (fun hb => ?_) (fun hb => ?_) | refine AskB.mk (fun hb => ?_) (fun hb => ?_)) <;> conv => whnf) | ((with_reducible first | refine Run.drawX rfl (by decide +kernel) ?_ | refine Run.drawT rfl (by decide +kernel) ?_ | refine Run.drawW rfl (by decide +kernel) ?_); conv => whnf) | fail)
    all_goals try (exfalso; omega)
    refine Run.bldr 50 5 9 90 (.box 9 0) awLn (MOle.refl _) (MOle.refl _) ?_
    refine bs9 (.box 9 0) _ rfl rfl rfl rfl rfl ?_
    refine Run.go ?_; (conv => whnf); repeat' (first | ((with_reducible refine Know.mk fun _ => ?_); conv => whnf) | ((with_reducible refine Need.mk ?_ ?_); exact nd; conv => whnf) | ((with_reducible first | refine Both.mk ?_ ?_ | refine Any.mk fun b hb => ?_ | refine AskB.dec (fun hb => ?_) (fun hb => ?_) | refine AskB.ndec (fun hb => ?_) (fun hb => ?_) | refine AskB.mk (fun hb => ?_) (fun hb => ?_)) <;> conv => whnf) | ((with_reducible first | refine Run.drawX rfl (by decide +kernel) ?_ | refine Run.drawT rfl (by decide +kernel) ?_ | refine Run.drawW rfl (by decide +kernel) ?_); conv => whnf) | fail)
    exact Run.leave (ts := [6,7]) (.inr ⟨_, rfl⟩) rfl Tryd.func7 rfl (resT ⟨Le.refl _, Le.refl _, trivial⟩)
end Go.Proofs.YteklnpgiloebcaaDoor.V

namespace Go.Proofs.YteklnpgiloebcaaDoor.V
set_option linter.unusedVariables false
set_option linter.unusedSimpArgs false
open Go Go.Proofs Go.RowKit
section
variable {C : Ctx} {env : Env} {h : Heap} {ops : Array Oper} {i : Nat} {rest : List Nat} {k : List Item} {o : Oper}
theorem Run.mkIf {t : TypeId} {x : Operand} {kd kd' : IntKind} {n : Int} (ho : ops.toList[i]? = some o) (hop : o.op = .makeInterface t x) (hx : ev env x = .int kd n) (ht : C.P.underlying t = some (.int kd')) (hd : okD C.N o.dst = true) (hr : ready env ops o = true)
    (next : Run C (.inRegion ops rest :: k) (putE env o.dst (.val (.iface t (.int kd n)))) h) : Run C (.inRegion ops (i :: rest) :: k) env h :=
  Run.opG (fun env' h' z => env' = env ∧ h' = h ∧ z = .val (.iface t (.int kd n))) ho hd hr (fun ι a w R => by
    have hv := ev_ok R x
    rw [hx] at hv
    have hv' : a.eval x = .int kd n := hv
    refine OpOut.of (s := Instr.makeInterface t (a.eval x)) (by simp [execOp, hop]) (Out.same R ⟨rfl, rfl, rfl⟩ (v := .iface t (.int kd n)) ?_ ⟨rfl, rfl⟩)
    rw [hv']
    simp [Instr.makeInterface, run_underlying ht]) (fun env' h' y ⟨e1, e2, e3⟩ => by subst e1; subst e2; subst e3; exact next)
/-- A pointer becomes one: nothing is known of it. -/
theorem Run.mkIfU {t e : TypeId} {x : Operand} (ho : ops.toList[i]? = some o) (hop : o.op = .makeInterface t x) (ht : C.P.underlying t = some (.pointer e)) (hd : okD C.N o.dst = true) (hr : ready env ops o = true)
    (next : Run C (.inRegion ops rest :: k) (putE env o.dst .u) h) : Run C (.inRegion ops (i :: rest) :: k) env h :=
  Run.opG (fun env' h' z => env' = env ∧ h' = h ∧ z = .u) ho hd hr (fun ι a w R => by
    refine OpOut.of (s := Instr.makeInterface t (a.eval x)) (by simp [execOp, hop]) (Out.same R ⟨rfl, rfl, rfl⟩ (v := .iface t (a.eval x)) ?_ trivial)
    simp [Instr.makeInterface, run_underlying ht]) (fun env' h' y ⟨e1, e2, e3⟩ => by subst e1; subst e2; subst e3; exact next)
/-- The value itself, where it is told. -/
def exV : AV → Option Value
  | .val c => some c
  | .nilif => some .nilIface
  | _ => none
theorem exV_ok {w : World} {ok : Nat → Prop} {r : Ref} {x : AV} {v c : Value} (h : exV x = some c) (hv : VR w ok x r v) : v = c := by
  cases x <;> simp [exV] at h <;> subst h <;> first | exact hv.1 | exact hv
theorem Run.binIf {op : BinOp} {t t2 : TypeId} {x y : Operand} {vx vy : Value} {b : Bool} (ho : ops.toList[i]? = some o) (hop : o.op = .binOp op t x y t2) (hx : exV (ev env x) = some vx) (hy : exV (ev env y) = some vy)
    (hrun : ∀ w, (do eqGuard op t x y vx vy; binOp op t vx vy : Sem Value).run C.P w = .ok (.bool b) w) (hd : okD C.N o.dst = true) (hr : ready env ops o = true)
    (next : Run C (.inRegion ops rest :: k) (putE env o.dst (.bool b)) h) : Run C (.inRegion ops (i :: rest) :: k) env h :=
  Run.opG (fun env' h' z => env' = env ∧ h' = h ∧ z = .bool b) ho hd hr (fun ι a w R => by
    have hvx := exV_ok hx (ev_ok R x)
    have hvy := exV_ok hy (ev_ok R y)
    refine OpOut.of (s := (do eqGuard op t x y (a.eval x) (a.eval y); binOp op t (a.eval x) (a.eval y))) (by simp [execOp, hop]) (Out.same R ⟨rfl, rfl, rfl⟩ (v := .bool b) ?_ rfl)
    rw [hvx, hvy]
    exact hrun w) (fun env' h' y ⟨e1, e2, e3⟩ => by subst e1; subst e2; subst e3; exact next)
end
theorem if_nil {P : Program} {t u : TypeId} {v : Value} {x y : Operand} (ht : P.underlying t = some (.interface (P.methodsAt t))) (w : World) : (do eqGuard .neq t x y (.iface u v) .nilIface; binOp .neq t (.iface u v) .nilIface : Sem Value).run P w = .ok (.bool true) w := by
  simp only [Sem.run_bind, eqGuard]
  simp [run_neq_held_nil w t u v ht]
theorem if_eqIn {P : Program} {t u : TypeId} {info : TypeInfo} {k kd : IntKind} {a b : Int} (ht : P.underlying t = some (.interface (P.methodsAt t))) (hu : P.underlying u = some (.int kd)) (hi : P.info? u = some info) (hc : info.comparable = true) (d : Nat) (w : World) :
    (Op.equalIn (d + 1 + 1) t (.iface u (.int k a)) (.iface u (.int k b))).run P w = .ok (a == b) w := by
  unfold Op.equalIn
  simp [run_underlying ht, typeInfo, hi, hc, run_equalIn_int w d u k kd a b hu]
theorem if_eq {P : Program} {t u : TypeId} {info : TypeInfo} {k kd : IntKind} {a b : Int} {x y : Operand} (ht : P.underlying t = some (.interface (P.methodsAt t))) (hu : P.underlying u = some (.int kd)) (hi : P.info? u = some info) (hc : info.comparable = true) (w : World) :
    (do eqGuard .eql t x y (.iface u (.int k a)) (.iface u (.int k b)); binOp .eql t (.iface u (.int k a)) (.iface u (.int k b)) : Sem Value).run P w = .ok (.bool (a == b)) w := by
  have h : (Op.equal t (.iface u (.int k a)) (.iface u (.int k b))).run P w = .ok (a == b) w := if_eqIn ht hu hi hc 9998 w
  simp only [Sem.run_bind, eqGuard, binOp]
  simp [h]
/-! ### a text copied into an own row -/
def cellsOfS (s : ByteArray) : List Value := s.data.toList.map fun b => .int .u8 (b.toNat : Int)
theorem cellsOfS_len (s : ByteArray) : (cellsOfS s).length = s.size := by simp [cellsOfS]
theorem cellsOfS_one (s : ByteArray) : ∀ v ∈ cellsOfS s, v.oneCell' = true := fun v hv => by
  obtain ⟨b, _, rfl⟩ := List.mem_map.mp hv
  rfl
theorem run_copyX {P : Program} (w : World) (dT sT ty elem : TypeId) (g dLen dCap : Nat) (s : ByteArray) (cur : Array Value) (t : TypeId)
    (hu : P.underlying dT = some (.slice elem)) (hs : (P.info? elem).map (·.size) = some 1) (hg : cellsX w g cur t) (hle : s.size ≤ dLen) (hfit : s.size ≤ cur.size) :
    (Builtin.copy_ #[dT, sT] ty #[.slice (some ⟨g, 0, none⟩) dLen dCap, .string s]).run P w =
      .ok (goInt s.size) (w.setRow g (cur.toList.take (0 + 0) ++ cellsOfS s ++ cur.toList.drop (0 + 0 + (cellsOfS s).length)).toArray) := by
  have hst := run_storeCells_atX P g 0 t (cellsOfS s) 0 cur w hg (by rw [cellsOfS_len]; omega) (cellsOfS_one s)
  have hmin : Nat.min s.size dLen = s.size := Nat.min_eq_left hle
  have htk : List.take s.size (List.map (fun b : UInt8 => Value.int IntKind.u8 (b.toNat : Int)) s.data.toList) = cellsOfS s := by
    rw [List.take_of_length_le (by simp)]
    rfl
  cases hq : P.info? elem with
  | none => simp [hq] at hs
  | some i =>
    simp [Builtin.copy_, run_underlying hu, Builtin.lenOf, Builtin.firstCells, sizeOf, typeInfo, hq, hmin]
    rw [htk, hst]
    simp [Result.andThen]
theorem Run.copyStr {C : Ctx} {env : Env} {h : Heap} {ops : Array Oper} {i : Nat} {rest : List Nat} {k : List Item} {o : Oper} {cl : Call} {x y : Operand} {dT sT e e' : TypeId} {q n : Nat} {get : Nat → Nat → AV} (s : ByteArray) (ho : ops.toList[i]? = some o) (hc : o.op = .call cl) (hcb : cl.callee = .builtin .copy) (hca : cl.args.toList = [x, y]) (hct : cl.argTypes = #[dT, sT])
    (hx : ev env x = .row q) (hy : ev env y = .str s) (hq : h q = .row e 1 n get) (hn : n = s.size) (hpos : 0 < n) (hu : C.P.underlying dT = some (.slice e')) (hz : (C.P.info? e').map (·.size) = some 1) (hd : okD C.N o.dst = true) (hr : ready env ops o = true)
    (next : Run C (.inRegion ops rest :: k) (putE env o.dst (.int .i64 (s.size : Int))) (upd h q (.row e 1 n (bytesG s)))) : Run C (.inRegion ops (i :: rest) :: k) env h :=
  Run.opG (fun env' h' z => env' = env ∧ h' = upd h q (.row e 1 n (bytesG s)) ∧ z = .int .i64 (s.size : Int)) ho hd hr (fun ι A w R => by
    have hca' := toList_two hca
    have hvx := ev_ok R x
    have hvy := ev_ok R y
    rw [hx] at hvx
    rw [hy] at hvy
    have hvx' : A.eval x = ι q 0 := hvx
    obtain ⟨hvy', hmax⟩ : A.eval y = .string s ∧ s.size ≤ maxLen := hvy
    have hobj := R.obj q
    rw [hq] at hobj
    obtain ⟨xs, hown, hone, hcells⟩ := hobj
    rcases hown.2 with ⟨hv, hn0⟩ | ⟨g, cap, cur, hv, hB, hg, hnc, hcap, hcs, htake⟩
    · omega
    have hbase := R.base q (by rw [hq]; simp) g (owns_zero (by rw [hv]; rfl))
    have hlen := cellsOfS_len s
    have hsz : (cur.toList.take (0 + 0) ++ cellsOfS s ++ cur.toList.drop (0 + 0 + (cellsOfS s).length)).toArray.size = cur.size := by
      simp; omega
    have R' := R.set q (.row e 1 n (bytesG s)) (w.setRow g (cur.toList.take (0 + 0) ++ cellsOfS s ++ cur.toList.drop (0 + 0 + (cellsOfS s).length)).toArray) (below_setRow C g _ hbase.1) (by rw [hq]; simp) (fun b hb' _ => setRow_other w g b _ (hb' g (by rw [hv]; rfl))) (by rw [hq]; exact ⟨rfl, rfl⟩) (fun r ok hr hok hwb => by
      refine ⟨cellsOfS s, ⟨by omega, .inr ⟨g, cap, _, hv, hB, hg.set hsz, hnc, hcap, by rw [hsz]; exact hcs, ?_⟩⟩, cellsOfS_one s, fun a b ha hb => ?_⟩
      · rw [List.toList_toArray, show n * 1 = (cellsOfS s).length by omega]
        simp
      · obtain rfl : b = 0 := by omega
        have ha' : a < s.data.size := by rw [hn] at ha; exact ha
        refine ⟨.int .u8 (s.data[a].toNat : Int), ?_, ?_⟩
        · unfold cellsOfS
          rw [show a * 1 + 0 = a by omega, List.getElem?_map, List.getElem?_eq_getElem (by simpa using ha')]
          simp
        · show Value.int .u8 _ = .int .u8 (bt s a)
          unfold bt
          rw [List.getD, List.getElem?_eq_getElem (by simpa using ha')]; simp)
    refine ⟨.value (.int .i64 (s.size : Int)), .int .i64 (s.size : Int), _, ι, env, _, .int .i64 (s.size : Int), ?_, .inl rfl, R', rfl, rfl, rfl, rfl⟩
    have hrun := run_copyX (P := C.P) w dT sT o.type e' g n cap s cur e hu hz hg (by omega) (by omega)
    simp only [execOp, hc, resolve, hcb, hca', hct, invoke, builtin, Act.eval]
    simp [hvx', hvy', hv, hrun, goInt]) (fun env' h' y ⟨e1, e2, e3⟩ => by subst e1; subst e2; subst e3; exact next)
end Go.Proofs.YteklnpgiloebcaaDoor.V

namespace Go.Proofs.YteklnpgiloebcaaDoor.V
set_option linter.unusedVariables false
set_option linter.unusedSimpArgs false
open Go Go.Proofs Go.RowKit
set_option maxRecDepth 100000
set_option maxHeartbeats 1000000
def awX : ByteArray := ⟨#[120]⟩
theorem idxA_fn : Fn Tryd.prog 47 [.str ⟨#[120, 10]⟩, .str ⟨#[10]⟩] (.int .i64 1) := index100_fn [120, 10]
theorem idxB_fn : Fn Tryd.prog 47 [.str awX, .str ⟨#[32, 93, 32]⟩] (.int .i64 (-1)) := by
  refine Fn.of Tryd.f47 _ Tryd.func47 rfl (by decide) (by show 2 ≤ _; decide) tbOk 143 rfl fun S w0 gl => ?_
  have h1 : awX.size = 1 := rfl
  have h2 : (ByteArray.mk #[32, 93, 32]).size = 3 := rfl
  refine Run.go ?_; (conv => whnf); repeat' (first | ((with_reducible refine Know.mk fun _ => ?_); conv => whnf) | ((with_reducible refine Need.mk ?_ ?_); exact nd; conv => whnf) | ((with_reducible refine Both.mk ?_ ?_) <;> conv => whnf) | ((with_reducible refine Any.mk fun b hb => ?_); conv => whnf) | ((with_reducible first | refine AskB.dec (fun hb => ?_) (fun hb => ?_) | refine AskB.ndec (fun hb => ?_) (fun hb => ?_) | refine AskB.mk (fun hb => ?_) (fun hb => ?_)) <;> first | (exfalso; omega) | (conv => whnf)) | ((with_reducible first | refine Run.drawX rfl (by decide +kernel) ?_ | refine Run.drawT rfl (by decide +kernel) ?_ | refine Run.drawW rfl (by decide +kernel) ?_); conv => whnf) | fail)
  all_goals try (exfalso; omega)
  all_goals first
    | exact absurd hb (by decide)
    | exact Run.leave (ts := [4]) (.inr ⟨_, rfl⟩) rfl Tryd.func47 rfl (Le.refl _)
theorem idxC_fn : Fn Tryd.prog 47 [.str awX, .str ⟨#[32]⟩] (.int .i64 (-1)) := by
  refine Fn.of Tryd.f47 _ Tryd.func47 rfl (by decide) (by show 2 ≤ _; decide) tbOk 143 rfl fun S w0 gl => ?_
  have h1 : awX.size = 1 := rfl
  have h2 : (ByteArray.mk #[32]).size = 1 := rfl
  refine Run.go ?_; (conv => whnf); repeat' (first | ((with_reducible refine Know.mk fun _ => ?_); conv => whnf) | ((with_reducible refine Need.mk ?_ ?_); exact nd; conv => whnf) | ((with_reducible refine Both.mk ?_ ?_) <;> conv => whnf) | ((with_reducible refine Any.mk fun b hb => ?_); conv => whnf) | ((with_reducible first | refine AskB.dec (fun hb => ?_) (fun hb => ?_) | refine AskB.ndec (fun hb => ?_) (fun hb => ?_) | refine AskB.mk (fun hb => ?_) (fun hb => ?_)) <;> first | (exfalso; omega) | (conv => whnf)) | ((with_reducible first | refine Run.drawX rfl (by decide +kernel) ?_ | refine Run.drawT rfl (by decide +kernel) ?_ | refine Run.drawW rfl (by decide +kernel) ?_); conv => whnf) | fail)
  all_goals try (exfalso; omega)
  all_goals try (exact absurd hb (by decide))
  refine Run.callBX (ib60_fn [120] _) rfl rfl ⟨Le.refl _, Le.refl _, trivial⟩ rfl rfl rfl ?_
  (conv => whnf); repeat' (first | ((with_reducible refine Know.mk fun _ => ?_); conv => whnf) | ((with_reducible refine Need.mk ?_ ?_); exact nd; conv => whnf) | ((with_reducible first | refine Both.mk ?_ ?_ | refine Any.mk fun b hb => ?_ | refine AskB.dec (fun hb => ?_) (fun hb => ?_) | refine AskB.ndec (fun hb => ?_) (fun hb => ?_) | refine AskB.mk (fun hb => ?_) (fun hb => ?_)) <;> conv => whnf) | ((with_reducible first | refine Run.drawX rfl (by decide +kernel) ?_ | refine Run.drawT rfl (by decide +kernel) ?_ | refine Run.drawW rfl (by decide +kernel) ?_); conv => whnf) | fail)
  exact Run.leave (ts := [4]) (.inr ⟨_, rfl⟩) rfl Tryd.func47 rfl (Le.int (by decide))
theorem cutSA_fn : Fn Tryd.prog 33 [.str ⟨#[120, 10]⟩, .str ⟨#[10]⟩] (tupL [.str awX, .str .empty, .tt]) := by
  refine Fn.of Tryd.f33 _ Tryd.func33 rfl (by decide) (by show 2 ≤ _; decide) tbOk 23 rfl fun S w0 gl => ?_
  have h1 : (ByteArray.mk #[120, 10]).size = 2 := rfl
  have h2 : (ByteArray.mk #[10]).size = 1 := rfl
  have hw : IntKind.i64.wrap ((1 : Int) + ((ByteArray.mk #[10]).size : Int)) = 2 := by decide
  refine Run.go ?_; (conv => whnf); repeat' (first | ((with_reducible refine Know.mk fun _ => ?_); conv => whnf) | ((with_reducible refine Need.mk ?_ ?_); exact nd; conv => whnf) | ((with_reducible first | refine Both.mk ?_ ?_ | refine Any.mk fun b hb => ?_ | refine AskB.dec (fun hb => ?_) (fun hb => ?_) | refine AskB.ndec (fun hb => ?_) (fun hb => ?_) | refine AskB.mk (fun hb => ?_) (fun hb => ?_)) <;> conv => whnf) | ((with_reducible first | refine Run.drawX rfl (by decide +kernel) ?_ | refine Run.drawT rfl (by decide +kernel) ?_ | refine Run.drawW rfl (by decide +kernel) ?_); conv => whnf) | fail)
  refine Run.callBX idxA_fn rfl rfl ⟨Le.refl _, Le.refl _, trivial⟩ rfl rfl rfl ?_
  (conv => whnf); repeat' (first | ((with_reducible refine Know.mk fun _ => ?_); conv => whnf) | ((with_reducible refine Need.mk ?_ ?_); exact nd; conv => whnf) | ((with_reducible refine Both.mk ?_ ?_) <;> conv => whnf) | ((with_reducible refine Any.mk fun b hb => ?_); conv => whnf) | ((with_reducible first | refine AskB.dec (fun hb => ?_) (fun hb => ?_) | refine AskB.ndec (fun hb => ?_) (fun hb => ?_) | refine AskB.mk (fun hb => ?_) (fun hb => ?_)) <;> first | (exfalso; omega) | (conv => whnf)) | ((with_reducible first | refine Run.drawX rfl (by decide +kernel) ?_ | refine Run.drawT rfl (by decide +kernel) ?_ | refine Run.drawW rfl (by decide +kernel) ?_); conv => whnf) | fail)
  all_goals try (exfalso; omega)
  exact Run.leave (ts := [4,5,6]) (.inr ⟨_, rfl⟩) rfl Tryd.func33 rfl (resT ⟨Le.str (by decide +kernel), Le.str (by decide +kernel), Le.refl _, trivial⟩)
theorem cutSB_fn : Fn Tryd.prog 33 [.str awX, .str ⟨#[32, 93, 32]⟩] (tupL [.str awX, .str .empty, .ff]) := by
  refine Fn.of Tryd.f33 _ Tryd.func33 rfl (by decide) (by show 2 ≤ _; decide) tbOk 23 rfl fun S w0 gl => ?_
  refine Run.go ?_; (conv => whnf); repeat' (first | ((with_reducible refine Know.mk fun _ => ?_); conv => whnf) | ((with_reducible refine Need.mk ?_ ?_); exact nd; conv => whnf) | ((with_reducible first | refine Both.mk ?_ ?_ | refine Any.mk fun b hb => ?_ | refine AskB.dec (fun hb => ?_) (fun hb => ?_) | refine AskB.ndec (fun hb => ?_) (fun hb => ?_) | refine AskB.mk (fun hb => ?_) (fun hb => ?_)) <;> conv => whnf) | ((with_reducible first | refine Run.drawX rfl (by decide +kernel) ?_ | refine Run.drawT rfl (by decide +kernel) ?_ | refine Run.drawW rfl (by decide +kernel) ?_); conv => whnf) | fail)
  refine Run.callBX idxB_fn rfl rfl ⟨Le.refl _, Le.refl _, trivial⟩ rfl rfl rfl ?_
  (conv => whnf); repeat' (first | ((with_reducible refine Know.mk fun _ => ?_); conv => whnf) | ((with_reducible refine Need.mk ?_ ?_); exact nd; conv => whnf) | ((with_reducible refine Both.mk ?_ ?_) <;> conv => whnf) | ((with_reducible refine Any.mk fun b hb => ?_); conv => whnf) | ((with_reducible first | refine AskB.dec (fun hb => ?_) (fun hb => ?_) | refine AskB.ndec (fun hb => ?_) (fun hb => ?_) | refine AskB.mk (fun hb => ?_) (fun hb => ?_)) <;> first | (exfalso; omega) | (conv => whnf)) | ((with_reducible first | refine Run.drawX rfl (by decide +kernel) ?_ | refine Run.drawT rfl (by decide +kernel) ?_ | refine Run.drawW rfl (by decide +kernel) ?_); conv => whnf) | fail)
  all_goals try (exfalso; omega)
  exact Run.leave (ts := [4,5,6]) (.inr ⟨_, rfl⟩) rfl Tryd.func33 rfl (resT ⟨Le.refl _, Le.refl _, Le.refl _, trivial⟩)
theorem cutSC_fn : Fn Tryd.prog 33 [.str awX, .str ⟨#[32]⟩] (tupL [.str awX, .str .empty, .ff]) := by
  refine Fn.of Tryd.f33 _ Tryd.func33 rfl (by decide) (by show 2 ≤ _; decide) tbOk 23 rfl fun S w0 gl => ?_
  refine Run.go ?_; (conv => whnf); repeat' (first | ((with_reducible refine Know.mk fun _ => ?_); conv => whnf) | ((with_reducible refine Need.mk ?_ ?_); exact nd; conv => whnf) | ((with_reducible first | refine Both.mk ?_ ?_ | refine Any.mk fun b hb => ?_ | refine AskB.dec (fun hb => ?_) (fun hb => ?_) | refine AskB.ndec (fun hb => ?_) (fun hb => ?_) | refine AskB.mk (fun hb => ?_) (fun hb => ?_)) <;> conv => whnf) | ((with_reducible first | refine Run.drawX rfl (by decide +kernel) ?_ | refine Run.drawT rfl (by decide +kernel) ?_ | refine Run.drawW rfl (by decide +kernel) ?_); conv => whnf) | fail)
  refine Run.callBX idxC_fn rfl rfl ⟨Le.refl _, Le.refl _, trivial⟩ rfl rfl rfl ?_
  (conv => whnf); repeat' (first | ((with_reducible refine Know.mk fun _ => ?_); conv => whnf) | ((with_reducible refine Need.mk ?_ ?_); exact nd; conv => whnf) | ((with_reducible refine Both.mk ?_ ?_) <;> conv => whnf) | ((with_reducible refine Any.mk fun b hb => ?_); conv => whnf) | ((with_reducible first | refine AskB.dec (fun hb => ?_) (fun hb => ?_) | refine AskB.ndec (fun hb => ?_) (fun hb => ?_) | refine AskB.mk (fun hb => ?_) (fun hb => ?_)) <;> first | (exfalso; omega) | (conv => whnf)) | ((with_reducible first | refine Run.drawX rfl (by decide +kernel) ?_ | refine Run.drawT rfl (by decide +kernel) ?_ | refine Run.drawW rfl (by decide +kernel) ?_); conv => whnf) | fail)
  all_goals try (exfalso; omega)
  exact Run.leave (ts := [4,5,6]) (.inr ⟨_, rfl⟩) rfl Tryd.func33 rfl (resT ⟨Le.refl _, Le.refl _, Le.refl _, trivial⟩)
theorem cut_of {s sep a b : ByteArray} {z : AV} (hz : z = .tt ∨ z = .ff) (h : Fn Tryd.prog 33 [.str s, .str sep] (tupL [.str a, .str b, z])) : Fn Tryd.prog 22 [.str s, .str sep] (tupL [.str a, .str b, z]) := by
  rcases hz with rfl | rfl
  all_goals
    refine Fn.of Tryd.f22 _ Tryd.func22 rfl (by decide) (by show 2 ≤ _; decide) tbOk 13 rfl fun S w0 gl => ?_
    refine Run.go ?_; (conv => whnf); repeat' (first | ((with_reducible refine Know.mk fun _ => ?_); conv => whnf) | ((with_reducible refine Need.mk ?_ ?_); exact nd; conv => whnf) | ((with_reducible first | refine Both.mk ?_ ?_ | refine Any.mk fun b hb => ?_ | refine AskB.dec (fun hb => ?_) (fun hb => ?_) | refine AskB.ndec (fun hb => ?_) (fun hb => ?_) | refine AskB.mk (fun hb => ?_) (fun hb => ?_)) <;> conv => whnf) | ((with_reducible first | refine Run.drawX rfl (by decide +kernel) ?_ | refine Run.drawT rfl (by decide +kernel) ?_ | refine Run.drawW rfl (by decide +kernel) ?_); conv => whnf) | fail)
    refine Run.callBX h rfl rfl ⟨Le.refl _, Le.refl _, trivial⟩ rfl rfl rfl ?_
    (conv => whnf); repeat' (first | ((with_reducible refine Know.mk fun _ => ?_); conv => whnf) | ((with_reducible refine Need.mk ?_ ?_); exact nd; conv => whnf) | ((with_reducible refine Both.mk ?_ ?_) <;> conv => whnf) | ((with_reducible refine Any.mk fun b hb => ?_); conv => whnf) | ((with_reducible first | refine AskB.dec (fun hb => ?_) (fun hb => ?_) | refine AskB.ndec (fun hb => ?_) (fun hb => ?_) | refine AskB.mk (fun hb => ?_) (fun hb => ?_)) <;> first | (exfalso; omega) | (conv => whnf)) | ((with_reducible first | refine Run.drawX rfl (by decide +kernel) ?_ | refine Run.drawT rfl (by decide +kernel) ?_ | refine Run.drawW rfl (by decide +kernel) ?_); conv => whnf) | fail)
    exact Run.leave (ts := [4,5,6]) (.inr ⟨_, rfl⟩) rfl Tryd.func22 rfl (resT ⟨Le.refl _, Le.refl _, Le.refl _, trivial⟩)
end Go.Proofs.YteklnpgiloebcaaDoor.V

namespace Go.Proofs.YteklnpgiloebcaaDoor.V
set_option linter.unusedVariables false
set_option linter.unusedSimpArgs false
open Go Go.RowKit
structure StatS (ops : Array Oper) (all : List Nat) : Prop where
  edge : ∀ (i : Nat) o, ops[i]? = some o → ∀ e ∈ o.after, Region.binds .any e = true → e.on < i
  look : ∀ (i : Nat) o, i < ops.size → ops[i]? = some o → ∀ s ∈ looks ops o, ∀ j, j < ops.size → dstOf ops j = some s → ∃ e ∈ o.after, Region.binds .any e = true ∧ e.on = j
  one : ∀ i j d, i < ops.size → j < ops.size → dstOf ops i = some d → dstOf ops j = some d → i = j
section
variable {C : Ctx} {ops : Array Oper}
def drawStatS (ops : Array Oper) : Bool := (List.range ops.size).all fun i => match ops.toList[i]? with
  | none => false
  | some o => (o.after.toList.all fun e => !Region.binds .any e || Nat.blt e.on i) &&
    ((looks ops o).all fun s => (List.range ops.size).all fun j => match dstOf ops j with
      | some d => !(Nat.beq d s) || (o.after.toList.any fun e => Region.binds .any e && Nat.beq e.on j)
      | none => true) &&
    ((List.range ops.size).all fun j => Nat.beq j i || match dstOf ops j, o.dst with
      | some d, some d' => !(Nat.beq d d')
      | _, _ => true)
end
end Go.Proofs.YteklnpgiloebcaaDoor.V

namespace Go.Proofs.YteklnpgiloebcaaDoor.V
set_option linter.unusedVariables false
set_option linter.unusedSimpArgs false
open Go Go.Proofs Go.RowKit
set_option maxRecDepth 100000
set_option maxHeartbeats 1000000
/-- What says that the syntax is wrong. -/
def awE2 : AV := .val (.iface 108 (.int .i64 2))
theorem atoiI_fn : Fn Tryd.prog 48 [.str awX] (tupL [.int .i64 0, awE2]) := by
  refine Fn.of Tryd.f48 _ Tryd.func48 rfl (by decide) (by show 1 ≤ _; decide) tbOk 77 rfl fun S w0 gl => ?_
  have h1 : awX.size = 1 := rfl
  have hbt : bt awX (Int.toNat 0) = 120 := by decide
  refine Run.go ?_; (conv => whnf); repeat' (first | ((with_reducible refine Know.mk fun _ => ?_); conv => whnf) | ((with_reducible refine Need.mk ?_ ?_); exact nd; conv => whnf) | ((with_reducible refine Both.mk ?_ ?_) <;> conv => whnf) | ((with_reducible refine Any.mk fun b hb => ?_); conv => whnf) | ((with_reducible first | refine AskB.dec (fun hb => ?_) (fun hb => ?_) | refine AskB.ndec (fun hb => ?_) (fun hb => ?_) | refine AskB.mk (fun hb => ?_) (fun hb => ?_)) <;> first | (exfalso; omega) | (conv => whnf)) | ((with_reducible first | refine Run.drawX rfl (by decide +kernel) ?_ | refine Run.drawT rfl (by decide +kernel) ?_ | refine Run.drawW rfl (by decide +kernel) ?_); conv => whnf) | fail)
  all_goals try (exfalso; omega)
  refine Run.toBytesR (d := 47) (e := 5) awX rfl rfl rfl rfl rfl rfl (by kernel_rfl) (by kernel_rfl) (by kernel_rfl) ?_
  refine Run.go ?_; (conv => whnf); repeat' (first | ((with_reducible refine Know.mk fun _ => ?_); conv => whnf) | ((with_reducible refine Need.mk ?_ ?_); exact nd; conv => whnf) | ((with_reducible first | refine Both.mk ?_ ?_ | refine Any.mk fun b hb => ?_ | refine AskB.dec (fun hb => ?_) (fun hb => ?_) | refine AskB.ndec (fun hb => ?_) (fun hb => ?_) | refine AskB.mk (fun hb => ?_) (fun hb => ?_)) <;> conv => whnf) | ((with_reducible first | refine Run.drawX rfl (by decide +kernel) ?_ | refine Run.drawT rfl (by decide +kernel) ?_ | refine Run.drawW rfl (by decide +kernel) ?_); conv => whnf) | fail)
  refine Run.loop [5, 48] (fun (i : Nat) => [(6, .int .i64 0), (47, .row 47), (49, .int .i64 (i : Int))]) (fun i => [(47, .row 5 1 awX.size (bytesG awX))]) (fun i => i = 0) (fun i => 0) 0 rfl ⟨Le.refl _, Le.refl _, Le.refl _, trivial⟩ ⟨MOle.refl _, trivial⟩ ?_
  intro i hi IH
  subst hi
  have hw0 : IntKind.u8.wrap (bt awX ((0 : Nat) : Int).toNat - 48) = 72 := by decide
  refine Run.go ?_; (conv => whnf); repeat' (first | ((with_reducible refine Know.mk fun _ => ?_); conv => whnf) | ((with_reducible refine Need.mk ?_ ?_); exact nd; conv => whnf) | ((with_reducible refine Both.mk ?_ ?_) <;> conv => whnf) | ((with_reducible refine Any.mk fun b hb => ?_); conv => whnf) | ((with_reducible first | refine AskB.dec (fun hb => ?_) (fun hb => ?_) | refine AskB.ndec (fun hb => ?_) (fun hb => ?_) | refine AskB.mk (fun hb => ?_) (fun hb => ?_)) <;> first | (exfalso; omega) | (conv => whnf)) | ((with_reducible first | refine Run.drawX rfl (by decide +kernel) ?_ | refine Run.drawT rfl (by decide +kernel) ?_ | refine Run.drawW rfl (by decide +kernel) ?_); conv => whnf) | fail)
  all_goals try (exfalso; omega)
  refine Run.mkIf (t := 108) (n := 2) rfl rfl rfl (kd' := .i64) (by kernel_rfl) rfl rfl ?_
  refine Run.go ?_; (conv => whnf); repeat' (first | ((with_reducible refine Know.mk fun _ => ?_); conv => whnf) | ((with_reducible refine Need.mk ?_ ?_); exact nd; conv => whnf) | ((with_reducible first | refine Both.mk ?_ ?_ | refine Any.mk fun b hb => ?_ | refine AskB.dec (fun hb => ?_) (fun hb => ?_) | refine AskB.ndec (fun hb => ?_) (fun hb => ?_) | refine AskB.mk (fun hb => ?_) (fun hb => ?_)) <;> conv => whnf) | ((with_reducible first | refine Run.drawX rfl (by decide +kernel) ?_ | refine Run.drawT rfl (by decide +kernel) ?_ | refine Run.drawW rfl (by decide +kernel) ?_); conv => whnf) | fail)
  exact Run.leave (ts := [2,3]) (.inr ⟨_, rfl⟩) rfl Tryd.func48 rfl (resT ⟨Le.refl _, Le.refl _, trivial⟩)
theorem clone_aw : Fn Tryd.prog 79 [.str awX] (.str awX) := by
  refine Fn.of Tryd.f79 _ Tryd.func79 rfl (by decide) (by show 1 ≤ _; decide) tbOk 18 rfl fun S w0 gl => ?_
  have h1 : awX.size = 1 := rfl
  refine Run.go ?_; (conv => whnf); repeat' (first | ((with_reducible refine Know.mk fun _ => ?_); conv => whnf) | ((with_reducible refine Need.mk ?_ ?_); exact nd; conv => whnf) | ((with_reducible refine Both.mk ?_ ?_) <;> conv => whnf) | ((with_reducible refine Any.mk fun b hb => ?_); conv => whnf) | ((with_reducible first | refine AskB.dec (fun hb => ?_) (fun hb => ?_) | refine AskB.ndec (fun hb => ?_) (fun hb => ?_) | refine AskB.mk (fun hb => ?_) (fun hb => ?_)) <;> first | (exfalso; omega) | (conv => whnf)) | ((with_reducible first | refine Run.drawX rfl (by decide +kernel) ?_ | refine Run.drawT rfl (by decide +kernel) ?_ | refine Run.drawW rfl (by decide +kernel) ?_); conv => whnf) | fail)
  all_goals try (exfalso; omega)
  refine Run.copyStr (x := .tmp 10) (y := .tmp 11) (cl := ⟨.builtin .copy, #[.tmp 10, .tmp 11], #[48, 9]⟩) (q := 9) (e' := 5) awX rfl rfl rfl rfl rfl rfl rfl rfl rfl (by decide) (by kernel_rfl) (by kernel_rfl) rfl rfl ?_
  refine Run.go ?_; (conv => whnf); repeat' (first | ((with_reducible refine Know.mk fun _ => ?_); conv => whnf) | ((with_reducible refine Need.mk ?_ ?_); exact nd; conv => whnf) | ((with_reducible refine Both.mk ?_ ?_) <;> conv => whnf) | ((with_reducible refine Any.mk fun b hb => ?_); conv => whnf) | ((with_reducible first | refine AskB.dec (fun hb => ?_) (fun hb => ?_) | refine AskB.ndec (fun hb => ?_) (fun hb => ?_) | refine AskB.mk (fun hb => ?_) (fun hb => ?_)) <;> first | (exfalso; omega) | (conv => whnf)) | ((with_reducible first | refine Run.drawX rfl (by decide +kernel) ?_ | refine Run.drawT rfl (by decide +kernel) ?_ | refine Run.drawW rfl (by decide +kernel) ?_); conv => whnf) | fail)
  refine Run.unsafeString (x := .tmp 14) (y := .tmp 16) (c := ⟨.builtin .unsafeString, #[.tmp 14, .tmp 16], #[75, 3]⟩) awX rfl rfl rfl rfl rfl rfl rfl rfl rfl (e := 5) (n := awX.size) (q := 9) (get := bytesG awX) rfl rfl (by decide) (fun _ _ => rfl) (by kernel_rfl) (by kernel_rfl) ?_
  refine Run.go ?_; (conv => whnf); repeat' (first | ((with_reducible refine Know.mk fun _ => ?_); conv => whnf) | ((with_reducible refine Need.mk ?_ ?_); exact nd; conv => whnf) | ((with_reducible first | refine Both.mk ?_ ?_ | refine Any.mk fun b hb => ?_ | refine AskB.dec (fun hb => ?_) (fun hb => ?_) | refine AskB.ndec (fun hb => ?_) (fun hb => ?_) | refine AskB.mk (fun hb => ?_) (fun hb => ?_)) <;> conv => whnf) | ((with_reducible first | refine Run.drawX rfl (by decide +kernel) ?_ | refine Run.drawT rfl (by decide +kernel) ?_ | refine Run.drawW rfl (by decide +kernel) ?_); conv => whnf) | fail)
  exact Run.leave (ts := [2]) (.inr ⟨_, rfl⟩) rfl Tryd.func79 rfl (Le.refl _)
theorem synt_aw (s : ByteArray) : Fn Tryd.prog 63 [.str s, .str awX] .u := by
  refine Fn.of Tryd.f63 _ Tryd.func63 rfl (by decide) (by show 2 ≤ _; decide) tbOk 11 rfl fun S w0 gl => ?_
  refine Run.go ?_; (conv => whnf); repeat' (first | ((with_reducible refine Know.mk fun _ => ?_); conv => whnf) | ((with_reducible refine Need.mk ?_ ?_); exact nd; conv => whnf) | ((with_reducible first | refine Both.mk ?_ ?_ | refine Any.mk fun b hb => ?_ | refine AskB.dec (fun hb => ?_) (fun hb => ?_) | refine AskB.ndec (fun hb => ?_) (fun hb => ?_) | refine AskB.mk (fun hb => ?_) (fun hb => ?_)) <;> conv => whnf) | ((with_reducible first | refine Run.drawX rfl (by decide +kernel) ?_ | refine Run.drawT rfl (by decide +kernel) ?_ | refine Run.drawW rfl (by decide +kernel) ?_); conv => whnf) | fail)
  refine CallQ.flat clone_aw rfl ⟨Le.refl _, trivial⟩ rfl ?_
  (conv => whnf); repeat' (first | ((with_reducible refine Know.mk fun _ => ?_); conv => whnf) | ((with_reducible refine Need.mk ?_ ?_); exact nd; conv => whnf) | ((with_reducible first | refine Both.mk ?_ ?_ | refine Any.mk fun b hb => ?_ | refine AskB.dec (fun hb => ?_) (fun hb => ?_) | refine AskB.ndec (fun hb => ?_) (fun hb => ?_) | refine AskB.mk (fun hb => ?_) (fun hb => ?_)) <;> conv => whnf) | ((with_reducible first | refine Run.drawX rfl (by decide +kernel) ?_ | refine Run.drawT rfl (by decide +kernel) ?_ | refine Run.drawW rfl (by decide +kernel) ?_); conv => whnf) | fail)
  exact Run.leave (ts := [4]) (.inr ⟨_, rfl⟩) rfl Tryd.func63 rfl (Le.u _)
theorem toErr_aw (s : ByteArray) : Fn Tryd.prog 49 [.str s, .str awX, .int .i64 0, .int .i64 0, awE2] .u := by
  refine Fn.of Tryd.f49 _ Tryd.func49 rfl (by decide) (by show 5 ≤ _; decide) tbOk 43 rfl fun S w0 gl => ?_
  refine Run.go ?_; (conv => whnf); repeat' (first | ((with_reducible refine Know.mk fun _ => ?_); conv => whnf) | ((with_reducible refine Need.mk ?_ ?_); exact nd; conv => whnf) | ((with_reducible first | refine Both.mk ?_ ?_ | refine Any.mk fun b hb => ?_ | refine AskB.dec (fun hb => ?_) (fun hb => ?_) | refine AskB.ndec (fun hb => ?_) (fun hb => ?_) | refine AskB.mk (fun hb => ?_) (fun hb => ?_)) <;> conv => whnf) | ((with_reducible first | refine Run.drawX rfl (by decide +kernel) ?_ | refine Run.drawT rfl (by decide +kernel) ?_ | refine Run.drawW rfl (by decide +kernel) ?_); conv => whnf) | fail)
  refine Run.mkIf (t := 108) (n := 2) rfl rfl rfl (kd' := .i64) (by kernel_rfl) rfl rfl ?_
  refine Run.binIf (b := true) (vx := .iface 108 (.int .i64 2)) (vy := .iface 108 (.int .i64 2)) rfl rfl rfl rfl (fun w => if_eq (by kernel_rfl) (kd := .i64) (by kernel_rfl) rfl (by kernel_rfl) w) rfl rfl ?_
  refine Run.go ?_; (conv => whnf); repeat' (first | ((with_reducible refine Know.mk fun _ => ?_); conv => whnf) | ((with_reducible refine Need.mk ?_ ?_); exact nd; conv => whnf) | ((with_reducible first | refine Both.mk ?_ ?_ | refine Any.mk fun b hb => ?_ | refine AskB.dec (fun hb => ?_) (fun hb => ?_) | refine AskB.ndec (fun hb => ?_) (fun hb => ?_) | refine AskB.mk (fun hb => ?_) (fun hb => ?_)) <;> conv => whnf) | ((with_reducible first | refine Run.drawX rfl (by decide +kernel) ?_ | refine Run.drawT rfl (by decide +kernel) ?_ | refine Run.drawW rfl (by decide +kernel) ?_); conv => whnf) | fail)
  all_goals try (cases hb; done)
  refine Run.callBX (synt_aw s) rfl rfl ⟨Le.refl _, Le.refl _, trivial⟩ rfl rfl rfl ?_
  (conv => whnf); repeat' (first | ((with_reducible refine Know.mk fun _ => ?_); conv => whnf) | ((with_reducible refine Need.mk ?_ ?_); exact nd; conv => whnf) | ((with_reducible first | refine Both.mk ?_ ?_ | refine Any.mk fun b hb => ?_ | refine AskB.dec (fun hb => ?_) (fun hb => ?_) | refine AskB.ndec (fun hb => ?_) (fun hb => ?_) | refine AskB.mk (fun hb => ?_) (fun hb => ?_)) <;> conv => whnf) | ((with_reducible first | refine Run.drawX rfl (by decide +kernel) ?_ | refine Run.drawT rfl (by decide +kernel) ?_ | refine Run.drawW rfl (by decide +kernel) ?_); conv => whnf) | fail)
  refine Run.mkIfU (t := 111) (e := 131) rfl rfl (by kernel_rfl) rfl rfl ?_
  refine Run.go ?_; (conv => whnf); repeat' (first | ((with_reducible refine Know.mk fun _ => ?_); conv => whnf) | ((with_reducible refine Need.mk ?_ ?_); exact nd; conv => whnf) | ((with_reducible first | refine Both.mk ?_ ?_ | refine Any.mk fun b hb => ?_ | refine AskB.dec (fun hb => ?_) (fun hb => ?_) | refine AskB.ndec (fun hb => ?_) (fun hb => ?_) | refine AskB.mk (fun hb => ?_) (fun hb => ?_)) <;> conv => whnf) | ((with_reducible first | refine Run.drawX rfl (by decide +kernel) ?_ | refine Run.drawT rfl (by decide +kernel) ?_ | refine Run.drawW rfl (by decide +kernel) ?_); conv => whnf) | fail)
  exact Run.leave (ts := [10]) (.inr ⟨_, rfl⟩) rfl Tryd.func49 rfl (Le.refl _)
theorem atoi_aw : Fn Tryd.prog 34 [.str awX] (tupL [.int .i64 0, .u]) := by
  refine Fn.of Tryd.f34 _ Tryd.func34 rfl (by decide) (by show 1 ≤ _; decide) tbOk 18 rfl fun S w0 gl => ?_
  refine Run.go ?_; (conv => whnf); repeat' (first | ((with_reducible refine Know.mk fun _ => ?_); conv => whnf) | ((with_reducible refine Need.mk ?_ ?_); exact nd; conv => whnf) | ((with_reducible first | refine Both.mk ?_ ?_ | refine Any.mk fun b hb => ?_ | refine AskB.dec (fun hb => ?_) (fun hb => ?_) | refine AskB.ndec (fun hb => ?_) (fun hb => ?_) | refine AskB.mk (fun hb => ?_) (fun hb => ?_)) <;> conv => whnf) | ((with_reducible first | refine Run.drawX rfl (by decide +kernel) ?_ | refine Run.drawT rfl (by decide +kernel) ?_ | refine Run.drawW rfl (by decide +kernel) ?_); conv => whnf) | fail)
  refine Run.callBX atoiI_fn rfl rfl ⟨Le.refl _, trivial⟩ rfl rfl rfl ?_
  (conv => whnf); repeat' (first | ((with_reducible refine Know.mk fun _ => ?_); conv => whnf) | ((with_reducible refine Need.mk ?_ ?_); exact nd; conv => whnf) | ((with_reducible first | refine Both.mk ?_ ?_ | refine Any.mk fun b hb => ?_ | refine AskB.dec (fun hb => ?_) (fun hb => ?_) | refine AskB.ndec (fun hb => ?_) (fun hb => ?_) | refine AskB.mk (fun hb => ?_) (fun hb => ?_)) <;> conv => whnf) | ((with_reducible first | refine Run.drawX rfl (by decide +kernel) ?_ | refine Run.drawT rfl (by decide +kernel) ?_ | refine Run.drawW rfl (by decide +kernel) ?_); conv => whnf) | fail)
  refine Run.binIf (b := true) (vx := .iface 108 (.int .i64 2)) (vy := .nilIface) rfl rfl rfl rfl (fun w => if_nil (by kernel_rfl) w) rfl rfl ?_
  refine Run.go ?_; (conv => whnf); repeat' (first | ((with_reducible refine Know.mk fun _ => ?_); conv => whnf) | ((with_reducible refine Need.mk ?_ ?_); exact nd; conv => whnf) | ((with_reducible first | refine Both.mk ?_ ?_ | refine Any.mk fun b hb => ?_ | refine AskB.dec (fun hb => ?_) (fun hb => ?_) | refine AskB.ndec (fun hb => ?_) (fun hb => ?_) | refine AskB.mk (fun hb => ?_) (fun hb => ?_)) <;> conv => whnf) | ((with_reducible first | refine Run.drawX rfl (by decide +kernel) ?_ | refine Run.drawT rfl (by decide +kernel) ?_ | refine Run.drawW rfl (by decide +kernel) ?_); conv => whnf) | fail)
  all_goals try (cases hb; done)
  refine Run.callBX (toErr_aw _) rfl rfl ⟨Le.refl _, Le.refl _, Le.refl _, Le.refl _, Le.refl _, trivial⟩ rfl rfl rfl ?_
  (conv => whnf); repeat' (first | ((with_reducible refine Know.mk fun _ => ?_); conv => whnf) | ((with_reducible refine Need.mk ?_ ?_); exact nd; conv => whnf) | ((with_reducible first | refine Both.mk ?_ ?_ | refine Any.mk fun b hb => ?_ | refine AskB.dec (fun hb => ?_) (fun hb => ?_) | refine AskB.ndec (fun hb => ?_) (fun hb => ?_) | refine AskB.mk (fun hb => ?_) (fun hb => ?_)) <;> conv => whnf) | ((with_reducible first | refine Run.drawX rfl (by decide +kernel) ?_ | refine Run.drawT rfl (by decide +kernel) ?_ | refine Run.drawW rfl (by decide +kernel) ?_); conv => whnf) | fail)
  exact Run.leave (ts := [2,3]) (.inr ⟨_, rfl⟩) rfl Tryd.func34 rfl (resT ⟨Le.refl _, Le.refl _, trivial⟩)
theorem unf_aw : Fn Tryd.prog 35 [.str .empty] (tupL [.agg 3 (tRd.enc ⟨false, .empty, []⟩), .tt]) := by
  refine Fn.of Tryd.f35 _ Tryd.func35 rfl (by decide) (by show 1 ≤ _; decide) tbOk 45 rfl fun S w0 gl => ?_
  refine Run.go ?_; (conv => whnf); repeat' (first | ((with_reducible refine Know.mk fun _ => ?_); conv => whnf) | ((with_reducible refine Need.mk ?_ ?_); exact nd; conv => whnf) | ((with_reducible first | refine Both.mk ?_ ?_ | refine Any.mk fun b hb => ?_ | refine AskB.dec (fun hb => ?_) (fun hb => ?_) | refine AskB.ndec (fun hb => ?_) (fun hb => ?_) | refine AskB.mk (fun hb => ?_) (fun hb => ?_)) <;> conv => whnf) | ((with_reducible first | refine Run.drawX rfl (by decide +kernel) ?_ | refine Run.drawT rfl (by decide +kernel) ?_ | refine Run.drawW rfl (by decide +kernel) ?_); conv => whnf) | fail)
  · exact absurd hb (by decide)
  refine Run.loop [2] (fun (i : Nat) => [(0, .str .empty), (4, .nils)]) (fun i => [(2, .box 42 [.ff, .str .empty, .nils])]) (fun i => i = 0) (fun i => 0) 0 rfl ⟨Le.refl _, Le.refl _, trivial⟩ ⟨MOle.refl _, trivial⟩ ?_
  intro i hi IH
  refine Run.go ?_; (conv => whnf); repeat' (first | ((with_reducible refine Know.mk fun _ => ?_); conv => whnf) | ((with_reducible refine Need.mk ?_ ?_); exact nd; conv => whnf) | ((with_reducible first | refine Both.mk ?_ ?_ | refine Any.mk fun b hb => ?_ | refine AskB.dec (fun hb => ?_) (fun hb => ?_) | refine AskB.ndec (fun hb => ?_) (fun hb => ?_) | refine AskB.mk (fun hb => ?_) (fun hb => ?_)) <;> conv => whnf) | ((with_reducible first | refine Run.drawX rfl (by decide +kernel) ?_ | refine Run.drawT rfl (by decide +kernel) ?_ | refine Run.drawW rfl (by decide +kernel) ?_); conv => whnf) | fail)
  all_goals try (exact absurd rfl hb)
  refine Run.holdNil 42 90 5 1 (bytesG .empty) rfl ?_
  refine Run.rowStr (x := .tmp 42) (src := 48) (dst := 9) (e := 5) (q := 90) .empty rfl rfl rfl rfl rfl rfl rfl (fun _ _ => rfl) (by kernel_rfl) (by kernel_rfl) (by kernel_rfl) ?_
  refine Run.go ?_; (conv => whnf); repeat' (first | ((with_reducible refine Know.mk fun _ => ?_); conv => whnf) | ((with_reducible refine Need.mk ?_ ?_); exact nd; conv => whnf) | ((with_reducible first | refine Both.mk ?_ ?_ | refine Any.mk fun b hb => ?_ | refine AskB.dec (fun hb => ?_) (fun hb => ?_) | refine AskB.ndec (fun hb => ?_) (fun hb => ?_) | refine AskB.mk (fun hb => ?_) (fun hb => ?_)) <;> conv => whnf) | ((with_reducible first | refine Run.drawX rfl (by decide +kernel) ?_ | refine Run.drawT rfl (by decide +kernel) ?_ | refine Run.drawW rfl (by decide +kernel) ?_); conv => whnf) | fail)
  exact Run.leaveC2 (.inr ⟨_, rfl⟩) rfl Tryd.func35 rfl rfl rfl (Nat.le_of_ble_eq_true rfl) (rdA_le ⟨false, .empty, []⟩ Le.ff (Le.refl _) tI.nil) (Le.refl _)
end Go.Proofs.YteklnpgiloebcaaDoor.V

namespace Go.Proofs.YteklnpgiloebcaaDoor.V
set_option linter.unusedVariables false
set_option linter.unusedSimpArgs false
open Go Go.Proofs Go.RowKit
set_option maxRecDepth 100000
set_option maxHeartbeats 1000000
theorem appCheckR_fn (es : List En) (n c : Int) : Fn Tryd.prog 10 [tEn.L es, .int .i64 n, .int .i64 c] (.int .i64 (chk es n c)) := by
  refine Fn.of Tryd.f10 _ Tryd.func10 rfl (by decide) (by show 3 ≤ _; decide) tbOk 70 rfl fun S w0 gl => ?_
  refine Run.go ?_; (conv => whnf); repeat' (first | ((with_reducible refine Know.mk fun _ => ?_); conv => whnf) | ((with_reducible refine Need.mk ?_ ?_); exact nd; conv => whnf) | ((with_reducible first | refine Both.mk ?_ ?_ | refine Any.mk fun b hb => ?_ | refine AskB.dec (fun hb => ?_) (fun hb => ?_) | refine AskB.ndec (fun hb => ?_) (fun hb => ?_) | refine AskB.mk (fun hb => ?_) (fun hb => ?_)) <;> conv => whnf) | ((with_reducible first | refine Run.drawX rfl (by decide +kernel) ?_ | refine Run.drawT rfl (by decide +kernel) ?_ | refine Run.drawW rfl (by decide +kernel) ?_); conv => whnf) | fail)
  iterate 4 (· exact Run.leave (ts := [6]) (.inr ⟨_, rfl⟩) rfl Tryd.func10 rfl (Le.int (by unfold chk; rw [if_pos (by omega)])))
  refine Run.loop [0,1,2] (fun i : Nat => [(7, .int .i64 (i : Int))]) (fun i => [])
    (fun i => i ≤ es.length ∧ Good n c (es.take i)) (fun i => es.length - i) 0 ⟨Nat.zero_le _, ⟨by simp, by simp⟩⟩ ⟨Le.refl _, trivial⟩ trivial ?_
  intro i ⟨hi, hG⟩ IH
  refine Run.go ?_; (conv => whnf); repeat' (first | ((with_reducible refine Know.mk fun _ => ?_); conv => whnf) | ((with_reducible refine Need.mk ?_ ?_); exact nd; conv => whnf) | ((with_reducible first | refine Both.mk ?_ ?_ | refine Any.mk fun b hb => ?_ | refine AskB.dec (fun hb => ?_) (fun hb => ?_) | refine AskB.ndec (fun hb => ?_) (fun hb => ?_) | refine AskB.mk (fun hb => ?_) (fun hb => ?_)) <;> conv => whnf) | ((with_reducible first | refine Run.drawX rfl (by decide +kernel) ?_ | refine Run.drawT rfl (by decide +kernel) ?_ | refine Run.drawW rfl (by decide +kernel) ?_); conv => whnf) | fail)
  · refine Run.leave (ts := [6]) (.inr ⟨_, rfl⟩) rfl Tryd.func10 rfl (Le.int ?_)
    rw [Int.toNat_natCast] at hb
    unfold chk
    rw [if_neg (by omega), if_neg (fun hG' => ?_)]
    have := (hG'.each _ (getD_mem (z := tEn.z) i (by omega))).1
    omega
  · refine Run.leave (ts := [6]) (.inr ⟨_, rfl⟩) rfl Tryd.func10 rfl (Le.int ?_)
    rw [Int.toNat_natCast] at hb
    unfold chk
    rw [if_neg (by omega), if_neg (fun hG' => ?_)]
    have := (hG'.each _ (getD_mem (z := tEn.z) i (by omega))).2.1
    omega
  · refine Run.leave (ts := [6]) (.inr ⟨_, rfl⟩) rfl Tryd.func10 rfl (Le.int ?_)
    rw [Int.toNat_natCast, wrap64 (by omega) (by omega), show ((i : Int) - 1).toNat = i - 1 by omega] at hb
    unfold chk
    rw [if_neg (by omega), if_neg (fun hG' => ?_)]
    exact absurd (goodE_at hG' (show i - 1 < i by omega) (by omega)) (Int.not_lt.mpr hb)
  · refine CallQ.flat (entry_fn (es.getD i tEn.z) n (by omega) (by omega)) rfl ⟨?_, ?_, trivial⟩ rfl ?_
    · refine Le.agg fun j hj => ?_
      match j, hj with
      | 0, _ => exact Le.refl _
      | 1, _ => exact Le.refl _
    · exact Le.refl _
    (conv => whnf); repeat' (first | ((with_reducible refine Know.mk fun _ => ?_); conv => whnf) | ((with_reducible refine Need.mk ?_ ?_); exact nd; conv => whnf) | ((with_reducible first | refine Both.mk ?_ ?_ | refine Any.mk fun b hb => ?_ | refine AskB.dec (fun hb => ?_) (fun hb => ?_) | refine AskB.ndec (fun hb => ?_) (fun hb => ?_) | refine AskB.mk (fun hb => ?_) (fun hb => ?_)) <;> conv => whnf) | ((with_reducible first | refine Run.drawX rfl (by decide +kernel) ?_ | refine Run.drawT rfl (by decide +kernel) ?_ | refine Run.drawW rfl (by decide +kernel) ?_); conv => whnf) | fail)
    · rename_i hneg hc hi0 hlast
      rw [Int.toNat_natCast] at hc
      rw [Int.toNat_natCast, wrap64 (by omega) (by omega), show ((i : Int) - 1).toNat = i - 1 by omega] at hlast
      refine Run.to _ _ ?_ ?_ (IH (i + 1) (by omega) ⟨by omega, ?_⟩)
      · exact ⟨Le.refl _, Le.refl _, Le.refl _, Le.wrap64 (by omega) (by omega) (by omega), trivial⟩
      · exact trivial
      · exact good_push hG (by omega) (by rw [if_neg (by omega)]; exact Int.not_le.mp hlast) (Int.not_le.mp hc) hb
    · refine Run.leave (ts := [6]) (.inr ⟨_, rfl⟩) rfl Tryd.func10 rfl (Le.int ?_)
      unfold chk
      rw [if_neg (by omega), if_neg (fun hG' => ?_)]
      exact hb (hG'.each _ (getD_mem (z := tEn.z) i (by omega))).2.2
  · refine CallQ.flat (entry_fn (es.getD i tEn.z) n (by omega) (by omega)) rfl ⟨?_, ?_, trivial⟩ rfl ?_
    · refine Le.agg fun j hj => ?_
      match j, hj with
      | 0, _ => exact Le.refl _
      | 1, _ => exact Le.refl _
    · exact Le.refl _
    (conv => whnf); repeat' (first | ((with_reducible refine Know.mk fun _ => ?_); conv => whnf) | ((with_reducible refine Need.mk ?_ ?_); exact nd; conv => whnf) | ((with_reducible first | refine Both.mk ?_ ?_ | refine Any.mk fun b hb => ?_ | refine AskB.dec (fun hb => ?_) (fun hb => ?_) | refine AskB.ndec (fun hb => ?_) (fun hb => ?_) | refine AskB.mk (fun hb => ?_) (fun hb => ?_)) <;> conv => whnf) | ((with_reducible first | refine Run.drawX rfl (by decide +kernel) ?_ | refine Run.drawT rfl (by decide +kernel) ?_ | refine Run.drawW rfl (by decide +kernel) ?_); conv => whnf) | fail)
    · rename_i hneg hc hi0
      rw [Int.toNat_natCast] at hc hneg
      refine Run.to _ _ ?_ ?_ (IH (i + 1) (by omega) ⟨by omega, ?_⟩)
      · exact ⟨Le.refl _, Le.refl _, Le.refl _, Le.wrap64 (by omega) (by omega) (by omega), trivial⟩
      · exact trivial
      · exact good_push hG (by omega) (by rw [if_pos (by omega)]; have := Int.not_lt.mp hneg; omega) (Int.not_le.mp hc) hb
    · refine Run.leave (ts := [6]) (.inr ⟨_, rfl⟩) rfl Tryd.func10 rfl (Le.int ?_)
      unfold chk
      rw [if_neg (by omega), if_neg (fun hG' => ?_)]
      exact hb (hG'.each _ (getD_mem (z := tEn.z) i (by omega))).2.2
  · refine Run.leave (ts := [6]) (.inr ⟨_, rfl⟩) rfl Tryd.func10 rfl (Le.int ?_)
    have : i = es.length := by omega
    subst this
    rw [List.take_length] at hG
    unfold chk
    rw [if_neg (by omega), if_pos hG]

end Go.Proofs.YteklnpgiloebcaaDoor.V

namespace Go.Proofs.YteklnpgiloebcaaDoor.V
set_option linter.unusedVariables false
set_option linter.unusedSimpArgs false
open Go Go.Proofs Go.RowKit
set_option maxRecDepth 100000
set_option maxHeartbeats 1000000
def awN1 : List ByteArray := [⟨#[65]⟩]
theorem awN1_ok : nmOk awN1 = true := nm_ok (by decide) (by decide) (one0 ⟨by decide +kernel, fun k hk => absurd hk (Nat.not_lt_zero _)⟩)
theorem entry_aw : Fn Tryd.prog 23 [.str awX, tS.L awN1] (tupL [.agg 2 (tEn.enc ⟨0, []⟩), .ff]) := by
  refine Fn.of Tryd.f23 _ Tryd.func23 rfl (by decide) (by show 2 ≤ _; decide) tbOk 160 rfl fun S w0 gl => ?_
  refine Run.go ?_; (conv => whnf); repeat' (first | ((with_reducible refine Know.mk fun _ => ?_); conv => whnf) | ((with_reducible refine Need.mk ?_ ?_); exact nd; conv => whnf) | ((with_reducible first | refine Both.mk ?_ ?_ | refine Any.mk fun b hb => ?_ | refine AskB.dec (fun hb => ?_) (fun hb => ?_) | refine AskB.ndec (fun hb => ?_) (fun hb => ?_) | refine AskB.mk (fun hb => ?_) (fun hb => ?_)) <;> conv => whnf) | ((with_reducible first | refine Run.drawX rfl (by decide +kernel) ?_ | refine Run.drawT rfl (by decide +kernel) ?_ | refine Run.drawW rfl (by decide +kernel) ?_); conv => whnf) | fail)
  refine Run.callBX (cut_of (.inr rfl) cutSB_fn) rfl rfl ⟨Le.refl _, Le.refl _, trivial⟩ rfl rfl rfl ?_
  (conv => whnf); repeat' (first | ((with_reducible refine Know.mk fun _ => ?_); conv => whnf) | ((with_reducible refine Need.mk ?_ ?_); exact nd; conv => whnf) | ((with_reducible first | refine Both.mk ?_ ?_ | refine Any.mk fun b hb => ?_ | refine AskB.dec (fun hb => ?_) (fun hb => ?_) | refine AskB.ndec (fun hb => ?_) (fun hb => ?_) | refine AskB.mk (fun hb => ?_) (fun hb => ?_)) <;> conv => whnf) | ((with_reducible first | refine Run.drawX rfl (by decide +kernel) ?_ | refine Run.drawT rfl (by decide +kernel) ?_ | refine Run.drawW rfl (by decide +kernel) ?_); conv => whnf) | fail)
  refine Run.callBX (cut_of (.inr rfl) cutSC_fn) rfl rfl ⟨Le.refl _, Le.refl _, trivial⟩ rfl rfl rfl ?_
  (conv => whnf); repeat' (first | ((with_reducible refine Know.mk fun _ => ?_); conv => whnf) | ((with_reducible refine Need.mk ?_ ?_); exact nd; conv => whnf) | ((with_reducible first | refine Both.mk ?_ ?_ | refine Any.mk fun b hb => ?_ | refine AskB.dec (fun hb => ?_) (fun hb => ?_) | refine AskB.ndec (fun hb => ?_) (fun hb => ?_) | refine AskB.mk (fun hb => ?_) (fun hb => ?_)) <;> conv => whnf) | ((with_reducible first | refine Run.drawX rfl (by decide +kernel) ?_ | refine Run.drawT rfl (by decide +kernel) ?_ | refine Run.drawW rfl (by decide +kernel) ?_); conv => whnf) | fail)
  refine Run.callBX atoi_aw rfl rfl ⟨Le.refl _, trivial⟩ rfl rfl rfl ?_
  (conv => whnf); repeat' (first | ((with_reducible refine Know.mk fun _ => ?_); conv => whnf) | ((with_reducible refine Need.mk ?_ ?_); exact nd; conv => whnf) | ((with_reducible first | refine Both.mk ?_ ?_ | refine Any.mk fun b hb => ?_ | refine AskB.dec (fun hb => ?_) (fun hb => ?_) | refine AskB.ndec (fun hb => ?_) (fun hb => ?_) | refine AskB.mk (fun hb => ?_) (fun hb => ?_)) <;> conv => whnf) | ((with_reducible first | refine Run.drawX rfl (by decide +kernel) ?_ | refine Run.drawT rfl (by decide +kernel) ?_ | refine Run.drawW rfl (by decide +kernel) ?_); conv => whnf) | fail)
  refine Run.callBX unf_aw rfl rfl ⟨Le.refl _, trivial⟩ rfl rfl rfl ?_
  (conv => whnf); repeat' (first | ((with_reducible refine Know.mk fun _ => ?_); conv => whnf) | ((with_reducible refine Need.mk ?_ ?_); exact nd; conv => whnf) | ((with_reducible first | refine Both.mk ?_ ?_ | refine Any.mk fun b hb => ?_ | refine AskB.dec (fun hb => ?_) (fun hb => ?_) | refine AskB.ndec (fun hb => ?_) (fun hb => ?_) | refine AskB.mk (fun hb => ?_) (fun hb => ?_)) <;> conv => whnf) | ((with_reducible first | refine Run.drawX rfl (by decide +kernel) ?_ | refine Run.drawT rfl (by decide +kernel) ?_ | refine Run.drawW rfl (by decide +kernel) ?_); conv => whnf) | fail)
  exact Run.leaveC2 (.inr ⟨_, rfl⟩) rfl Tryd.func23 rfl rfl rfl (Nat.le_of_ble_eq_true rfl) (Le.agg fun j hj => by
    match j, hj with
    | 0, _ => exact Le.refl _
    | 1, _ => exact tRd.nil) (Le.refl _)
theorem parse_aw : Fn Tryd.prog 11 [.str ⟨#[120, 10]⟩, tS.L awN1, .int .i64 1] (tupL [tEn.L [], .int .i64 0, .int .i64 170]) := by
  refine Fn.of Tryd.f11 _ Tryd.func11 rfl (by decide) (by show 3 ≤ _; decide) tbOk 73 rfl fun S w0 gl => ?_
  have hz : (ByteArray.mk #[120, 10]).size = 2 := rfl
  refine Run.go ?_; (conv => whnf); repeat' (first | ((with_reducible refine Know.mk fun _ => ?_); conv => whnf) | ((with_reducible refine Need.mk ?_ ?_); exact nd; conv => whnf) | ((with_reducible first | refine Both.mk ?_ ?_ | refine Any.mk fun b hb => ?_ | refine AskB.dec (fun hb => ?_) (fun hb => ?_) | refine AskB.ndec (fun hb => ?_) (fun hb => ?_) | refine AskB.mk (fun hb => ?_) (fun hb => ?_)) <;> conv => whnf) | ((with_reducible first | refine Run.drawX rfl (by decide +kernel) ?_ | refine Run.drawT rfl (by decide +kernel) ?_ | refine Run.drawW rfl (by decide +kernel) ?_); conv => whnf) | fail)
  refine Run.callBX (named17_fn awN1 (by decide) (fun s hs => ?_)) rfl rfl ⟨Le.refl _, trivial⟩ rfl rfl rfl ?_
  · simp only [awN1, List.mem_cons, List.not_mem_nil, or_false] at hs
    rcases hs with rfl
    decide
  rw [awN1_ok]
  (conv => whnf); repeat' (first | ((with_reducible refine Know.mk fun _ => ?_); conv => whnf) | ((with_reducible refine Need.mk ?_ ?_); exact nd; conv => whnf) | ((with_reducible refine Both.mk ?_ ?_) <;> conv => whnf) | ((with_reducible refine Any.mk fun b hb => ?_); conv => whnf) | ((with_reducible first | refine AskB.dec (fun hb => ?_) (fun hb => ?_) | refine AskB.ndec (fun hb => ?_) (fun hb => ?_) | refine AskB.mk (fun hb => ?_) (fun hb => ?_)) <;> first | (exfalso; omega) | (conv => whnf)) | ((with_reducible first | refine Run.drawX rfl (by decide +kernel) ?_ | refine Run.drawT rfl (by decide +kernel) ?_ | refine Run.drawW rfl (by decide +kernel) ?_); conv => whnf) | fail)
  all_goals try (exfalso; omega)
  all_goals try (cases hb; done)
  refine Run.loop [1, 2] (fun (i : Nat) => [(0, .str ⟨#[120, 10]⟩), (9, .nils), (10, .int .i64 (-1))]) (fun i => []) (fun i => i = 0) (fun i => 0) 0 rfl ⟨Le.refl _, Le.refl _, Le.refl _, trivial⟩ trivial ?_
  intro i hi IH
  refine Run.go ?_; (conv => whnf); repeat' (first | ((with_reducible refine Know.mk fun _ => ?_); conv => whnf) | ((with_reducible refine Need.mk ?_ ?_); exact nd; conv => whnf) | ((with_reducible first | refine Both.mk ?_ ?_ | refine Any.mk fun b hb => ?_ | refine AskB.dec (fun hb => ?_) (fun hb => ?_) | refine AskB.ndec (fun hb => ?_) (fun hb => ?_) | refine AskB.mk (fun hb => ?_) (fun hb => ?_)) <;> conv => whnf) | ((with_reducible first | refine Run.drawX rfl (by decide +kernel) ?_ | refine Run.drawT rfl (by decide +kernel) ?_ | refine Run.drawW rfl (by decide +kernel) ?_); conv => whnf) | fail)
  all_goals try (exact absurd hb (by decide))
  refine Run.callBX (cut_of (.inl rfl) cutSA_fn) rfl rfl ⟨Le.refl _, Le.refl _, trivial⟩ rfl rfl rfl ?_
  (conv => whnf); repeat' (first | ((with_reducible refine Know.mk fun _ => ?_); conv => whnf) | ((with_reducible refine Need.mk ?_ ?_); exact nd; conv => whnf) | ((with_reducible first | refine Both.mk ?_ ?_ | refine Any.mk fun b hb => ?_ | refine AskB.dec (fun hb => ?_) (fun hb => ?_) | refine AskB.ndec (fun hb => ?_) (fun hb => ?_) | refine AskB.mk (fun hb => ?_) (fun hb => ?_)) <;> conv => whnf) | ((with_reducible first | refine Run.drawX rfl (by decide +kernel) ?_ | refine Run.drawT rfl (by decide +kernel) ?_ | refine Run.drawW rfl (by decide +kernel) ?_); conv => whnf) | fail)
  refine Run.callBX entry_aw rfl rfl ⟨Le.refl _, Le.refl _, trivial⟩ rfl rfl rfl ?_
  (conv => whnf); repeat' (first | ((with_reducible refine Know.mk fun _ => ?_); conv => whnf) | ((with_reducible refine Need.mk ?_ ?_); exact nd; conv => whnf) | ((with_reducible first | refine Both.mk ?_ ?_ | refine Any.mk fun b hb => ?_ | refine AskB.dec (fun hb => ?_) (fun hb => ?_) | refine AskB.ndec (fun hb => ?_) (fun hb => ?_) | refine AskB.mk (fun hb => ?_) (fun hb => ?_)) <;> conv => whnf) | ((with_reducible first | refine Run.drawX rfl (by decide +kernel) ?_ | refine Run.drawT rfl (by decide +kernel) ?_ | refine Run.drawW rfl (by decide +kernel) ?_); conv => whnf) | fail)
  exact Run.leave (ts := [6,7,8]) (.inr ⟨_, rfl⟩) rfl Tryd.func11 rfl (resT ⟨tEn.nil, Le.refl _, Le.refl _, trivial⟩)
theorem awake17_fn : Fn Tryd.prog 6 [] .tt := by
  refine Fn.of Tryd.f6 _ Tryd.func6 rfl (by decide) (by show 0 ≤ _; decide) tbOk 38 rfl fun S w0 gl => ?_
  refine Run.go ?_; (conv => whnf); repeat' (first | ((with_reducible refine Know.mk fun _ => ?_); conv => whnf) | ((with_reducible refine Need.mk ?_ ?_); exact nd; conv => whnf) | ((with_reducible first | refine Both.mk ?_ ?_ | refine Any.mk fun b hb => ?_ | refine AskB.dec (fun hb => ?_) (fun hb => ?_) | refine AskB.ndec (fun hb => ?_) (fun hb => ?_) | refine AskB.mk (fun hb => ?_) (fun hb => ?_)) <;> conv => whnf) | ((with_reducible first | refine Run.drawX rfl (by decide +kernel) ?_ | refine Run.drawT rfl (by decide +kernel) ?_ | refine Run.drawW rfl (by decide +kernel) ?_); conv => whnf) | fail)
  refine Run.freeze 7 (by rfl) ?_
  refine Run.freeze 9 (by rfl) ?_
  refine Run.go ?_; (conv => whnf); repeat' (first | ((with_reducible refine Know.mk fun _ => ?_); conv => whnf) | ((with_reducible refine Need.mk ?_ ?_); exact nd; conv => whnf) | ((with_reducible first | refine Both.mk ?_ ?_ | refine Any.mk fun b hb => ?_ | refine AskB.dec (fun hb => ?_) (fun hb => ?_) | refine AskB.ndec (fun hb => ?_) (fun hb => ?_) | refine AskB.mk (fun hb => ?_) (fun hb => ?_)) <;> conv => whnf) | ((with_reducible first | refine Run.drawX rfl (by decide +kernel) ?_ | refine Run.drawT rfl (by decide +kernel) ?_ | refine Run.drawW rfl (by decide +kernel) ?_); conv => whnf) | fail)
  refine Run.freeze 11 (by rfl) ?_
  refine Run.go ?_; (conv => whnf); repeat' (first | ((with_reducible refine Know.mk fun _ => ?_); conv => whnf) | ((with_reducible refine Need.mk ?_ ?_); exact nd; conv => whnf) | ((with_reducible first | refine Both.mk ?_ ?_ | refine Any.mk fun b hb => ?_ | refine AskB.dec (fun hb => ?_) (fun hb => ?_) | refine AskB.ndec (fun hb => ?_) (fun hb => ?_) | refine AskB.mk (fun hb => ?_) (fun hb => ?_)) <;> conv => whnf) | ((with_reducible first | refine Run.drawX rfl (by decide +kernel) ?_ | refine Run.drawT rfl (by decide +kernel) ?_ | refine Run.drawW rfl (by decide +kernel) ?_); conv => whnf) | fail)
  refine Run.callAX print_aw rfl rfl ⟨?_, ?_, Le.refl _, trivial⟩ rfl rfl rfl ?_
  · refine Le.sl fun i j hi hj => ?_
    match i, hi, j, hj with
    | 0, _, 0, _ => exact Le.refl _
    | 0, _, 1, _ =>
      refine Le.sl fun i j hi hj => ?_
      match i, hi, j, hj with
      | 0, _, 0, _ => exact Le.refl _
      | 0, _, 1, _ => exact Le.refl _
      | 0, _, 2, _ =>
        refine Le.sl fun i j hi hj => ?_
        match i, hi, j, hj with
        | 0, _, 0, _ => exact Le.refl _
      | 1, _, 0, _ => exact Le.refl _
      | 1, _, 1, _ => exact Le.refl _
      | 1, _, 2, _ =>
        refine Le.sl fun i j hi hj => ?_
        match i, hi, j, hj with
        | 0, _, 0, _ => exact Le.refl _
        | 1, _, 0, _ => exact Le.refl _
  · refine Le.sl fun i j hi hj => ?_
    match i, hi, j, hj with
    | 0, _, 0, _ => exact Le.refl _
    | 1, _, 0, _ => exact Le.refl _
    | 2, _, 0, _ => exact Le.refl _
  (conv => whnf); repeat' (first | ((with_reducible refine Know.mk fun _ => ?_); conv => whnf) | ((with_reducible refine Need.mk ?_ ?_); exact nd; conv => whnf) | ((with_reducible first | refine Both.mk ?_ ?_ | refine Any.mk fun b hb => ?_ | refine AskB.dec (fun hb => ?_) (fun hb => ?_) | refine AskB.ndec (fun hb => ?_) (fun hb => ?_) | refine AskB.mk (fun hb => ?_) (fun hb => ?_)) <;> conv => whnf) | ((with_reducible first | refine Run.drawX rfl (by decide +kernel) ?_ | refine Run.drawT rfl (by decide +kernel) ?_ | refine Run.drawW rfl (by decide +kernel) ?_); conv => whnf) | fail)
  refine Run.freeze 19 (by rfl) ?_
  refine Run.go ?_; (conv => whnf); repeat' (first | ((with_reducible refine Know.mk fun _ => ?_); conv => whnf) | ((with_reducible refine Need.mk ?_ ?_); exact nd; conv => whnf) | ((with_reducible first | refine Both.mk ?_ ?_ | refine Any.mk fun b hb => ?_ | refine AskB.dec (fun hb => ?_) (fun hb => ?_) | refine AskB.ndec (fun hb => ?_) (fun hb => ?_) | refine AskB.mk (fun hb => ?_) (fun hb => ?_)) <;> conv => whnf) | ((with_reducible first | refine Run.drawX rfl (by decide +kernel) ?_ | refine Run.drawT rfl (by decide +kernel) ?_ | refine Run.drawW rfl (by decide +kernel) ?_); conv => whnf) | fail)
  refine Run.callBX parse_aw rfl rfl ⟨Le.refl _, ?_, Le.refl _, trivial⟩ rfl rfl rfl ?_
  · refine Le.sl fun i j hi hj => ?_
    match i, hi, j, hj with
    | 0, _, 0, _ => exact Le.refl _
  (conv => whnf); repeat' (first | ((with_reducible refine Know.mk fun _ => ?_); conv => whnf) | ((with_reducible refine Need.mk ?_ ?_); exact nd; conv => whnf) | ((with_reducible first | refine Both.mk ?_ ?_ | refine Any.mk fun b hb => ?_ | refine AskB.dec (fun hb => ?_) (fun hb => ?_) | refine AskB.ndec (fun hb => ?_) (fun hb => ?_) | refine AskB.mk (fun hb => ?_) (fun hb => ?_)) <;> conv => whnf) | ((with_reducible first | refine Run.drawX rfl (by decide +kernel) ?_ | refine Run.drawT rfl (by decide +kernel) ?_ | refine Run.drawW rfl (by decide +kernel) ?_); conv => whnf) | fail)
  all_goals first
    | exact absurd rfl hb
    | exact Run.leave (ts := [0]) (.inr ⟨_, rfl⟩) rfl Tryd.func6 rfl (Le.tt' (by decide))
theorem appChecks_fn (es : List En) (n c : Int) : Fn Tryd.prog 4 [tEn.L es, .int .i64 n, .int .i64 c] .tt := by
  refine Fn.of Tryd.f4 _ Tryd.func4 rfl (by decide) (by show 3 ≤ _; decide) tbOk 18 rfl fun S w0 gl => ?_
  refine Run.go ?_; (conv => whnf); repeat' (first | ((with_reducible refine Know.mk fun _ => ?_); conv => whnf) | ((with_reducible refine Need.mk ?_ ?_); exact nd; conv => whnf) | ((with_reducible first | refine Both.mk ?_ ?_ | refine Any.mk fun b hb => ?_ | refine AskB.dec (fun hb => ?_) (fun hb => ?_) | refine AskB.ndec (fun hb => ?_) (fun hb => ?_) | refine AskB.mk (fun hb => ?_) (fun hb => ?_)) <;> conv => whnf) | ((with_reducible first | refine Run.drawX rfl (by decide +kernel) ?_ | refine Run.drawT rfl (by decide +kernel) ?_ | refine Run.drawW rfl (by decide +kernel) ?_); conv => whnf) | fail)
  refine Run.callBX awake17_fn rfl rfl trivial rfl rfl rfl ?_
  (conv => whnf); repeat' (first | ((with_reducible refine Know.mk fun _ => ?_); conv => whnf) | ((with_reducible refine Need.mk ?_ ?_); exact nd; conv => whnf) | ((with_reducible first | refine Both.mk ?_ ?_ | refine Any.mk fun b hb => ?_ | refine AskB.dec (fun hb => ?_) (fun hb => ?_) | refine AskB.ndec (fun hb => ?_) (fun hb => ?_) | refine AskB.mk (fun hb => ?_) (fun hb => ?_)) <;> conv => whnf) | ((with_reducible first | refine Run.drawX rfl (by decide +kernel) ?_ | refine Run.drawT rfl (by decide +kernel) ?_ | refine Run.drawW rfl (by decide +kernel) ?_); conv => whnf) | fail)
  refine Run.callBX (appCheck_fn es n c) rfl rfl ⟨Le.refl _, Le.refl _, Le.refl _, trivial⟩ rfl rfl rfl ?_
  (conv => whnf); repeat' (first | ((with_reducible refine Know.mk fun _ => ?_); conv => whnf) | ((with_reducible refine Need.mk ?_ ?_); exact nd; conv => whnf) | ((with_reducible first | refine Both.mk ?_ ?_ | refine Any.mk fun b hb => ?_ | refine AskB.dec (fun hb => ?_) (fun hb => ?_) | refine AskB.ndec (fun hb => ?_) (fun hb => ?_) | refine AskB.mk (fun hb => ?_) (fun hb => ?_)) <;> conv => whnf) | ((with_reducible first | refine Run.drawX rfl (by decide +kernel) ?_ | refine Run.drawT rfl (by decide +kernel) ?_ | refine Run.drawW rfl (by decide +kernel) ?_); conv => whnf) | fail)
  refine Run.callBX (appCheckR_fn es n c) rfl rfl ⟨Le.refl _, Le.refl _, Le.refl _, trivial⟩ rfl rfl rfl ?_
  (conv => whnf); repeat' (first | ((with_reducible refine Know.mk fun _ => ?_); conv => whnf) | ((with_reducible refine Need.mk ?_ ?_); exact nd; conv => whnf) | ((with_reducible first | refine Both.mk ?_ ?_ | refine Any.mk fun b hb => ?_ | refine AskB.dec (fun hb => ?_) (fun hb => ?_) | refine AskB.ndec (fun hb => ?_) (fun hb => ?_) | refine AskB.mk (fun hb => ?_) (fun hb => ?_)) <;> conv => whnf) | ((with_reducible first | refine Run.drawX rfl (by decide +kernel) ?_ | refine Run.drawT rfl (by decide +kernel) ?_ | refine Run.drawW rfl (by decide +kernel) ?_); conv => whnf) | fail)
  exact Run.leave (ts := [6]) (.inr ⟨_, rfl⟩) rfl Tryd.func4 rfl (Le.tt' (decide_eq_true rfl))
end Go.Proofs.YteklnpgiloebcaaDoor.V

namespace Go.Proofs.YteklnpgiloebcaaDoor.V
set_option linter.unusedVariables false
set_option linter.unusedSimpArgs false
open Go Go.Proofs Go.RowKit
set_option maxRecDepth 100000
theorem dInt : Dec Tryd.prog 3 tI (fun _ => 1) := Dec.int (by kernel_rfl) (by kernel_rfl)
def bkI (l : List Int) : Nat := sumL (fun _ => 1) l + 1
theorem dIs : Dec Tryd.prog 40 (tL tI) bkI := Dec.slice (e := 3) (by kernel_rfl) (by kernel_rfl) (by decide) dInt
/-! ### bounds -/
end Go.Proofs.YteklnpgiloebcaaDoor.V

namespace Go.Proofs.YteklnpgiloebcaaDoor.V
set_option linter.unusedVariables false
set_option linter.unusedSimpArgs false
open Go Go.Proofs Go.RowKit
set_option maxRecDepth 100000
def bkRd (r : Rd) : Nat := r.text.size + sumL (fun _ => 1) r.wits + 4
theorem dRd : Dec Tryd.prog 42 tRd bkRd :=
  Dec.map (fun x : Bool × ByteArray × List Int × Unit => ⟨x.1, x.2.1, x.2.2.1⟩) rfl (fun x j hj => match j, hj with | 0, _ => Le.refl _ | 1, _ => Le.refl _ | 2, _ => Le.refl _) (fun x => by simp only [bkRd, bkI]; omega)
    (Dec.struct (t := 42) (fs := #[⟨"None", 4, 0, false, "", "", 0⟩, ⟨"Text", 9, 1, false, "", "", 8⟩, ⟨"Wits", 40, 2, false, "", "", 24⟩]) (by kernel_rfl) (by kernel_rfl) (DecF.cons rfl (Dec.bool (by kernel_rfl) (by kernel_rfl)) (DecF.cons rfl (Dec.str (by kernel_rfl) (by kernel_rfl)) (DecF.cons rfl dIs DecF.nil))))
def bkEn (e : En) : Nat := sumL bkRd e.rds + 3
theorem dEn : Dec Tryd.prog 45 tEn bkEn :=
  Dec.map (fun x : Int × List Rd × Unit => ⟨x.1, x.2.1⟩) rfl (fun x j hj => match j, hj with | 0, _ => Le.refl _ | 1, _ => Le.refl _) (fun x => by simp only [bkEn]; omega)
    (Dec.struct (t := 45) (fs := #[⟨"Col", 3, 0, false, "", "", 0⟩, ⟨"Readings", 43, 1, false, "", "", 8⟩]) (by kernel_rfl) (by kernel_rfl) (DecF.cons rfl dInt (DecF.cons rfl (Dec.slice (e := 42) (t := 43) (by kernel_rfl) (by kernel_rfl) (by decide) dRd) DecF.nil)))
theorem argEn : Arg Tryd.prog 22 (fun l : List En => tEn.L l) (fun l => sumL bkEn l + 1) := Arg.slice (T := tEn) (e := 45) (by kernel_rfl) (by kernel_rfl) (by decide) dEn
end Go.Proofs.YteklnpgiloebcaaDoor.V

