/-
The texts BTc, BGz, BAa, BNa, BNl, BNc, BNd, BAi, VS, BAr, BAb, BAc, BAd, BTf, BAj, BAt, BAv, BAs, BAe, VM, VN, VJ, VK, BAu, BAk, BAx, VT, of each what the law needs.
-/
import Derived.Test.YteklnpgiloebcaaDoorQAP2
import Derived.Lib.Join
import Derived.Lib.ItoaNum
import Derived.Shelf.Strconv.Itoa0
import Derived.Shelf.Strconv.Itoa1
import Derived.Shelf.LaysM
import Derived.Shelf.Strconv.Itoa2
import Derived.Shelf.Strconv.Itoa3
import Derived.Shelf.Strings.Builder1
import Derived.Shelf.Strings.Builder2
import Derived.Shelf.Strings.OnBuilder
import Derived.Shelf.Small.Strs
namespace Go.Proofs.YteklnpgiloebcaaDoor.V
set_option linter.unusedVariables false
set_option linter.unusedSimpArgs false
open Go Go.Proofs Go.RowKit
set_option maxRecDepth 100000
set_option maxHeartbeats 4000000
theorem tot_le {t : Tab} (hf : FitT t) : ∀ n, n ≤ t.wits.length → sumR (lens t) n ≤ n * 2000000
  | 0, _ => by simp [sumR]
  | n + 1, h => by
    have h1 := tot_le hf n (by omega)
    have h2 := (hf.wit (t.wits.getD n wit0) (getD_mem' n (by omega))).2.1
    simp only [sumR, lens, witAt] at *
    rw [Nat.add_mul]; omega
theorem ins_mem {α : Type} [DecidableEq α] (k : α) : ∀ (l : List α) (x : α), x ∈ ins k l ↔ x = k ∨ x ∈ l
  | [], x => by simp [ins]
  | p :: l, x => by
    unfold ins
    split
    · rename_i e; subst e; simp
    · rw [List.mem_cons, ins_mem k l x, List.mem_cons]
      constructor
      · rintro (h | h | h)
        · exact .inr (.inl h)
        · exact .inl h
        · exact .inr (.inr h)
      · rintro (h | h | h)
        · exact .inr (.inl h)
        · exact .inl h
        · exact .inr (.inr h)
theorem check_fn (t : Tab) (hf : FitT t) : Fn Tryd.prog 25 [tbA t] (.int .i64 (chkT t)) := by
  refine Fn.of Tryd.f25 _ Tryd.func25 rfl (by decide) (by show 1 ≤ _; decide) tbOk 124 rfl fun S w0 gl => ?_
  have hno : ∀ {P : Prop}, (OkT t → ¬ P) → P → chkT t = 121 := fun h p => chk_no (fun o => h o p)
  have hfw := hf.wits
  have hfc := hf.cols
  refine Run.go ?_; (conv => whnf); repeat' (first | ((with_reducible refine Know.mk fun _ => ?_); conv => whnf) | ((with_reducible refine Need.mk ?_ ?_); exact nd; conv => whnf) | ((with_reducible first | refine Both.mk ?_ ?_ | refine Any.mk fun b hb => ?_ | refine AskB.dec (fun hb => ?_) (fun hb => ?_) | refine AskB.ndec (fun hb => ?_) (fun hb => ?_) | refine AskB.mk (fun hb => ?_) (fun hb => ?_)) <;> conv => whnf) | ((with_reducible first | refine Run.drawX rfl (by decide +kernel) ?_ | refine Run.drawT rfl (by decide +kernel) ?_ | refine Run.drawW rfl (by decide +kernel) ?_); conv => whnf) | fail)
  · exact Run.leave (ts := [2]) (.inr ⟨_, rfl⟩) rfl Tryd.func25 rfl (Le.int (hno (fun o h => by have := o.n1; omega) hb).symm)
  · exact Run.leave (ts := [2]) (.inr ⟨_, rfl⟩) rfl Tryd.func25 rfl (Le.int (hno (fun o h => by have := o.n12; omega) hb).symm)
  · exact Run.leave (ts := [2]) (.inr ⟨_, rfl⟩) rfl Tryd.func25 rfl (Le.int (hno (fun o h => by have := o.nc; omega) hb).symm)
  have hn1 : 1 ≤ t.wits.length := by omega
  have hn12 : t.wits.length ≤ 12 := by omega
  have hnc : t.cols.length ≤ 4096 := by omega
  have htl := tot_le hf
  refine Run.loop [3, 31, 32] (fun (a : Nat × List ByteArray) => [(1, .box 1 0), (4, .int .i64 ((sumR (lens t) a.1 : Nat) : Int)), (33, .int .i64 (a.1 : Int))]) (fun a => [(1, .box 67 [tWit.L t.wits, tIL.L t.cols]), (29, .mp (.sb a.2))])
    (fun a => a.1 ≤ t.wits.length ∧ (∀ i, i < a.1 → WitOk t i) ∧ ∀ s, s ∈ a.2 ↔ ∃ k, k < a.1 ∧ (witAt t k).name = s) (fun a => t.wits.length - a.1) (0, []) ⟨Nat.zero_le _, fun i hi => absurd hi (Nat.not_lt_zero _), fun s => ⟨fun h => (by cases h), fun ⟨k, hk, _⟩ => absurd hk (Nat.not_lt_zero _)⟩⟩
    ⟨Le.refl _, Le.refl _, Le.refl _, trivial⟩ ⟨MOle.refl _, MOle.refl _, trivial⟩ ?_
  intro ⟨i, l⟩ ⟨hi, hwk, hl⟩ IH
  simp only [] at hi hwk hl ⊢
  have hwi : IntKind.i64.wrap ((i : Int) + 1) = ((i + 1 : Nat) : Int) := wrap64 (by omega) (by omega)
  have hti := htl i hi
  refine Run.go ?_; (conv => whnf); repeat' (first | ((with_reducible refine Know.mk fun _ => ?_); conv => whnf) | ((with_reducible refine Need.mk ?_ ?_); exact nd; conv => whnf) | ((with_reducible first | refine Both.mk ?_ ?_ | refine Any.mk fun b hb => ?_ | refine AskB.dec (fun hb => ?_) (fun hb => ?_) | refine AskB.ndec (fun hb => ?_) (fun hb => ?_) | refine AskB.mk (fun hb => ?_) (fun hb => ?_)) <;> conv => whnf) | ((with_reducible first | refine Run.drawX rfl (by decide +kernel) ?_ | refine Run.drawT rfl (by decide +kernel) ?_ | refine Run.drawW rfl (by decide +kernel) ?_); conv => whnf) | fail)
  · have hil : i < t.wits.length := by omega
    have hwt := hf.wit (witAt t i) (getD_mem' i hil)
    refine Run.callBX (named_fn (witAt t i).name) rfl rfl ⟨Le.refl _, trivial⟩ rfl rfl rfl ?_
    (conv => whnf); repeat' (first | ((with_reducible refine Know.mk fun _ => ?_); conv => whnf) | ((with_reducible refine Need.mk ?_ ?_); exact nd; conv => whnf) | ((with_reducible first | refine Both.mk ?_ ?_ | refine Any.mk fun b hb => ?_ | refine AskB.dec (fun hb => ?_) (fun hb => ?_) | refine AskB.ndec (fun hb => ?_) (fun hb => ?_) | refine AskB.mk (fun hb => ?_) (fun hb => ?_)) <;> conv => whnf) | ((with_reducible first | refine Run.drawX rfl (by decide +kernel) ?_ | refine Run.drawT rfl (by decide +kernel) ?_ | refine Run.drawW rfl (by decide +kernel) ?_); conv => whnf) | fail)
    · have hk : ¬ WitOk t i := fun h => by
        have hd := (hasK_iff _ _).mp hb
        obtain ⟨k, hk1, hk2⟩ := (hl _).mp hd
        exact h.2.2 k hk1 hk2
      exact Run.leave (ts := [2]) (.inr ⟨_, rfl⟩) rfl Tryd.func25 rfl (Le.int (hno (fun o h => h (o.wit i hil)) hk).symm)
    · refine Run.callBX (right19_fn (witAt t i).head (witAt t i).words hwt.1) rfl rfl ⟨Le.refl _, Le.refl _, trivial⟩ rfl rfl rfl ?_
      (conv => whnf); repeat' (first | ((with_reducible refine Know.mk fun _ => ?_); conv => whnf) | ((with_reducible refine Need.mk ?_ ?_); exact nd; conv => whnf) | ((with_reducible first | refine Both.mk ?_ ?_ | refine Any.mk fun b hb => ?_ | refine AskB.dec (fun hb => ?_) (fun hb => ?_) | refine AskB.ndec (fun hb => ?_) (fun hb => ?_) | refine AskB.mk (fun hb => ?_) (fun hb => ?_)) <;> conv => whnf) | ((with_reducible first | refine Run.drawX rfl (by decide +kernel) ?_ | refine Run.drawT rfl (by decide +kernel) ?_ | refine Run.drawW rfl (by decide +kernel) ?_); conv => whnf) | fail)
      · have hk : ¬ WitOk t i := fun h => by rw [h.2.1] at hb; cases hb
        exact Run.leave (ts := [2]) (.inr ⟨_, rfl⟩) rfl Tryd.func25 rfl (Le.int (hno (fun o h => h (o.wit i hil)) hk).symm)
      · have hwt2 := hwt.2.1
        have hok : WitOk t i := ⟨by assumption, by simpa using hb, fun k hk e => (hasK_not _ _).mp (by assumption) ((hl _).mpr ⟨k, hk, e⟩)⟩
        refine Run.to _ _ ?_ ?_ (IH (i + 1, ins (witAt t i).name l) (by simp only []; omega) ⟨by simp only []; omega, fun k hk => ?_, fun s => ?_⟩)
        · refine ⟨Le.refl _, Le.refl _, Le.refl _, Le.refl _, Le.int ?_, Le.int hwi, trivial⟩
          show IntKind.i64.wrap ((sumR (lens t) i : Nat) + ((witAt t i).words.length : Int)) = _
          rw [wrap64 (by omega) (by omega)]
          simp only [sumR, lens]; omega
        · exact ⟨MOle.refl _, MOle.refl _, trivial⟩
        · by_cases e : k = i
          · subst e; exact hok
          · exact hwk k (by omega)
        · rw [ins_mem, hl]
          constructor
          · rintro (rfl | ⟨k, hk, rfl⟩)
            · exact ⟨i, Nat.lt_succ_self i, rfl⟩
            · exact ⟨k, Nat.lt_succ_of_lt hk, rfl⟩
          · rintro ⟨k, hk, rfl⟩
            by_cases e : k = i
            · subst e; exact .inl rfl
            · exact .inr ⟨k, by omega, rfl⟩
    · have hk : ¬ WitOk t i := fun h => hb h.1
      exact Run.leave (ts := [2]) (.inr ⟨_, rfl⟩) rfl Tryd.func25 rfl (Le.int (hno (fun o h => h (o.wit i hil)) hk).symm)
  obtain rfl : i = t.wits.length := by omega
  clear IH
  have htot : tot t ≤ 24000000 := by
    have := htl t.wits.length (Nat.le_refl _)
    unfold tot; omega
  refine Run.loop [1, 69, 70] (fun (c : Nat) => [(4, .int .i64 ((tot t - sumN t c 0 : Nat) : Int)), (7, .row 67), (71, .int .i64 (c : Int))]) (fun c => [(1, .box 67 [tWit.L t.wits, tIL.L t.cols]), (67, tI.R 3 (nextL t c 0))])
    (fun c => c ≤ t.cols.length ∧ (∀ k, k < c → ColOk t k) ∧ LeT t c 0) (fun c => t.cols.length - c) 0 ⟨Nat.zero_le _, fun i hi => absurd hi (Nat.not_lt_zero _), fun j hj => by simp [nx, cnt]⟩
    ⟨Le.int ?_, Le.refl _, Le.refl _, trivial⟩ ⟨MOle.refl _, ?_, trivial⟩ ?_
  · have : sumN t 0 0 = 0 := by
      unfold sumN
      have h0 : ∀ n, sumR (nx t 0 0) n = 0 := fun n => by
        induction n with
        | zero => rfl
        | succ n ih => simp only [sumR, ih]; simp [nx, cnt]
      exact h0 _
    rw [this, Nat.sub_zero]; rfl
  · rw [nextL_zero]
    refine ⟨rfl, rfl, by simp, fun i j hi hj => ?_⟩
    obtain rfl : j = 0 := by have : j < 1 := hj; omega
    refine Le.int ?_
    have hi' : i < t.wits.length := by simpa using hi
    rw [List.getD, List.getElem?_replicate, if_pos hi']; rfl
  intro c ⟨hc, hck, hle⟩ IH
  have hwc : IntKind.i64.wrap ((c : Int) + 1) = ((c + 1 : Nat) : Int) := wrap64 (by omega) (by omega)
  have hs0 := le_sum hle
  have hnl := nextL_len t c 0
  show Run _ _ (lst (_ ++ [(4, .int .i64 ((tot t - sumN t c 0 : Nat) : Int)), (7, .row 67), (71, .int .i64 (c : Int))])) (lstH [(1, .box 67 [tWit.L t.wits, tIL.L t.cols]), (67, tI.R 3 (nextL t c 0))])
  have hcl : c < t.cols.length → (t.cols.getD (c : Int).toNat tIL.z).length ≤ 2000000 := fun h => hf.col _ (getD_mem' c h)
  refine Run.go ?_; (conv => whnf); repeat' (first | ((with_reducible refine Know.mk fun _ => ?_); conv => whnf) | ((with_reducible refine Need.mk ?_ ?_); exact nd; conv => whnf) | ((with_reducible refine Both.mk ?_ ?_) <;> conv => whnf) | ((with_reducible refine Any.mk fun b hb => ?_); conv => whnf) | ((with_reducible first | refine AskB.dec (fun hb => ?_) (fun hb => ?_) | refine AskB.ndec (fun hb => ?_) (fun hb => ?_) | refine AskB.mk (fun hb => ?_) (fun hb => ?_)) <;> first | (exfalso; omega) | (conv => whnf)) | ((with_reducible first | refine Run.drawX rfl (by decide +kernel) ?_ | refine Run.drawT rfl (by decide +kernel) ?_ | refine Run.drawW rfl (by decide +kernel) ?_); conv => whnf) | fail)
  all_goals try (exfalso; omega)
  · have hcc : c < t.cols.length := by omega
    have hlen : (t.cols.getD c []).length = t.wits.length := by
      have h2 : (t.cols.getD (c : Int).toNat tIL.z).length = t.wits.length := by omega
      exact h2
    refine Run.loop [1, 10, 69, 70, 71, 81, 82] (fun (i : Nat) => [(4, .int .i64 ((tot t - sumN t c i : Nat) : Int)), (7, .row 67), (83, .int .i64 (i : Int))]) (fun i => [(1, .box 67 [tWit.L t.wits, tIL.L t.cols]), (67, tI.R 3 (nextL t c i))])
      (fun i => i ≤ t.wits.length ∧ LeT t c i ∧ (∀ k, k < i → atC t c k = -1 ∨ (atC t c k = (cnt (t.cols.take c) k : Nat) ∧ cnt (t.cols.take c) k < (witAt t k).words.length)) ∧ (sumN t c i = sumN t c 0 → ∀ k, k < i → atC t c k = -1)) (fun i => t.wits.length - i) 0 ⟨Nat.zero_le _, hle, fun i hi => absurd hi (Nat.not_lt_zero _), fun _ i hi => absurd hi (Nat.not_lt_zero _)⟩
      ⟨Le.refl _, Le.refl _, Le.refl _, trivial⟩ ⟨MOle.refl _, MOle.refl _, trivial⟩ ?_
    intro i ⟨hi, hlei, hcells, hsame⟩ IHi
    have hwi : IntKind.i64.wrap ((i : Int) + 1) = ((i + 1 : Nat) : Int) := wrap64 (by omega) (by omega)
    have hsi := le_sum hlei
    have hnli := nextL_len t c i
    have hge : sumN t c 0 ≤ sumN t c i := sumR_le _ (fun j hj => by
      unfold nx
      rw [if_neg (Nat.not_lt_zero _)]
      split
      · rw [cnt_take _ _ _ hcc]; omega
      · exact Nat.le_refl _)
    show Run _ _ (lst (_ ++ [(4, .int .i64 ((tot t - sumN t c i : Nat) : Int)), (7, .row 67), (83, .int .i64 (i : Int))])) (lstH [(1, .box 67 [tWit.L t.wits, tIL.L t.cols]), (67, tI.R 3 (nextL t c i))])
    by_cases hil : i < t.wits.length
    · have hx : (t.cols.getD (c : Int).toNat tIL.z).getD (i : Int).toNat tI.z = atC t c i := rfl
      have hn : (nextL t c i).getD (i : Int).toNat tI.z = ((cnt (t.cols.take c) i : Nat) : Int) := by
        have := nextL_at t c i i hil
        rw [nx_same] at this; exact this
      have hlw : lens t i ≤ 2000000 := (hf.wit (witAt t i) (getD_mem' i hil)).2.1
      have hcnt : cnt (t.cols.take c) i ≤ lens t i := by
        have := hlei i hil
        rw [nx_same] at this; exact this
      have hlw2 : (t.wits.getD (i : Int).toNat tWit.z).words.length = lens t i := rfl
      refine Run.go ?_; (conv => whnf); repeat' (first | ((with_reducible refine Know.mk fun _ => ?_); conv => whnf) | ((with_reducible refine Need.mk ?_ ?_); exact nd; conv => whnf) | ((with_reducible refine Both.mk ?_ ?_) <;> conv => whnf) | ((with_reducible refine Any.mk fun b hb => ?_); conv => whnf) | ((with_reducible first | refine AskB.dec (fun hb => ?_) (fun hb => ?_) | refine AskB.ndec (fun hb => ?_) (fun hb => ?_) | refine AskB.mk (fun hb => ?_) (fun hb => ?_)) <;> first | (exfalso; omega) | (conv => whnf)) | ((with_reducible first | refine Run.drawX rfl (by decide +kernel) ?_ | refine Run.drawT rfl (by decide +kernel) ?_ | refine Run.drawW rfl (by decide +kernel) ?_); conv => whnf) | fail)
      all_goals try (exfalso; omega)
      · have hm : atC t c i = -1 := by omega
        refine Run.to _ _ ?_ ?_ (IHi (i + 1) (by omega) ⟨by omega, le_none hcc hlei hm, fun k hk => ?_, fun he k hk => ?_⟩)
        · refine ⟨Le.refl _, Le.refl _, Le.refl _, Le.refl _, Le.refl _, Le.refl _, Le.refl _, ?_, Le.refl _, Le.int hwi, trivial⟩
          rw [sumN_none hcc hm]; exact Le.refl _
        · refine ⟨MOle.refl _, ?_, trivial⟩
          rw [nextL_none hcc hm]; exact MOle.refl _
        · by_cases e : k = i
          · subst e; exact .inl hm
          · exact hcells k (by omega)
        · rw [sumN_none hcc hm] at he
          by_cases e : k = i
          · subst e; exact hm
          · exact hsame he k (by omega)
      · have hxe : atC t c i = ((cnt (t.cols.take c) i : Nat) : Int) := by omega
        have hne : atC t c i ≠ -1 := by omega
        have hlt : cnt (t.cols.take c) i < lens t i := by omega
        have hle2 := le_some hcc hlei hne (by rw [nx_same]; exact hlt)
        have hs2 := le_sum hle2
        have hsm := sumN_some hcc hil hne
        refine Run.to _ _ ?_ ?_ (IHi (i + 1) (by omega) ⟨by omega, hle2, fun k hk => ?_, fun he => ?_⟩)
        · refine ⟨Le.refl _, Le.refl _, Le.refl _, Le.refl _, Le.refl _, Le.refl _, Le.refl _, Le.int ?_, Le.refl _, Le.int hwi, trivial⟩
          rw [wrap64 (by omega) (by omega)]; omega
        · refine ⟨MOle.refl _, ?_, trivial⟩
          rw [nextL_some hcc hil hne]
          refine tI.set 3 (nextL t c i) i _ (by omega) _ rfl (Le.one (Le.int ?_))
          rw [hn, nx_same, wrap64 (by omega) (by omega)]
        · by_cases e : k = i
          · subst e; exact .inr ⟨hxe, hlt⟩
          · exact hcells k (by omega)
        · omega
      all_goals
        have hk : ¬ ColOk t c := fun h => by
          rcases h.2.1 i hil with h1 | ⟨h1, h2⟩
          · omega
          · have h3 : cnt (t.cols.take c) i < lens t i := h2
            omega
        exact Run.leave (ts := [2]) (.inr ⟨_, rfl⟩) rfl Tryd.func25 rfl (Le.int (hno (fun o h => h (o.col c hcc)) hk).symm)
    · obtain rfl : i = t.wits.length := by omega
      refine Run.go ?_; (conv => whnf); repeat' (first | ((with_reducible refine Know.mk fun _ => ?_); conv => whnf) | ((with_reducible refine Need.mk ?_ ?_); exact nd; conv => whnf) | ((with_reducible refine Both.mk ?_ ?_) <;> conv => whnf) | ((with_reducible refine Any.mk fun b hb => ?_); conv => whnf) | ((with_reducible first | refine AskB.dec (fun hb => ?_) (fun hb => ?_) | refine AskB.ndec (fun hb => ?_) (fun hb => ?_) | refine AskB.mk (fun hb => ?_) (fun hb => ?_)) <;> first | (exfalso; omega) | (conv => whnf)) | ((with_reducible first | refine Run.drawX rfl (by decide +kernel) ?_ | refine Run.drawT rfl (by decide +kernel) ?_ | refine Run.drawW rfl (by decide +kernel) ?_); conv => whnf) | fail)
      all_goals try (exfalso; omega)
      · have hk : ¬ ColOk t c := fun h => by
          obtain ⟨k, hk1, hk2⟩ := h.2.2
          exact hk2 (hsame (by omega) k hk1)
        exact Run.leave (ts := [2]) (.inr ⟨_, rfl⟩) rfl Tryd.func25 rfl (Le.int (hno (fun o h => h (o.col c hcc)) hk).symm)
      · have hok : ColOk t c := ⟨hlen, hcells, by
          refine Classical.byContradiction fun hno' => ?_
          have hall : ∀ k, k < t.wits.length → atC t c k = -1 := fun k hk => Classical.byContradiction fun h => hno' ⟨k, hk, h⟩
          have hz : ∀ n, n ≤ t.wits.length → sumN t c n = sumN t c 0 := fun n => by
            induction n with
            | zero => intro _; rfl
            | succ n ih => intro h; rw [sumN_none hcc (hall n (by omega)), ih (by omega)]
          have := hz _ (Nat.le_refl _)
          omega⟩
        refine Run.to _ _ ?_ ?_ (IH (c + 1) (by omega) ⟨by omega, fun k hk => ?_, le_end hlei⟩)
        · refine ⟨Le.refl _, Le.refl _, Le.refl _, ?_, Le.refl _, Le.int hwc, trivial⟩
          rw [← sumN_end]; exact Le.refl _
        · refine ⟨MOle.refl _, ?_, trivial⟩
          rw [← nextL_end]; exact MOle.refl _
        · by_cases e : k = c
          · subst e; exact hok
          · exact hck k (by omega)
  · have hcc : c < t.cols.length := by omega
    have hk : ¬ ColOk t c := fun h => by
      have h1 := h.1
      have h2 : (t.cols.getD (c : Int).toNat tIL.z).length = t.wits.length := h1
      omega
    exact Run.leave (ts := [2]) (.inr ⟨_, rfl⟩) rfl Tryd.func25 rfl (Le.int (hno (fun o h => h (o.col c hcc)) hk).symm)
  all_goals obtain rfl : c = t.cols.length := by omega
  · refine Run.leave (ts := [2]) (.inr ⟨_, rfl⟩) rfl Tryd.func25 rfl (Le.int (hno (fun o h => ?_) hb).symm)
    have := sum_of o.all
    omega
  · refine Run.leave (ts := [2]) (.inr ⟨_, rfl⟩) rfl Tryd.func25 rfl (Le.int (chk_ok ⟨hn1, hn12, hnc, hwk, hck, all_of hle (by omega)⟩).symm)
end Go.Proofs.YteklnpgiloebcaaDoor.V

namespace Go.Proofs.YteklnpgiloebcaaDoor.V
set_option linter.unusedVariables false
set_option linter.unusedSimpArgs false
open Go Go.Proofs Go.RowKit
structure Rd where
  none : Bool
  text : ByteArray
  wits : List Int
deriving DecidableEq
def rd0 : Rd := ⟨false, .empty, []⟩
def tRd : Ty Rd := ⟨3, fun r j => match j with | 0 => .bool r.none | 1 => .str r.text | _ => tI.L r.wits, rd0⟩
end Go.Proofs.YteklnpgiloebcaaDoor.V

namespace Go.Proofs.YteklnpgiloebcaaDoor.V
set_option linter.unusedVariables false
set_option linter.unusedSimpArgs false
open Go
set_option linter.deprecated false
structure En where
  col : Int
  rds : List Rd
def tEn : Ty En := ⟨2, fun e j => match j with | 0 => .int .i64 e.col | _ => tRd.L e.rds, ⟨0, []⟩⟩
def fl (rds : List Rd) : List Int := rds.flatMap (·.wits)
def seenL (n : Int) (l : List Int) : List Bool := (List.range n.toNat).map fun (w : Nat) => decide ((w : Int) ∈ l)
structure RdOk (n : Int) (r : Rd) : Prop where
  some : r.wits ≠ []
  nons : r.none = decide (r.text = ⟨#[]⟩)
  up : r.wits.Pairwise (· < ·)
  rng : ∀ w ∈ r.wits, 0 ≤ w ∧ w < n
structure Part (n : Int) (rds : List Rd) : Prop where
  each : ∀ r ∈ rds, RdOk n r
  nodup : (fl rds).Nodup
  apart : rds.Pairwise (fun p r => p.text ≠ r.text ∧ p.wits.headD 0 < r.wits.headD 0)
def Right (n : Int) (rds : List Rd) : Prop := Part n rds ∧ 2 ≤ rds.length ∧ ((fl rds).length : Int) = n
noncomputable instance (n : Int) (rds : List Rd) : Decidable (Right n rds) := Classical.propDecidable _

theorem seen_at {n : Int} {l : List Int} {w : Int} (h0 : 0 ≤ w) (h1 : w < n) : (seenL n l).getD w.toNat false = decide (w ∈ l) := by
  have h2 : w.toNat < n.toNat := by omega
  have h3 : ((w.toNat : Nat) : Int) = w := by omega
  simp [seenL, List.getD, h2, h3]
theorem getD_mem {α : Type} {z : α} {l : List α} (i : Nat) (h : i < l.length) : l.getD i z ∈ l := by
  rw [List.getD, List.getElem?_eq_getElem h]; exact List.getElem_mem h
theorem take_get {α : Type} (z : α) (l : List α) (i : Nat) (h : i < l.length) : l.take (i + 1) = l.take i ++ [l.getD i z] := by
  rw [List.take_succ, List.getD, List.getElem?_eq_getElem h]; rfl
theorem all_get {α : Type} (z : α) (l : List α) (i : Nat) (h : i < l.length) : l = l.take i ++ l.getD i z :: l.drop (i + 1) := by
  rw [List.getD, List.getElem?_eq_getElem h, Option.getD_some, List.getElem_cons_drop, List.take_append_drop]
theorem fl_append (a b : List Rd) : fl (a ++ b) = fl a ++ fl b := by simp [fl]
theorem fl_take (z : Rd) (l : List Rd) (i : Nat) (h : i < l.length) : fl (l.take (i + 1)) = fl (l.take i) ++ (l.getD i z).wits := by
  rw [take_get z l i h, fl_append]; simp [fl]
theorem fl_sub (z : Rd) (l : List Rd) (i : Nat) (h : i < l.length) : ∃ rest, fl l = fl (l.take i) ++ (l.getD i z).wits ++ rest := by
  refine ⟨fl (l.drop (i + 1)), ?_⟩
  have := congrArg fl (all_get z l i h)
  rw [fl_append] at this
  rw [this]; simp [fl]
theorem pair_at {R : Int → Int → Prop} {l : List Int} (h : l.Pairwise R) {i j : Nat} (hij : i < j) (hj : j < l.length) : R (l.getD i 0) (l.getD j 0) := by
  rw [List.getD, List.getD, List.getElem?_eq_getElem hj, List.getElem?_eq_getElem (by omega)]
  exact List.pairwise_iff_getElem.mp h i j (by omega) hj hij
theorem pair_push {R : Int → Int → Prop} (tr : ∀ a b c, R a b → R b c → R a c) {l : List Int} {k : Nat} (hk : k < l.length) (h : (l.take k).Pairwise R) (hl : 0 < k → R (l.getD (k - 1) 0) (l.getD k 0)) : (l.take (k + 1)).Pairwise R := by
  rw [take_get 0 l k hk]
  refine List.pairwise_append.mpr ⟨h, by simp, fun a ha b hb => ?_⟩
  have hb' : b = l.getD k 0 := by simpa using hb
  subst hb'
  obtain ⟨j, hj, rfl⟩ := List.getElem_of_mem ha
  have hj' : j < k := by simp at hj; omega
  by_cases e : j = k - 1
  · subst e
    have := hl (by omega)
    simpa [List.getD, show k - 1 < l.length by omega] using this
  · have h1 := List.pairwise_iff_getElem.mp h j (k - 1) hj (by simp; omega) (by omega)
    refine tr _ _ _ h1 ?_
    have := hl (by omega)
    simpa [List.getD, show k - 1 < l.length by omega] using this

theorem nodup_len : ∀ (m : Nat) (l : List Int), l.Nodup → (∀ w ∈ l, 0 ≤ w ∧ w < (m : Int)) → l.length ≤ m
  | 0, l, _, h => by
    cases l with
    | nil => simp
    | cons a l => have := h a (by simp); omega
  | m + 1, l, hn, h => by
    have h1 := nodup_len m (l.erase (m : Int)) (hn.erase _) (fun w hw => by
      have h2 := h w (List.mem_of_mem_erase hw)
      have h3 : w ≠ (m : Int) := fun e => by rw [e] at hw; exact hn.not_mem_erase hw
      omega)
    have h4 : l.length ≤ (l.erase (m : Int)).length + 1 := by rw [List.length_erase]; split <;> omega
    omega
theorem seen_upd {n : Int} {l : List Int} {w : Int} (h0 : 0 ≤ w) (h1 : w < n) (c : List AV) (hc : c = [.tt]) : MOle (.row 4 1 n.toNat (updRow (tB.G (seenL n l)) w.toNat 0 c)) (.row 4 1 n.toNat (tB.G (seenL n (l ++ [w])))) := by
  subst hc
  refine ⟨rfl, rfl, rfl, fun i j hi hj => ?_⟩
  have : j = 0 := by omega
  subst this
  have e1 : ∀ l : List Int, (seenL n l).getD i false = decide ((i : Int) ∈ l) := fun l => by
    have := seen_at (n := n) (l := l) (w := (i : Int)) (by omega) (by omega)
    simpa using this
  unfold updRow
  by_cases hiw : i = w.toNat
  · rw [if_pos ⟨hiw, Nat.le_refl _, by simp⟩]
    refine Le.tt.trans (Le.bool ?_)
    show true = (seenL n (l ++ [w])).getD i false
    rw [e1, eq_comm, decide_eq_true_eq]
    exact List.mem_append.mpr (.inr (by simp; omega))
  · rw [if_neg (fun h => hiw h.1)]
    refine Le.bool ?_
    show (seenL n l).getD i false = (seenL n (l ++ [w])).getD i false
    rw [e1, e1, decide_eq_decide, List.mem_append]
    have : ¬ (i : Int) = w := by omega
    simp [this]

theorem pair_atG {α : Type} {R : α → α → Prop} {z : α} {l : List α} (h : l.Pairwise R) {i j : Nat} (hij : i < j) (hj : j < l.length) : R (l.getD i z) (l.getD j z) := by
  rw [List.getD, List.getD, List.getElem?_eq_getElem hj, List.getElem?_eq_getElem (by omega)]
  exact List.pairwise_iff_getElem.mp h i j (by omega) hj hij
theorem head_get (l : List Int) : l.headD 0 = l.getD 0 0 := by cases l <;> rfl

def lastW (l : List Rd) : Int := (l.getLast?.map fun r => r.wits.headD 0).getD (-1)
theorem ins_new {α : Type} [DecidableEq α] {k : α} : ∀ {l : List α}, k ∉ l → ins k l = l ++ [k]
  | [], _ => rfl
  | p :: l, h => by
    have h1 : ¬ k = p := fun e => h (by simp [e])
    rw [ins, if_neg h1, ins_new (fun h2 => h (by simp [h2]))]; rfl
theorem lastW_lt {n : Int} {rds : List Rd} (h : Part n rds) {i : Nat} (hi : i < rds.length) : lastW (rds.take i) < (rds.getD i tRd.z).wits.headD 0 := by
  have hr := h.each _ (getD_mem (z := tRd.z) i hi)
  cases i with
  | zero =>
    have h1 : (rds.getD 0 tRd.z).wits.headD 0 ∈ (rds.getD 0 tRd.z).wits := by
      cases hq : (rds.getD 0 tRd.z).wits with
      | nil => exact absurd hq hr.some
      | cons a l => simp
    have := (hr.rng _ h1).1
    simp only [lastW, List.take_zero, List.getLast?_nil, Option.map_none, Option.getD_none]
    omega
  | succ i =>
    have := (pair_atG (z := tRd.z) h.apart (Nat.lt_succ_self i) hi).2
    rw [take_get tRd.z rds i (by omega)]
    simpa [lastW] using this
theorem lastW_ge {n : Int} {l : List Rd} (h : Part n l) {p : Rd} (hp : p ∈ l) : p.wits.headD 0 ≤ lastW l := by
  obtain ⟨m, hm, rfl⟩ := List.getElem_of_mem hp
  have hl : 0 < l.length := by omega
  have e1 : lastW l = l[l.length - 1].wits.headD 0 := by
    unfold lastW
    rw [List.getLast?_eq_getElem?, List.getElem?_eq_getElem (by omega)]; rfl
  rw [e1]
  by_cases e : m = l.length - 1
  · subst e; exact Int.le_refl _
  · exact Int.le_of_lt (List.pairwise_iff_getElem.mp h.apart m (l.length - 1) hm (by omega) (by omega)).2

structure Good (n c : Int) (es : List En) : Prop where
  each : ∀ e ∈ es, 0 ≤ e.col ∧ e.col < c ∧ Right n e.rds
  up : (es.map (·.col)).Pairwise (· < ·)
noncomputable instance (n c : Int) (es : List En) : Decidable (Good n c es) := Classical.propDecidable _
noncomputable def chk (es : List En) (n c : Int) : Int := if n < 1 ∨ 12 < n ∨ c < 0 ∨ 4096 < c then 2 else if Good n c es then 0 else 170
theorem goodE_at {n c : Int} {es : List En} (h : Good n c es) {i j : Nat} (hij : i < j) (hj : j < es.length) : (es.getD i tEn.z).col < (es.getD j tEn.z).col := by
  have := List.pairwise_iff_getElem.mp h.up i j (by simp; omega) (by simpa using hj) hij
  rw [List.getD, List.getD, List.getElem?_eq_getElem hj, List.getElem?_eq_getElem (by omega)]
  simpa using this
theorem good_up {n c : Int} {es : List En} (h : Good n c es) {i : Nat} (hi : i < es.length) : (if i = 0 then -1 else (es.getD (i - 1) tEn.z).col) < (es.getD i tEn.z).col := by
  by_cases h0 : i = 0
  · rw [if_pos h0]
    have := (h.each _ (getD_mem (z := tEn.z) i hi)).1
    omega
  · rw [if_neg h0]; exact goodE_at h (by omega) hi
theorem good_push {n c : Int} {es : List En} {i : Nat} (h : Good n c (es.take i)) (hi : i < es.length) (h1 : (if i = 0 then -1 else (es.getD (i - 1) tEn.z).col) < (es.getD i tEn.z).col) (h2 : (es.getD i tEn.z).col < c) (h3 : Right n (es.getD i tEn.z).rds) : Good n c (es.take (i + 1)) := by
  have hlast : ∀ p ∈ es.take i, p.col < (es.getD i tEn.z).col := by
    intro p hp
    obtain ⟨m, hm, rfl⟩ := List.getElem_of_mem hp
    have hmi : m < i := by simp at hm; omega
    rw [if_neg (by omega)] at h1
    by_cases e : m = i - 1
    · subst e; simpa [List.getD, show i - 1 < es.length by omega] using h1
    · have h5 : (es.take i).getD m tEn.z = (es.take i)[m] := by rw [List.getD, List.getElem?_eq_getElem hm]; rfl
      have h6 : (es.take i).getD (i - 1) tEn.z = es.getD (i - 1) tEn.z := by simp [List.getD, show i - 1 < i by omega]
      have := goodE_at h (show m < i - 1 by omega) (by simp; omega)
      rw [h5, h6] at this
      exact Int.lt_trans this h1
  have hpos : 0 ≤ (es.getD i tEn.z).col := by
    by_cases h0 : i = 0
    · rw [if_pos h0] at h1; omega
    · have := (h.each _ (getD_mem (z := tEn.z) (l := es.take i) (i - 1) (by simp; omega))).1
      have h7 := hlast _ (getD_mem (z := tEn.z) (l := es.take i) (i - 1) (by simp; omega))
      omega
  rw [take_get tEn.z es i hi]
  refine ⟨fun e he => ?_, ?_⟩
  · rcases List.mem_append.mp he with h' | h'
    · exact h.each e h'
    · have : e = es.getD i tEn.z := by simpa using h'
      rw [this]; exact ⟨hpos, h2, h3⟩
  · rw [List.map_append]
    refine List.pairwise_append.mpr ⟨h.up, by simp, fun a ha b hb => ?_⟩
    obtain ⟨p, hp, rfl⟩ := List.mem_map.mp ha
    have : b = (es.getD i tEn.z).col := by simpa using hb
    rw [this]; exact hlast p hp

end Go.Proofs.YteklnpgiloebcaaDoor.V

namespace Go.Proofs.YteklnpgiloebcaaDoor.V
set_option linter.unusedVariables false
set_option linter.unusedSimpArgs false
open Go Go.Proofs Go.RowKit
set_option maxRecDepth 100000
set_option maxHeartbeats 2000000
open Go Go.Proofs Go.Proofs.YteklnpgiloebcaaDoor.V
def tRow : Ty (List Int) := ⟨1, fun l _ => tI.L l, []⟩
def RowOk (m : List (List Int)) (i : Nat) : Prop := (m.getD i tRow.z).length = (m.getD 0 tRow.z).length ∧ (m.getD i tRow.z).length ≤ 4096 ∧ ∀ j, j < (m.getD i tRow.z).length → -1 ≤ (m.getD i tRow.z).getD j tI.z ∧ (m.getD i tRow.z).getD j tI.z < 12
def OkM (m : List (List Int)) : Prop := 0 < m.length ∧ m.length ≤ 12 ∧ ∀ i, i < m.length → RowOk m i
open Classical in
noncomputable def codeM (m : List (List Int)) : Int := if OkM m then 0 else 190
end Go.Proofs.YteklnpgiloebcaaDoor.V

namespace Go.Proofs.YteklnpgiloebcaaDoor.V
set_option linter.unusedVariables false
set_option linter.unusedSimpArgs false
open Go
def bs (l : List UInt8) : ByteArray := ⟨l.toArray⟩
theorem bs_size (l : List UInt8) : (bs l).size = l.length := by simp [bs, ByteArray.size]
theorem bs_data (l : List UInt8) : (bs l).data.toList = l := by simp [bs]
end Go.Proofs.YteklnpgiloebcaaDoor.V

namespace Go.Proofs.YteklnpgiloebcaaDoor.V
set_option linter.unusedVariables false
set_option linter.unusedSimpArgs false
open Go Go.Proofs Go.RowKit
set_option maxRecDepth 100000
set_option maxHeartbeats 2000000
open Go Go.Proofs Go.Proofs.YteklnpgiloebcaaDoor.V
theorem ib60_fn (l : List UInt8) (c : Int) : Fn Tryd.prog 56 [.str (bs l), .int .u8 c] (.int .i64 (Lib.indexByte l c.toNat.toUInt8)) := by
  refine Fn.of Tryd.f56 _ Tryd.func56 rfl (by decide) (by show 2 ≤ _; decide) tbOk 8 rfl fun S w0 gl => ?_
  refine Run.go ?_; (conv => whnf); repeat' (first | ((with_reducible refine Know.mk fun _ => ?_); conv => whnf) | ((with_reducible refine Need.mk ?_ ?_); exact nd; conv => whnf) | ((with_reducible first | refine Both.mk ?_ ?_ | refine Any.mk fun b hb => ?_ | refine AskB.dec (fun hb => ?_) (fun hb => ?_) | refine AskB.ndec (fun hb => ?_) (fun hb => ?_) | refine AskB.mk (fun hb => ?_) (fun hb => ?_)) <;> conv => whnf) | ((with_reducible first | refine Run.drawX rfl (by decide +kernel) ?_ | refine Run.drawT rfl (by decide +kernel) ?_ | refine Run.drawW rfl (by decide +kernel) ?_); conv => whnf) | fail)
  refine Run.indexByteS (f := 72) (x := .tmp 5) (y := .tmp 6) (bs l) c rfl rfl rfl rfl Tryd.func72 (by kernel_rfl) (by kernel_rfl) (by kernel_rfl) (by kernel_rfl) rfl rfl ?_
  rw [bs_data]
  refine Run.go ?_; (conv => whnf); repeat' (first | ((with_reducible refine Know.mk fun _ => ?_); conv => whnf) | ((with_reducible refine Need.mk ?_ ?_); exact nd; conv => whnf) | ((with_reducible first | refine Both.mk ?_ ?_ | refine Any.mk fun b hb => ?_ | refine AskB.dec (fun hb => ?_) (fun hb => ?_) | refine AskB.ndec (fun hb => ?_) (fun hb => ?_) | refine AskB.mk (fun hb => ?_) (fun hb => ?_)) <;> conv => whnf) | ((with_reducible first | refine Run.drawX rfl (by decide +kernel) ?_ | refine Run.drawT rfl (by decide +kernel) ?_ | refine Run.drawW rfl (by decide +kernel) ?_); conv => whnf) | fail)
  exact Run.leave (ts := [4]) (.inr ⟨_, rfl⟩) rfl Tryd.func56 rfl (Le.refl _)
theorem ib47_fn (l : List UInt8) (c : Int) : Fn Tryd.prog 42 [.str (bs l), .int .u8 c] (.int .i64 (Lib.indexByte l c.toNat.toUInt8)) := by
  refine Fn.of Tryd.f42 _ Tryd.func42 rfl (by decide) (by show 2 ≤ _; decide) tbOk 8 rfl fun S w0 gl => ?_
  refine Run.go ?_; (conv => whnf); repeat' (first | ((with_reducible refine Know.mk fun _ => ?_); conv => whnf) | ((with_reducible refine Need.mk ?_ ?_); exact nd; conv => whnf) | ((with_reducible first | refine Both.mk ?_ ?_ | refine Any.mk fun b hb => ?_ | refine AskB.dec (fun hb => ?_) (fun hb => ?_) | refine AskB.ndec (fun hb => ?_) (fun hb => ?_) | refine AskB.mk (fun hb => ?_) (fun hb => ?_)) <;> conv => whnf) | ((with_reducible first | refine Run.drawX rfl (by decide +kernel) ?_ | refine Run.drawT rfl (by decide +kernel) ?_ | refine Run.drawW rfl (by decide +kernel) ?_); conv => whnf) | fail)
  refine Run.callBX (ib60_fn l c) rfl rfl ⟨Le.refl _, Le.refl _, trivial⟩ rfl rfl rfl ?_
  (conv => whnf); repeat' (first | ((with_reducible refine Know.mk fun _ => ?_); conv => whnf) | ((with_reducible refine Need.mk ?_ ?_); exact nd; conv => whnf) | ((with_reducible first | refine Both.mk ?_ ?_ | refine Any.mk fun b hb => ?_ | refine AskB.dec (fun hb => ?_) (fun hb => ?_) | refine AskB.ndec (fun hb => ?_) (fun hb => ?_) | refine AskB.mk (fun hb => ?_) (fun hb => ?_)) <;> conv => whnf) | ((with_reducible first | refine Run.drawX rfl (by decide +kernel) ?_ | refine Run.drawT rfl (by decide +kernel) ?_ | refine Run.drawW rfl (by decide +kernel) ?_); conv => whnf) | fail)
  exact Run.leave (ts := [4]) (.inr ⟨_, rfl⟩) rfl Tryd.func42 rfl (Le.refl _)
theorem nl_size : (bs [10]).size = 1 := rfl
theorem bs_inj {a b : List UInt8} (h : bs a = bs b) : a = b := by
  have := congrArg (fun x : ByteArray => x.data.toList) h
  simpa [bs] using this
theorem index100_fn (l : List UInt8) : Fn Tryd.prog 47 [.str (bs l), .str (bs [10])] (.int .i64 (Lib.indexByte l 10)) := by
  refine Fn.of Tryd.f47 _ Tryd.func47 rfl (by decide) (by show 2 ≤ _; decide) tbOk 143 rfl fun S w0 gl => ?_
  have hs := nl_size
  refine Run.go ?_; (conv => whnf); repeat' (first | ((with_reducible refine Know.mk fun _ => ?_); conv => whnf) | ((with_reducible refine Need.mk ?_ ?_); exact nd; conv => whnf) | ((with_reducible first | refine Both.mk ?_ ?_ | refine Any.mk fun b hb => ?_ | refine AskB.dec (fun hb => ?_) (fun hb => ?_) | refine AskB.ndec (fun hb => ?_) (fun hb => ?_) | refine AskB.mk (fun hb => ?_) (fun hb => ?_)) <;> conv => whnf) | ((with_reducible first | refine Run.drawX rfl (by decide +kernel) ?_ | refine Run.drawT rfl (by decide +kernel) ?_ | refine Run.drawW rfl (by decide +kernel) ?_); conv => whnf) | fail)
  all_goals try (exfalso; omega)
  · have := bs_inj hb
    subst this
    exact Run.leave (ts := [4]) (.inr ⟨_, rfl⟩) rfl Tryd.func47 rfl (Le.int (by decide))
  · refine Run.callBX (ib60_fn l 10) rfl rfl ⟨Le.refl _, Le.refl _, trivial⟩ rfl rfl rfl ?_
    (conv => whnf); repeat' (first | ((with_reducible refine Know.mk fun _ => ?_); conv => whnf) | ((with_reducible refine Need.mk ?_ ?_); exact nd; conv => whnf) | ((with_reducible first | refine Both.mk ?_ ?_ | refine Any.mk fun b hb => ?_ | refine AskB.dec (fun hb => ?_) (fun hb => ?_) | refine AskB.ndec (fun hb => ?_) (fun hb => ?_) | refine AskB.mk (fun hb => ?_) (fun hb => ?_)) <;> conv => whnf) | ((with_reducible first | refine Run.drawX rfl (by decide +kernel) ?_ | refine Run.drawT rfl (by decide +kernel) ?_ | refine Run.drawW rfl (by decide +kernel) ?_); conv => whnf) | fail)
    exact Run.leave (ts := [4]) (.inr ⟨_, rfl⟩) rfl Tryd.func47 rfl (Le.refl _)
end Go.Proofs.YteklnpgiloebcaaDoor.V

namespace Go.Proofs.YteklnpgiloebcaaDoor.V
set_option linter.unusedVariables false
set_option linter.unusedSimpArgs false
open Go Go.Proofs Go.RowKit
set_option maxRecDepth 100000
set_option maxHeartbeats 2000000
open Go Go.Proofs Go.Proofs.YteklnpgiloebcaaDoor.V
def signL : List UInt8 := [63, 48, 49, 50, 51, 52, 53, 54, 55, 56, 57, 97, 98]
def signC (x : Int) : UInt8 := signL.getD (x + 1).toNat 0
/-- A matrix's bytes. -/
def prL (m : List (List Int)) : List UInt8 := m.flatMap (fun r => r.map signC ++ [10])
theorem bs_push (a : List UInt8) (u : UInt8) : bs a ++ ⟨#[u]⟩ = bs (a ++ [u]) := by
  apply ByteArray.ext; apply Array.ext'; simp [bs]
open Classical in
noncomputable def printS (m : List (List Int)) : ByteArray := if OkM m then bs (prL m) else .empty
end Go.Proofs.YteklnpgiloebcaaDoor.V

namespace Go.Proofs.YteklnpgiloebcaaDoor.V
set_option linter.unusedVariables false
set_option linter.unusedSimpArgs false
open Go Go.Proofs Go.RowKit
set_option maxRecDepth 100000
set_option maxHeartbeats 1000000
/-- Witnesses without words. -/
def nmWit (s : ByteArray) : Wit := ⟨s, .empty, []⟩
def nmTab (names : List ByteArray) : Tab := ⟨names.map nmWit, []⟩
theorem nmFit {names : List ByteArray} (h : names.length ≤ 2000000) (h2 : ∀ s ∈ names, s.size ≤ 2000000) : FitT (nmTab names) where
  wits := by simpa [nmTab] using h
  cols := by simp [nmTab]
  col := fun l hl => absurd hl List.not_mem_nil
  name := fun w hw => by
    obtain ⟨s, hs, rfl⟩ := List.mem_map.mp hw
    exact h2 s hs
  wit := fun w hw => by
    obtain ⟨s, hs, rfl⟩ := List.mem_map.mp hw
    exact ⟨⟨by simp [nmWit], by simp [nmWit, catW]⟩, by simp [nmWit], fun v hv => absurd hv List.not_mem_nil⟩
noncomputable def nmOk (names : List ByteArray) : Bool := decide (chkT (nmTab names) = 0)
theorem named17_fn (names : List ByteArray) (h1 : names.length ≤ 2000000) (h2 : ∀ s ∈ names, s.size ≤ 2000000) : Fn Tryd.prog 13 [tS.L names] (.bool (nmOk names)) := by
  refine Fn.of Tryd.f13 _ Tryd.func13 rfl (by decide) (by show 1 ≤ _; decide) tbOk 26 rfl fun S w0 gl => ?_
  refine Run.go ?_; (conv => whnf); repeat' (first | ((with_reducible refine Know.mk fun _ => ?_); conv => whnf) | ((with_reducible refine Need.mk ?_ ?_); exact nd; conv => whnf) | ((with_reducible first | refine Both.mk ?_ ?_ | refine Any.mk fun b hb => ?_ | refine AskB.dec (fun hb => ?_) (fun hb => ?_) | refine AskB.ndec (fun hb => ?_) (fun hb => ?_) | refine AskB.mk (fun hb => ?_) (fun hb => ?_)) <;> conv => whnf) | ((with_reducible first | refine Run.drawX rfl (by decide +kernel) ?_ | refine Run.drawT rfl (by decide +kernel) ?_ | refine Run.drawW rfl (by decide +kernel) ?_); conv => whnf) | fail)
  · refine Run.leave (ts := [2]) (.inr ⟨_, rfl⟩) rfl Tryd.func13 rfl (Le.ff.trans (Le.bool (decide_eq_false (fun h => ?_)).symm))
    have h4 : (nmTab names).wits.length = names.length := by simp [nmTab]
    rw [chk_no (fun hok => by have := hok.n1; omega)] at h
    exact absurd h (by decide)
  refine Run.holdBoxNil 3 0 90 70 3 (fun _ _ => .u) rfl rfl rfl rfl ?_
  refine Run.loop [9, 10] (fun (i : Nat) => [(3, .box 3 0), (11, .int .i64 (i : Int))]) (fun i => [(3, .box 67 [.row 90, .nils]), (90, tWit.R 70 ((names.take i).map nmWit))]) (fun i => i ≤ names.length) (fun i => names.length - i) 0 (Nat.zero_le _) ⟨Le.refl _, Le.refl _, trivial⟩ ⟨MOle.refl _, ⟨rfl, rfl, rfl, fun i j hi => absurd hi (Nat.not_lt_zero _)⟩, trivial⟩ ?_
  intro i hi IH
  have hwi : IntKind.i64.wrap ((i : Int) + 1) = ((i + 1 : Nat) : Int) := wrap64 (by omega) (by omega)
  have htl : ((names.take i).map nmWit).length = i := by rw [List.length_map, List.length_take]; omega
  by_cases hil : i < names.length
  · have hn : (names.take (i + 1)).map nmWit = (names.take i).map nmWit ++ [nmWit (names.getD i .empty)] := by rw [take_at names i .empty hil, List.map_append]; rfl
    have IH := IH (i + 1) (by omega) (by omega)
    rw [hn] at IH
    generalize (names.take i).map nmWit = L at htl IH ⊢
    show Run _ _ (lst (_ ++ [(3, .box 3 0), (11, .int .i64 (i : Int))])) (lstH [(3, .box 67 [.row 90, .nils]), (90, tWit.R 70 L)])
    refine Run.go ?_; (conv => whnf); repeat' (first | ((with_reducible refine Know.mk fun _ => ?_); conv => whnf) | ((with_reducible refine Need.mk ?_ ?_); exact nd; conv => whnf) | ((with_reducible refine Both.mk ?_ ?_) <;> conv => whnf) | ((with_reducible refine Any.mk fun b hb => ?_); conv => whnf) | ((with_reducible first | refine AskB.dec (fun hb => ?_) (fun hb => ?_) | refine AskB.ndec (fun hb => ?_) (fun hb => ?_) | refine AskB.mk (fun hb => ?_) (fun hb => ?_)) <;> first | (exfalso; omega) | (conv => whnf)) | ((with_reducible first | refine Run.drawX rfl (by decide +kernel) ?_ | refine Run.drawT rfl (by decide +kernel) ?_ | refine Run.drawW rfl (by decide +kernel) ?_); conv => whnf) | fail)
    all_goals try (exfalso; omega)
    refine Run.holdBoxRow 3 0 90 20 (by rfl) (by rfl) (by rfl) rfl rfl rfl ?_
    refine Run.to _ _ ?_ ?_ IH
    · exact ⟨Le.refl _, Le.refl _, Le.refl _, Le.int hwi, trivial⟩
    · refine ⟨MOle.refl _, ?_, trivial⟩
      refine tWit.push 70 L (nmWit (names.getD i .empty)) _ (fun q hq => ?_)
      match q, hq with
      | 0, _ => exact Le.refl _
      | 1, _ => exact Le.refl _
      | 2, _ => exact tWrd.nil
  · obtain rfl : i = names.length := by omega
    rw [List.take_length]
    refine Run.freeze 90 (by rfl) ?_
    refine Run.go ?_; (conv => whnf); repeat' (first | ((with_reducible refine Know.mk fun _ => ?_); conv => whnf) | ((with_reducible refine Need.mk ?_ ?_); exact nd; conv => whnf) | ((with_reducible refine Both.mk ?_ ?_) <;> conv => whnf) | ((with_reducible refine Any.mk fun b hb => ?_); conv => whnf) | ((with_reducible first | refine AskB.dec (fun hb => ?_) (fun hb => ?_) | refine AskB.ndec (fun hb => ?_) (fun hb => ?_) | refine AskB.mk (fun hb => ?_) (fun hb => ?_)) <;> first | (exfalso; omega) | (conv => whnf)) | ((with_reducible first | refine Run.drawX rfl (by decide +kernel) ?_ | refine Run.drawT rfl (by decide +kernel) ?_ | refine Run.drawW rfl (by decide +kernel) ?_); conv => whnf) | fail)
    all_goals try (exfalso; omega)
    refine Run.callBX (check_fn (nmTab names) (nmFit h1 h2)) rfl rfl ⟨tb_le (nmTab names) (Le.refl _) tIL.nil, trivial⟩ rfl rfl rfl ?_
    (conv => whnf); repeat' (first | ((with_reducible refine Know.mk fun _ => ?_); conv => whnf) | ((with_reducible refine Need.mk ?_ ?_); exact nd; conv => whnf) | ((with_reducible first | refine Both.mk ?_ ?_ | refine Any.mk fun b hb => ?_ | refine AskB.dec (fun hb => ?_) (fun hb => ?_) | refine AskB.ndec (fun hb => ?_) (fun hb => ?_) | refine AskB.mk (fun hb => ?_) (fun hb => ?_)) <;> conv => whnf) | ((with_reducible first | refine Run.drawX rfl (by decide +kernel) ?_ | refine Run.drawT rfl (by decide +kernel) ?_ | refine Run.drawW rfl (by decide +kernel) ?_); conv => whnf) | fail)
    exact Run.leave (ts := [2]) (.inr ⟨_, rfl⟩) rfl Tryd.func13 rfl (Le.refl _)
/-- Bytes that a form shows as they are. -/
def plainB (c : UInt8) : Bool := decide (32 < c.toNat) && decide (c.toNat ≤ 126) && (Lib.indexByte [59, 93, 92] c == -1)
def dashB : ByteArray := ⟨#[45]⟩
theorem wb3 {N : Nat} {w0 : World} {S : Nat → Prop} {gl : GlobOk S w0} {f : FuncId} {R : Ending → World → Prop} {kp : Kept} {ops : Array Oper} {i : Nat} {rest : List Nat} {k : List Item} {env : Env} {h : Heap} {o : Oper} {x y : Operand}
    (p : AV) (t : ByteArray) (u : UInt8) (ho : ops.toList[i]? = some o) (hc : calls? o = some (43, [x, y])) (hd : okD ⟨Tryd.prog, TB, tbOk, N, w0, S, gl, f, R, kp⟩ o.dst = true) (hr : ready env ops o = true) (hx : ev (scrubE 900 env) x = .box 3 0) (hy : ev (scrubE 900 env) y = .int .u8 (u.toNat : Int))
    (hs : t.size + 1 ≤ 34359738368) (hp : p = .nilp ∨ p = .box 3 0)
    (next : Run ⟨Tryd.prog, TB, tbOk, N, w0, S, gl, f, R, kp⟩ (.inRegion ops rest :: k) (putE (envB 90 env) o.dst .u) (bldr 50 5 3 90 (heapB 90 h) (.box 3 0) (t ++ ⟨#[u]⟩))) :
    Run ⟨Tryd.prog, TB, tbOk, N, w0, S, gl, f, R, kp⟩ (.inRegion ops (i :: rest) :: k) env (bldr 50 5 3 90 h p t) := by
  refine Run.inline 900 Tryd.f43 _ 17 ho hc Tryd.func43 rfl (by decide) rfl (by show 2 ≤ 17; decide) hd hr (fun a hsz hdf => ?_)
  simp only [List.map, hx, hy]
  have fin : ∀ (E : Env) (H : Heap) (X : AV), (∀ i, E i = scrub 14 (scrub 13 (scrub 901 (scrub 900 (env i))))) → (∀ id, Nat.beq id 3 = false → Nat.beq id 90 = false → Nat.beq id 14 = false → Nat.beq id 13 = false → Nat.beq id 901 = false → Nat.beq id 900 = false → H id = scrubM 90 (scrubM 14 (scrubM 13 (scrubM 901 (scrubM 900 (h id)))))) →
      MOle (H 3) (.box 50 [.box 3 0, .row 90]) → MOle (H 90) (.row 5 1 (t ++ ⟨#[u]⟩).size (bytesG (t ++ ⟨#[u]⟩))) → Run ⟨Tryd.prog, TB, tbOk, N, w0, S, gl, f, R, kp⟩ (.inRegion ops rest :: k) (scrubE 90 (putE E o.dst X)) H := by
    intro E H X hE hH h5 h90
    refine Run.weaken (fun i => ?_) (fun id => ?_) next
    · cases hdst : o.dst with
      | none => show Le (scrub 90 (E i)) _; rw [hE]; exact Le.refl _
      | some d =>
        show Le (scrub 90 (upd E d X i)) (upd (envB 90 env) d .u i)
        by_cases e : i = d
        · subst e; rw [upd_same, upd_same]; exact Le.u _
        · rw [upd_other _ _ e, upd_other _ _ e, hE]; exact Le.refl _
    · unfold bldr heapB
      cases e5 : Nat.beq id 3 with
      | true => have := Nat.eq_of_beq_eq_true e5; subst this; exact h5
      | false =>
      cases e90 : Nat.beq id 90 with
      | true => have := Nat.eq_of_beq_eq_true e90; subst this; exact h90
      | false =>
      cases e900 : Nat.beq id 900 with
      | true => simp only [upd, e5, e90, e900, cond_true, cond_false]; exact mole_dead _
      | false =>
      cases e901 : Nat.beq id 901 with
      | true => simp only [upd, e5, e90, e900, e901, cond_true, cond_false]; exact mole_dead _
      | false =>
      cases e13 : Nat.beq id 13 with
      | true => simp only [upd, e5, e90, e900, e901, e13, cond_true, cond_false]; exact mole_dead _
      | false =>
      cases e14 : Nat.beq id 14 with
      | true => simp only [upd, e5, e90, e900, e901, e13, e14, cond_true, cond_false]; exact mole_dead _
      | false =>
        rw [hH id e5 e90 e14 e13 e901 e900]
        simp only [upd, e5, e90, e900, e901, e13, e14, cond_true, cond_false]
        exact MOle.refl _
  rcases hp with rfl | rfl
  · refine Run.go ?_; (conv => whnf); repeat' (first | ((with_reducible refine Know.mk fun _ => ?_); conv => whnf) | ((with_reducible refine Need.mk ?_ ?_); exact nd; conv => whnf) | ((with_reducible first | refine Both.mk ?_ ?_ | refine Any.mk fun b hb => ?_ | refine AskB.dec (fun hb => ?_) (fun hb => ?_) | refine AskB.ndec (fun hb => ?_) (fun hb => ?_) | refine AskB.mk (fun hb => ?_) (fun hb => ?_)) <;> conv => whnf) | ((with_reducible first | refine Run.drawX rfl (by decide +kernel) ?_ | refine Run.drawT rfl (by decide +kernel) ?_ | refine Run.drawW rfl (by decide +kernel) ?_); conv => whnf) | fail)
    refine Run.inline 901 Tryd.f26 _ 20 rfl rfl Tryd.func26 rfl (by decide) rfl (by decide) rfl rfl (fun a2 hsz2 hdf2 => ?_)
    refine Run.go ?_; (conv => whnf); repeat' (first | ((with_reducible refine Know.mk fun _ => ?_); conv => whnf) | ((with_reducible refine Need.mk ?_ ?_); exact nd; conv => whnf) | ((with_reducible first | refine Both.mk ?_ ?_ | refine Any.mk fun b hb => ?_ | refine AskB.dec (fun hb => ?_) (fun hb => ?_) | refine AskB.ndec (fun hb => ?_) (fun hb => ?_) | refine AskB.mk (fun hb => ?_) (fun hb => ?_)) <;> conv => whnf) | ((with_reducible first | refine Run.drawX rfl (by decide +kernel) ?_ | refine Run.drawT rfl (by decide +kernel) ?_ | refine Run.drawW rfl (by decide +kernel) ?_); conv => whnf) | fail)
    refine Run.toUnsafe (id := 3) (l := [.nilp, .row 90]) (e := 50) (t := 50) (src := 47) (dst := 86) (x := .tmp 8) rfl rfl rfl rfl rfl rfl (by decide) (by kernel_rfl) (by kernel_rfl) (j := (Tryd.prog.info? 50).get (by kernel_rfl)) (by kernel_rfl) (by decide +kernel) ?_
    refine Run.noEscape (f := 41) (x := .tmp 9) rfl rfl rfl rfl Tryd.func41 (by kernel_rfl) (by kernel_rfl) (by kernel_rfl) (by kernel_rfl) ?_
    refine Run.fromUnsafe (id := 3) (l := [.nilp, .row 90]) (e := 50) (u := 50) (src := 86) (dst := 47) (x := .tmp 10) rfl rfl rfl rfl rfl rfl (by kernel_rfl) (by kernel_rfl) (j := (Tryd.prog.info? 50).get (by kernel_rfl)) (by kernel_rfl) (by kernel_rfl) ?_
    refine Run.go ?_; (conv => whnf); repeat' (first | ((with_reducible refine Know.mk fun _ => ?_); conv => whnf) | ((with_reducible refine Need.mk ?_ ?_); exact nd; conv => whnf) | ((with_reducible first | refine Both.mk ?_ ?_ | refine Any.mk fun b hb => ?_ | refine AskB.dec (fun hb => ?_) (fun hb => ?_) | refine AskB.ndec (fun hb => ?_) (fun hb => ?_) | refine AskB.mk (fun hb => ?_) (fun hb => ?_)) <;> conv => whnf) | ((with_reducible first | refine Run.drawX rfl (by decide +kernel) ?_ | refine Run.drawT rfl (by decide +kernel) ?_ | refine Run.drawW rfl (by decide +kernel) ?_); conv => whnf) | fail)
    refine Run.back 901 (ts := []) hsz2 hdf2 (.inl rfl) (by rfl) Tryd.func26 rfl ?_
    refine Run.go ?_; (conv => whnf); repeat' (first | ((with_reducible refine Know.mk fun _ => ?_); conv => whnf) | ((with_reducible refine Need.mk ?_ ?_); exact nd; conv => whnf) | ((with_reducible first | refine Both.mk ?_ ?_ | refine Any.mk fun b hb => ?_ | refine AskB.dec (fun hb => ?_) (fun hb => ?_) | refine AskB.ndec (fun hb => ?_) (fun hb => ?_) | refine AskB.mk (fun hb => ?_) (fun hb => ?_)) <;> conv => whnf) | ((with_reducible first | refine Run.drawX rfl (by decide +kernel) ?_ | refine Run.drawT rfl (by decide +kernel) ?_ | refine Run.drawW rfl (by decide +kernel) ?_); conv => whnf) | fail)
    refine Run.back 900 (ts := [4]) hsz hdf (.inr ⟨_, rfl⟩) (by rfl) Tryd.func43 rfl ?_
    refine Run.holdBoxRow 3 1 90 14 (by rfl) (by rfl) (by rfl) rfl rfl rfl ?_
    refine fin _ _ _ (fun i => rfl) (fun id e5 e90 e14 e13 e901 e900 => ?_) (MOle.refl _) (bytesG_push 5 t u _ rfl)
    simp only [upd, scrubH, scrubM, bldr, e5, e90, e14, e13, e901, e900, cond_false]
  · refine Run.go ?_; (conv => whnf); repeat' (first | ((with_reducible refine Know.mk fun _ => ?_); conv => whnf) | ((with_reducible refine Need.mk ?_ ?_); exact nd; conv => whnf) | ((with_reducible first | refine Both.mk ?_ ?_ | refine Any.mk fun b hb => ?_ | refine AskB.dec (fun hb => ?_) (fun hb => ?_) | refine AskB.ndec (fun hb => ?_) (fun hb => ?_) | refine AskB.mk (fun hb => ?_) (fun hb => ?_)) <;> conv => whnf) | ((with_reducible first | refine Run.drawX rfl (by decide +kernel) ?_ | refine Run.drawT rfl (by decide +kernel) ?_ | refine Run.drawW rfl (by decide +kernel) ?_); conv => whnf) | fail)
    refine Run.inline 901 Tryd.f26 _ 20 rfl rfl Tryd.func26 rfl (by decide) rfl (by decide) rfl rfl (fun a2 hsz2 hdf2 => ?_)
    refine Run.go ?_; (conv => whnf); repeat' (first | ((with_reducible refine Know.mk fun _ => ?_); conv => whnf) | ((with_reducible refine Need.mk ?_ ?_); exact nd; conv => whnf) | ((with_reducible first | refine Both.mk ?_ ?_ | refine Any.mk fun b hb => ?_ | refine AskB.dec (fun hb => ?_) (fun hb => ?_) | refine AskB.ndec (fun hb => ?_) (fun hb => ?_) | refine AskB.mk (fun hb => ?_) (fun hb => ?_)) <;> conv => whnf) | ((with_reducible first | refine Run.drawX rfl (by decide +kernel) ?_ | refine Run.drawT rfl (by decide +kernel) ?_ | refine Run.drawW rfl (by decide +kernel) ?_); conv => whnf) | fail)
    refine Run.back 901 (ts := []) hsz2 hdf2 (.inl rfl) (by rfl) Tryd.func26 rfl ?_
    refine Run.go ?_; (conv => whnf); repeat' (first | ((with_reducible refine Know.mk fun _ => ?_); conv => whnf) | ((with_reducible refine Need.mk ?_ ?_); exact nd; conv => whnf) | ((with_reducible first | refine Both.mk ?_ ?_ | refine Any.mk fun b hb => ?_ | refine AskB.dec (fun hb => ?_) (fun hb => ?_) | refine AskB.ndec (fun hb => ?_) (fun hb => ?_) | refine AskB.mk (fun hb => ?_) (fun hb => ?_)) <;> conv => whnf) | ((with_reducible first | refine Run.drawX rfl (by decide +kernel) ?_ | refine Run.drawT rfl (by decide +kernel) ?_ | refine Run.drawW rfl (by decide +kernel) ?_); conv => whnf) | fail)
    refine Run.back 900 (ts := [4]) hsz hdf (.inr ⟨_, rfl⟩) (by rfl) Tryd.func43 rfl ?_
    refine Run.holdBoxRow 3 1 90 14 (by rfl) (by rfl) (by rfl) rfl rfl rfl ?_
    refine fin _ _ _ (fun i => rfl) (fun id e5 e90 e14 e13 e901 e900 => ?_) (MOle.refl _) (bytesG_push 5 t u _ rfl)
    simp only [upd, scrubH, scrubM, bldr, e5, e90, e14, e13, e901, e900, cond_false]

theorem bs3 {N : Nat} {w0 : World} {S : Nat → Prop} {gl : GlobOk S w0} {f : FuncId} {R : Ending → World → Prop} {kp : Kept} {ops : Array Oper} {i : Nat} {rest : List Nat} {k : List Item} {env : Env} {h : Heap} {o : Oper} {x : Operand}
    (p : AV) (t : ByteArray) (ho : ops.toList[i]? = some o) (hc : calls? o = some (17, [x])) (hd : okD ⟨Tryd.prog, TB, tbOk, N, w0, S, gl, f, R, kp⟩ o.dst = true) (hr : ready env ops o = true) (hx : ev (scrubE 900 env) x = .box 3 0)
    (next : Run ⟨Tryd.prog, TB, tbOk, N, w0, S, gl, f, R, kp⟩ (.inRegion ops rest :: k) (putE (scrubE 900 env) o.dst (.str t)) (upd (upd (upd (scrubH 900 h) 900 .dead) 3 .dead) 90 .dead)) :
    Run ⟨Tryd.prog, TB, tbOk, N, w0, S, gl, f, R, kp⟩ (.inRegion ops (i :: rest) :: k) env (bldr 50 5 3 90 h p t) := by
  refine Run.inline 900 Tryd.f17 _ 14 ho hc Tryd.func17 rfl (by decide) rfl (by show 1 ≤ 14; decide) hd hr (fun a hsz hdf => ?_)
  simp only [List.map, hx]
  have fin : ∀ (H : Heap), (∀ id, Nat.beq id 3 = false → Nat.beq id 90 = false → Nat.beq id 900 = false → H id = scrubM 900 (h id)) →
      Run ⟨Tryd.prog, TB, tbOk, N, w0, S, gl, f, R, kp⟩ (.inRegion ops rest :: k) (putE (scrubE 900 env) o.dst (.str t)) H := by
    intro H hH
    refine Run.weaken (fun i => Le.refl _) (fun id => ?_) next
    cases e5 : Nat.beq id 3 with
    | true => simp only [upd, e5, cond_true, cond_false]; cases Nat.beq id 90 <;> exact mole_dead _
    | false =>
    cases e90 : Nat.beq id 90 with
    | true => simp only [upd, e5, e90, cond_true, cond_false]; exact mole_dead _
    | false =>
    cases e900 : Nat.beq id 900 with
    | true => simp only [upd, e5, e90, e900, cond_true, cond_false]; exact mole_dead _
    | false =>
      rw [hH id e5 e90 e900]
      simp only [upd, e5, e90, e900, cond_true, cond_false]
      exact MOle.refl _
  refine Run.go ?_; (conv => whnf); repeat' (first | ((with_reducible refine Know.mk fun _ => ?_); conv => whnf) | ((with_reducible refine Need.mk ?_ ?_); exact nd; conv => whnf) | ((with_reducible first | refine Both.mk ?_ ?_ | refine Any.mk fun b hb => ?_ | refine AskB.dec (fun hb => ?_) (fun hb => ?_) | refine AskB.ndec (fun hb => ?_) (fun hb => ?_) | refine AskB.mk (fun hb => ?_) (fun hb => ?_)) <;> conv => whnf) | ((with_reducible first | refine Run.drawX rfl (by decide +kernel) ?_ | refine Run.drawT rfl (by decide +kernel) ?_ | refine Run.drawW rfl (by decide +kernel) ?_); conv => whnf) | fail)
  · refine Run.unsafeString0 (i := 10) (rest := [11]) (k := [.code .ret]) (x := .tmp 7) (y := .tmp 12) (c := ⟨.builtin .unsafeString, #[.tmp 7, .tmp 12], #[75, 3]⟩) rfl rfl rfl rfl rfl rfl rfl (.inl rfl) (by show AV.int .i64 (t.size : Int) = _; rw [hb]; rfl) ?_
    have ht : t = .empty := by simpa using hb
    refine Run.go ?_; (conv => whnf); repeat' (first | ((with_reducible refine Know.mk fun _ => ?_); conv => whnf) | ((with_reducible refine Need.mk ?_ ?_); exact nd; conv => whnf) | ((with_reducible first | refine Both.mk ?_ ?_ | refine Any.mk fun b hb => ?_ | refine AskB.dec (fun hb => ?_) (fun hb => ?_) | refine AskB.ndec (fun hb => ?_) (fun hb => ?_) | refine AskB.mk (fun hb => ?_) (fun hb => ?_)) <;> conv => whnf) | ((with_reducible first | refine Run.drawX rfl (by decide +kernel) ?_ | refine Run.drawT rfl (by decide +kernel) ?_ | refine Run.drawW rfl (by decide +kernel) ?_); conv => whnf) | fail)
    refine Run.back 900 (ts := [2]) hsz hdf (.inr ⟨_, rfl⟩) (by rfl) Tryd.func17 rfl ?_
    rw [ht] at fin next ⊢
    exact fin _ (fun id e5 e90 e900 => by simp only [upd, scrubH, bldr, e5, e90, e900, cond_false])
  · refine Run.unsafeString (i := 10) (rest := [11]) (k := [.code .ret]) (x := .tmp 7) (y := .tmp 12) (c := ⟨.builtin .unsafeString, #[.tmp 7, .tmp 12], #[75, 3]⟩) t rfl rfl rfl rfl rfl rfl rfl rfl rfl (e := 5) (n := t.size) (q := 90) (get := bytesG t) rfl rfl hb (fun _ _ => rfl) (by kernel_rfl) (by kernel_rfl) ?_
    refine Run.go ?_; (conv => whnf); repeat' (first | ((with_reducible refine Know.mk fun _ => ?_); conv => whnf) | ((with_reducible refine Need.mk ?_ ?_); exact nd; conv => whnf) | ((with_reducible first | refine Both.mk ?_ ?_ | refine Any.mk fun b hb => ?_ | refine AskB.dec (fun hb => ?_) (fun hb => ?_) | refine AskB.ndec (fun hb => ?_) (fun hb => ?_) | refine AskB.mk (fun hb => ?_) (fun hb => ?_)) <;> conv => whnf) | ((with_reducible first | refine Run.drawX rfl (by decide +kernel) ?_ | refine Run.drawT rfl (by decide +kernel) ?_ | refine Run.drawW rfl (by decide +kernel) ?_); conv => whnf) | fail)
    refine Run.back 900 (ts := [2]) hsz hdf (.inr ⟨_, rfl⟩) (by rfl) Tryd.func17 rfl ?_
    exact fin _ (fun id e5 e90 e900 => by simp only [upd, scrubH, bldr, e5, e90, e900, cond_false])
theorem bt_bs (l : List UInt8) (i : Nat) : bt (bs l) i = ((l.getD i 0).toNat : Int) := by
  unfold bt bs
  simp [List.getD, Array.getD_eq_getD_getElem?]
theorem form1_fn (nn : Bool) (l : List UInt8) (ws : List Int) (hn : nn = false → bs l ≠ dashB) (hp : ∀ i, i < l.length → plainB (l.getD i 0) = true) (hs : l.length ≤ 1000000) : Fn Tryd.prog 27 [.agg 3 (tRd.enc ⟨nn, bs l, ws⟩)] (.str (if nn = true then dashB else bs l)) := by
  refine Fn.of Tryd.f27 _ Tryd.func27 rfl (by decide) (by show 1 ≤ _; decide) tbOk 54 rfl fun S w0 gl => ?_
  refine Run.go ?_; (conv => whnf); repeat' (first | ((with_reducible refine Know.mk fun _ => ?_); conv => whnf) | ((with_reducible refine Need.mk ?_ ?_); exact nd; conv => whnf) | ((with_reducible first | refine Both.mk ?_ ?_ | refine Any.mk fun b hb => ?_ | refine AskB.dec (fun hb => ?_) (fun hb => ?_) | refine AskB.ndec (fun hb => ?_) (fun hb => ?_) | refine AskB.mk (fun hb => ?_) (fun hb => ?_)) <;> conv => whnf) | ((with_reducible first | refine Run.drawX rfl (by decide +kernel) ?_ | refine Run.drawT rfl (by decide +kernel) ?_ | refine Run.drawW rfl (by decide +kernel) ?_); conv => whnf) | fail)
  · rw [if_pos hb]
    exact Run.leave (ts := [2]) (.inr ⟨_, rfl⟩) rfl Tryd.func27 rfl (Le.refl _)
  · exact absurd hb (hn (by assumption))
  have hnn : nn = false := by assumption
  rw [if_neg (by rw [hnn]; decide)]
  refine Run.holdBoxNil 3 1 90 5 1 (bytesG .empty) rfl rfl rfl rfl ?_
  refine Run.loop [1, 3, 15] (fun (a : Nat × AV) => [(16, .int .i64 (a.1 : Int))]) (fun a => [(1, .box 42 [.bool nn, .str (bs l), tI.L ws]), (3, .box 50 [a.2, .row 90]), (90, .row 5 1 (bs (l.take a.1)).size (bytesG (bs (l.take a.1))))]) (fun a => a.1 ≤ l.length ∧ (a.2 = .nilp ∨ a.2 = .box 3 0)) (fun a => l.length - a.1) (0, .nilp) ⟨Nat.zero_le _, .inl rfl⟩ ⟨Le.refl _, trivial⟩ ⟨MOle.refl _, MOle.refl _, MOle.refl _, trivial⟩ ?_
  intro ⟨i, p⟩ ⟨hi, hp2⟩ IH
  simp only [] at hi hp2 ⊢
  have hwi : IntKind.i64.wrap ((i : Int) + 1) = ((i + 1 : Nat) : Int) := wrap64 (by omega) (by omega)
  have hsz := bs_size l
  have hst : (bs (l.take i)).size ≤ 1000000 := by rw [bs_size, List.length_take]; omega
  by_cases hil : i < l.length
  · have hpi := hp i hil
    unfold plainB at hpi
    rw [Bool.and_eq_true, Bool.and_eq_true, decide_eq_true_eq, decide_eq_true_eq, beq_iff_eq] at hpi
    have hc : bt (bs l) (i : Int).toNat = ((l.getD i 0).toNat : Int) := bt_bs l i
    have hib : Lib.indexByte [59, 93, 92] (bt (bs l) (i : Int).toNat).toNat.toUInt8 = -1 := by
      rw [hc, Int.toNat_natCast, Nat.toUInt8, UInt8.ofNat_toNat]; exact hpi.2
    refine Run.go ?_; (conv => whnf); repeat' (first | ((with_reducible refine Know.mk fun _ => ?_); conv => whnf) | ((with_reducible refine Need.mk ?_ ?_); exact nd; conv => whnf) | ((with_reducible refine Both.mk ?_ ?_) <;> conv => whnf) | ((with_reducible refine Any.mk fun b hb => ?_); conv => whnf) | ((with_reducible first | refine AskB.dec (fun hb => ?_) (fun hb => ?_) | refine AskB.ndec (fun hb => ?_) (fun hb => ?_) | refine AskB.mk (fun hb => ?_) (fun hb => ?_)) <;> first | (exfalso; omega) | (conv => whnf)) | ((with_reducible first | refine Run.drawX rfl (by decide +kernel) ?_ | refine Run.drawT rfl (by decide +kernel) ?_ | refine Run.drawW rfl (by decide +kernel) ?_); conv => whnf) | fail)
    all_goals try (exfalso; omega)
    refine Run.callBX (ib47_fn [59, 93, 92] _) rfl rfl ⟨Le.refl _, Le.refl _, trivial⟩ rfl rfl rfl ?_
    rw [hib]
    (conv => whnf); repeat' (first | ((with_reducible refine Know.mk fun _ => ?_); conv => whnf) | ((with_reducible refine Need.mk ?_ ?_); exact nd; conv => whnf) | ((with_reducible refine Both.mk ?_ ?_) <;> conv => whnf) | ((with_reducible refine Any.mk fun b hb => ?_); conv => whnf) | ((with_reducible first | refine AskB.dec (fun hb => ?_) (fun hb => ?_) | refine AskB.ndec (fun hb => ?_) (fun hb => ?_) | refine AskB.mk (fun hb => ?_) (fun hb => ?_)) <;> first | (exfalso; omega) | (conv => whnf)) | ((with_reducible first | refine Run.drawX rfl (by decide +kernel) ?_ | refine Run.drawT rfl (by decide +kernel) ?_ | refine Run.drawW rfl (by decide +kernel) ?_); conv => whnf) | fail)
    all_goals try (exfalso; omega)
    refine Run.bldr 50 5 3 90 p (bs (l.take i)) (MOle.refl _) (MOle.refl _) ?_
    refine wb3 p _ (l.getD i 0) rfl rfl rfl rfl rfl ?_ (by omega) hp2 ?_
    · show AV.int .u8 (bt (bs l) (i : Int).toNat) = _
      rw [hc]
    refine Run.tidy [1, 3, 15, 16] [1, 3, 90] ?_; (conv => whnf)
    refine Run.go ?_; (conv => whnf); repeat' (first | ((with_reducible refine Know.mk fun _ => ?_); conv => whnf) | ((with_reducible refine Need.mk ?_ ?_); exact nd; conv => whnf) | ((with_reducible first | refine Both.mk ?_ ?_ | refine Any.mk fun b hb => ?_ | refine AskB.dec (fun hb => ?_) (fun hb => ?_) | refine AskB.ndec (fun hb => ?_) (fun hb => ?_) | refine AskB.mk (fun hb => ?_) (fun hb => ?_)) <;> conv => whnf) | ((with_reducible first | refine Run.drawX rfl (by decide +kernel) ?_ | refine Run.drawT rfl (by decide +kernel) ?_ | refine Run.drawW rfl (by decide +kernel) ?_); conv => whnf) | fail)
    refine Run.to _ _ ?_ ?_ (IH (i + 1, .box 3 0) (by simp only []; omega) ⟨by simp only []; omega, .inr rfl⟩)
    · exact ⟨Le.refl _, Le.refl _, Le.refl _, Le.int hwi, trivial⟩
    · refine ⟨MOle.refl _, MOle.refl _, ?_, trivial⟩
      have : bs (l.take i) ++ ⟨#[l.getD i 0]⟩ = bs (l.take (i + 1)) := by rw [bs_push, take_at l i 0 hil]
      rw [← this]
      exact MOle.refl _
  · obtain rfl : i = l.length := by omega
    refine Run.go ?_; (conv => whnf); repeat' (first | ((with_reducible refine Know.mk fun _ => ?_); conv => whnf) | ((with_reducible refine Need.mk ?_ ?_); exact nd; conv => whnf) | ((with_reducible refine Both.mk ?_ ?_) <;> conv => whnf) | ((with_reducible refine Any.mk fun b hb => ?_); conv => whnf) | ((with_reducible first | refine AskB.dec (fun hb => ?_) (fun hb => ?_) | refine AskB.ndec (fun hb => ?_) (fun hb => ?_) | refine AskB.mk (fun hb => ?_) (fun hb => ?_)) <;> first | (exfalso; omega) | (conv => whnf)) | ((with_reducible first | refine Run.drawX rfl (by decide +kernel) ?_ | refine Run.drawT rfl (by decide +kernel) ?_ | refine Run.drawW rfl (by decide +kernel) ?_); conv => whnf) | fail)
    all_goals try (exfalso; omega)
    refine Run.bldr 50 5 3 90 p (bs (l.take l.length)) (MOle.refl _) (MOle.refl _) ?_
    refine bs3 p _ rfl rfl rfl rfl rfl ?_
    refine Run.go ?_; (conv => whnf); repeat' (first | ((with_reducible refine Know.mk fun _ => ?_); conv => whnf) | ((with_reducible refine Need.mk ?_ ?_); exact nd; conv => whnf) | ((with_reducible first | refine Both.mk ?_ ?_ | refine Any.mk fun b hb => ?_ | refine AskB.dec (fun hb => ?_) (fun hb => ?_) | refine AskB.ndec (fun hb => ?_) (fun hb => ?_) | refine AskB.mk (fun hb => ?_) (fun hb => ?_)) <;> conv => whnf) | ((with_reducible first | refine Run.drawX rfl (by decide +kernel) ?_ | refine Run.drawT rfl (by decide +kernel) ?_ | refine Run.drawW rfl (by decide +kernel) ?_); conv => whnf) | fail)
    exact Run.leave (ts := [2]) (.inr ⟨_, rfl⟩) rfl Tryd.func27 rfl (Le.str (by rw [List.take_length]))
theorem small1_fn : Fn Tryd.prog 73 [.int .i64 1] (.str ⟨#[49]⟩) := by
  refine Fn.of Tryd.f73 _ Tryd.func73 rfl (by decide) (by show 1 ≤ _; decide) tbOk 15 rfl fun S w0 gl => ?_
  refine Run.go ?_; (conv => whnf); repeat' (first | ((with_reducible refine Know.mk fun _ => ?_); conv => whnf) | ((with_reducible refine Need.mk ?_ ?_); exact nd; conv => whnf) | ((with_reducible first | refine Both.mk ?_ ?_ | refine Any.mk fun b hb => ?_ | refine AskB.dec (fun hb => ?_) (fun hb => ?_) | refine AskB.ndec (fun hb => ?_) (fun hb => ?_) | refine AskB.mk (fun hb => ?_) (fun hb => ?_)) <;> conv => whnf) | ((with_reducible first | refine Run.drawX rfl (by decide +kernel) ?_ | refine Run.drawT rfl (by decide +kernel) ?_ | refine Run.drawW rfl (by decide +kernel) ?_); conv => whnf) | fail)
  all_goals first
    | exact Run.leave (ts := [2]) (.inr ⟨_, rfl⟩) rfl Tryd.func73 rfl (Le.str (by decide +kernel))
    | (exfalso; omega)
theorem fmtInt1_fn : Fn Tryd.prog 57 [.int .i64 1, .int .i64 10] (.str ⟨#[49]⟩) := by
  refine Fn.of Tryd.f57 _ Tryd.func57 rfl (by decide) (by show 2 ≤ _; decide) tbOk 54 rfl fun S w0 gl => ?_
  refine Run.go ?_; (conv => whnf); repeat' (first | ((with_reducible refine Know.mk fun _ => ?_); conv => whnf) | ((with_reducible refine Need.mk ?_ ?_); exact nd; conv => whnf) | ((with_reducible refine Both.mk ?_ ?_) <;> conv => whnf) | ((with_reducible refine Any.mk fun b hb => ?_); conv => whnf) | ((with_reducible first | refine AskB.dec (fun hb => ?_) (fun hb => ?_) | refine AskB.ndec (fun hb => ?_) (fun hb => ?_) | refine AskB.mk (fun hb => ?_) (fun hb => ?_)) <;> first | (exfalso; omega) | (conv => whnf)) | ((with_reducible first | refine Run.drawX rfl (by decide +kernel) ?_ | refine Run.drawT rfl (by decide +kernel) ?_ | refine Run.drawW rfl (by decide +kernel) ?_); conv => whnf) | fail)
  all_goals try (exfalso; omega)
  refine Run.callBX small1_fn rfl rfl ⟨Le.refl _, trivial⟩ rfl rfl rfl ?_
  (conv => whnf); repeat' (first | ((with_reducible refine Know.mk fun _ => ?_); conv => whnf) | ((with_reducible refine Need.mk ?_ ?_); exact nd; conv => whnf) | ((with_reducible first | refine Both.mk ?_ ?_ | refine Any.mk fun b hb => ?_ | refine AskB.dec (fun hb => ?_) (fun hb => ?_) | refine AskB.ndec (fun hb => ?_) (fun hb => ?_) | refine AskB.mk (fun hb => ?_) (fun hb => ?_)) <;> conv => whnf) | ((with_reducible first | refine Run.drawX rfl (by decide +kernel) ?_ | refine Run.drawT rfl (by decide +kernel) ?_ | refine Run.drawW rfl (by decide +kernel) ?_); conv => whnf) | fail)
  exact Run.leave (ts := [4]) (.inr ⟨_, rfl⟩) rfl Tryd.func57 rfl (Le.refl _)
theorem itoaI1_fn : Fn Tryd.prog 44 [.int .i64 1] (.str ⟨#[49]⟩) := by
  refine Fn.of Tryd.f44 _ Tryd.func44 rfl (by decide) (by show 1 ≤ _; decide) tbOk 5 rfl fun S w0 gl => ?_
  refine Run.go ?_; (conv => whnf); repeat' (first | ((with_reducible refine Know.mk fun _ => ?_); conv => whnf) | ((with_reducible refine Need.mk ?_ ?_); exact nd; conv => whnf) | ((with_reducible first | refine Both.mk ?_ ?_ | refine Any.mk fun b hb => ?_ | refine AskB.dec (fun hb => ?_) (fun hb => ?_) | refine AskB.ndec (fun hb => ?_) (fun hb => ?_) | refine AskB.mk (fun hb => ?_) (fun hb => ?_)) <;> conv => whnf) | ((with_reducible first | refine Run.drawX rfl (by decide +kernel) ?_ | refine Run.drawT rfl (by decide +kernel) ?_ | refine Run.drawW rfl (by decide +kernel) ?_); conv => whnf) | fail)
  refine Run.callBX fmtInt1_fn rfl rfl ⟨Le.refl _, Le.refl _, trivial⟩ rfl rfl rfl ?_
  (conv => whnf); repeat' (first | ((with_reducible refine Know.mk fun _ => ?_); conv => whnf) | ((with_reducible refine Need.mk ?_ ?_); exact nd; conv => whnf) | ((with_reducible first | refine Both.mk ?_ ?_ | refine Any.mk fun b hb => ?_ | refine AskB.dec (fun hb => ?_) (fun hb => ?_) | refine AskB.ndec (fun hb => ?_) (fun hb => ?_) | refine AskB.mk (fun hb => ?_) (fun hb => ?_)) <;> conv => whnf) | ((with_reducible first | refine Run.drawX rfl (by decide +kernel) ?_ | refine Run.drawT rfl (by decide +kernel) ?_ | refine Run.drawW rfl (by decide +kernel) ?_); conv => whnf) | fail)
  exact Run.leave (ts := [2]) (.inr ⟨_, rfl⟩) rfl Tryd.func44 rfl (Le.refl _)
theorem itoa1_fn : Fn Tryd.prog 28 [.int .i64 1] (.str ⟨#[49]⟩) := by
  refine Fn.of Tryd.f28 _ Tryd.func28 rfl (by decide) (by show 1 ≤ _; decide) tbOk 5 rfl fun S w0 gl => ?_
  refine Run.go ?_; (conv => whnf); repeat' (first | ((with_reducible refine Know.mk fun _ => ?_); conv => whnf) | ((with_reducible refine Need.mk ?_ ?_); exact nd; conv => whnf) | ((with_reducible first | refine Both.mk ?_ ?_ | refine Any.mk fun b hb => ?_ | refine AskB.dec (fun hb => ?_) (fun hb => ?_) | refine AskB.ndec (fun hb => ?_) (fun hb => ?_) | refine AskB.mk (fun hb => ?_) (fun hb => ?_)) <;> conv => whnf) | ((with_reducible first | refine Run.drawX rfl (by decide +kernel) ?_ | refine Run.drawT rfl (by decide +kernel) ?_ | refine Run.drawW rfl (by decide +kernel) ?_); conv => whnf) | fail)
  refine Run.callBX itoaI1_fn rfl rfl ⟨Le.refl _, trivial⟩ rfl rfl rfl ?_
  (conv => whnf); repeat' (first | ((with_reducible refine Know.mk fun _ => ?_); conv => whnf) | ((with_reducible refine Need.mk ?_ ?_); exact nd; conv => whnf) | ((with_reducible first | refine Both.mk ?_ ?_ | refine Any.mk fun b hb => ?_ | refine AskB.dec (fun hb => ?_) (fun hb => ?_) | refine AskB.ndec (fun hb => ?_) (fun hb => ?_) | refine AskB.mk (fun hb => ?_) (fun hb => ?_)) <;> conv => whnf) | ((with_reducible first | refine Run.drawX rfl (by decide +kernel) ?_ | refine Run.drawT rfl (by decide +kernel) ?_ | refine Run.drawW rfl (by decide +kernel) ?_); conv => whnf) | fail)
  exact Run.leave (ts := [2]) (.inr ⟨_, rfl⟩) rfl Tryd.func28 rfl (Le.refl _)
theorem join1_fn (s sep : ByteArray) : Fn Tryd.prog 29 [tS.L [s], .str sep] (.str s) := by
  refine Fn.of Tryd.f29 _ Tryd.func29 rfl (by decide) (by show 2 ≤ _; decide) tbOk 75 rfl fun S w0 gl => ?_
  have hl : [s].length = 1 := rfl
  refine Run.go ?_; (conv => whnf); repeat' (first | ((with_reducible refine Know.mk fun _ => ?_); conv => whnf) | ((with_reducible refine Need.mk ?_ ?_); exact nd; conv => whnf) | ((with_reducible refine Both.mk ?_ ?_) <;> conv => whnf) | ((with_reducible refine Any.mk fun b hb => ?_); conv => whnf) | ((with_reducible first | refine AskB.dec (fun hb => ?_) (fun hb => ?_) | refine AskB.ndec (fun hb => ?_) (fun hb => ?_) | refine AskB.mk (fun hb => ?_) (fun hb => ?_)) <;> first | (exfalso; omega) | (conv => whnf)) | ((with_reducible first | refine Run.drawX rfl (by decide +kernel) ?_ | refine Run.drawT rfl (by decide +kernel) ?_ | refine Run.drawW rfl (by decide +kernel) ?_); conv => whnf) | fail)
  all_goals try (exfalso; omega)
  exact Run.leave (ts := [4]) (.inr ⟨_, rfl⟩) rfl Tryd.func29 rfl (Le.refl _)
end Go.Proofs.YteklnpgiloebcaaDoor.V

namespace Go.Proofs.YteklnpgiloebcaaDoor.V
set_option linter.unusedVariables false
set_option linter.unusedSimpArgs false
open Go Go.RowKit
structure StatS (ops : Array Oper) (all : List Nat) : Prop where
  edge : ∀ (i : Nat) o, ops[i]? = some o → ∀ e ∈ o.after, Region.binds .any e = true → e.on < i
  look : ∀ (i : Nat) o, i < ops.size → ops[i]? = some o → ∀ s ∈ looks ops o, ∀ j, j < ops.size → dstOf ops j = some s → ∃ e ∈ o.after, Region.binds .any e = true ∧ e.on = j
  one : ∀ i j d, i < ops.size → j < ops.size → dstOf ops i = some d → dstOf ops j = some d → i = j
/-- What an op that only reads gives, once its operands are there. -/
def OpSemR (C : Ctx) (h : Heap) (ops : Array Oper) (E : Env) (i : Nat) : Prop :=
  ∃ o, ops[i]? = some o ∧ okD C o.dst = true ∧ o.guard = none ∧ ∀ env ι a w, Rel C env h ι a w → (∀ y ∈ o.op.operands, VR w (okB C h ι w) (ev E y) (rf h ι) (a.eval y)) → ∃ x, Quiet C h o (ev E) x ∧ ∀ d, o.dst = some d → Le x (E d)
/-- The same, worked out. -/
def opAt (C : Ctx) (h : Heap) (ops : Array Oper) (E : Env) (i : Nat) : Prop := match ops.toList[i]? with
  | some o => withDst o fun dst => cond (okD C dst) (cond o.guard.isNone (qop C o (ev E) h (fun x => fv x fun x => match dst with | none => True | some d => Le x (E d)) False) False) False
  | none => False
theorem opAt_ok {C : Ctx} {h : Heap} {ops : Array Oper} {E : Env} {i : Nat} (hq : opAt C h ops E i) : OpSemR C h ops E i := by
  unfold opAt at hq
  cases ho : ops.toList[i]? with
  | none => rw [ho] at hq; exact hq.elim
  | some o =>
    rw [ho] at hq
    simp only [withDst_eq] at hq
    cases hd : okD C o.dst with
    | false => rw [hd] at hq; exact hq.elim
    | true =>
      rw [hd, cond_true] at hq
      cases hg : o.guard with
      | some g => rw [hg] at hq; exact hq.elim
      | none =>
        rw [hg] at hq
        simp only [Option.isNone_none, cond_true] at hq
        refine ⟨o, by simpa using ho, hd, hg, fun env ι a w R hρ => ?_⟩
        rcases qop_quiet R hρ hq with hf | ⟨x, hx, hqx⟩
        · exact hf.elim
        · refine ⟨x, hqx, fun d hdd => ?_⟩
          have hx := (fv_eq _ _).mp hx
          rw [hdd] at hx
          exact hx
def allowed (ops : Array Oper) (all ms done : List Nat) (i : Nat) : Bool := !(all.any (Nat.beq i)) && ms.all (fun m => !reachB ops 40 i m) && done.all (fun m => !reachB ops 40 m i)
/-- One stage behind the other: what the reads give at each, what the memory's statements make of it. -/
def StageOK (C : Ctx) (ops : Array Oper) (k : List Item) (all : List Nat) : List Nat → List Nat → Env → Heap → Prop
  | [], done, F, H => (∀ i, i < ops.size → allowed ops all [] done i = true → OpSemR C H ops F i) ∧ Run C (.inRegion ops [] :: k) F H
  | m :: ms, done, F, H => (∀ i, i < ops.size → allowed ops all (m :: ms) done i = true → OpSemR C H ops F i) ∧ (∀ m' ∈ ms, reachB ops 40 m' m = true) ∧ m < ops.size ∧
      ∃ F' H', (∀ (listed : Array Bool) rest, listed.size = ops.size → (∀ o, ops[m]? = some o → ∀ e ∈ o.after, Region.binds .any e = true → listed.getD e.on false = true) →
          Run C (.inRegion ops rest :: k) (envX ops ops.size F' (listed.setIfInBounds m true)) H' → Run C (.inRegion ops (m :: rest) :: k) (envX ops ops.size F listed) H) ∧ StageOK C ops k all ms (m :: done) F' H'
section
variable {C : Ctx} {ops : Array Oper}
theorem stageOK_lt {k : List Item} {all : List Nat} : ∀ {ms done : List Nat} {F : Env} {H : Heap}, StageOK C ops k all ms done F H → ∀ m ∈ ms, m < ops.size
  | [], _, _, _, _, m, h => absurd h List.not_mem_nil
  | m0 :: ms, _, _, _, hs, m, h => by
    obtain ⟨_, _, h1, _, _, _, h2⟩ := hs
    rcases List.mem_cons.mp h with rfl | h
    · exact h1
    · exact stageOK_lt h2 m h
theorem quiet_step {k : List Item} {E : Env} {h : Heap} {all : List Nat} (S : StatS ops all) {i : Nat} {rest : List Nat} {listed : Array Bool} (hsz : listed.size = ops.size) (hi : i < ops.size) (hsem : OpSemR C h ops E i)
    (hpre : ∀ o, ops[i]? = some o → ∀ e ∈ o.after, Region.binds .any e = true → listed.getD e.on false = true)
    (hrec : Run C (.inRegion ops rest :: k) (envX ops ops.size E (listed.setIfInBounds i true)) h) : Run C (.inRegion ops (i :: rest) :: k) (envX ops ops.size E listed) h := by
  obtain ⟨o, ho, hd, hg, hsem⟩ := hsem
  have hdsti : dstOf ops i = o.dst := by unfold dstOf; rw [show ops.toList[i]? = some o by simpa using ho]; rfl
  have hlk : ∀ s ∈ looks ops o, envX ops ops.size E listed s = E s := by
    intro s hs2
    unfold envX
    rw [unl_false (fun j hjp hj => ?_)]
    · rfl
    · obtain ⟨e, h1, h2, h3⟩ := S.look i o hi ho s hs2 j hjp hj
      have := hpre o ho e h1 h2
      rw [h3] at this
      have hjl : j < listed.size := by rw [hsz]; exact dstOf_lt hj
      rw [getD_two (b := false) hjl]; exact this
  have hle : ∀ (x : AV), (∀ d, o.dst = some d → Le x (E d)) → ∀ s, Le (putE (envX ops ops.size E listed) o.dst x s) (envX ops ops.size E (listed.setIfInBounds i true) s) := by
    intro x hx s
    by_cases hsd : o.dst = some s
    · rw [hsd]
      simp only [putE, upd_same]
      unfold envX
      cases unl ops ops.size (listed.setIfInBounds i true) s with
      | true => exact Le.u _
      | false => exact hx s hsd
    · have e1 : putE (envX ops ops.size E listed) o.dst x s = envX ops ops.size E listed s := by
        cases hq : o.dst with
        | none => rfl
        | some d => exact upd_other _ _ (fun e => hsd (by rw [hq, e]))
      rw [e1]
      unfold envX
      cases hu : unl ops ops.size (listed.setIfInBounds i true) s with
      | true => exact Le.u _
      | false =>
        have : unl ops ops.size listed s = false := by
          refine unl_false fun j hjp hj => ?_
          unfold unl at hu
          rw [List.any_eq_false] at hu
          have := hu j (List.mem_range.mpr hjp)
          simp only [hj, beq_self_eq_true, Bool.and_true, Bool.not_eq_true, Bool.not_eq_false'] at this
          rw [getD_set] at this
          by_cases hij : i = j
          · subst hij; exact absurd (hdsti ▸ hj) hsd
          · rwa [if_neg hij] at this
        rw [this]; exact Le.refl _
  refine Run.of_step fun ι a w b cs _ R => ?_
  have hopn : ∀ y ∈ o.op.operands, VR w (okB C h ι w) (ev E y) (rf h ι) (a.eval y) := fun y hy => by
    have := ev_ok R y
    cases y with
    | tmp s => have e : ev (envX ops ops.size E listed) (.tmp s) = ev E (.tmp s) := hlk s (looks_tmp hy)
               rw [e] at this; exact this
    | const v => exact this
    | global g => exact this
    | func f => exact this
  obtain ⟨x, hq, hx⟩ := hsem _ ι a w R hopn
  obtain ⟨v, w', ι', hst, R', hv⟩ := hq _ ι a w R hopn b k cs ops i rest ho (wanted_none hg _)
  exact ⟨_, h, ι', _, w', _, hst, (R'.put hv hd).weaken (hle x hx) (fun _ => MOle.refl _), hrec⟩
theorem stages_ok {k : List Item} {all : List Nat} (S : StatS ops all) : ∀ (l : List Nat) (ms done : List Nat) (F : Env) (H : Heap) (listed : Array Bool), StageOK C ops k all ms done F H → (∀ i, i ∈ all → i ∈ ms ∨ i ∈ done) → listed.size = ops.size → Closed ops listed → Sched ops listed l →
    (∀ m ∈ ms, listed.getD m true = false) → (∀ m ∈ done, listed.getD m false = true) → Run C (.inRegion ops l :: k) (envX ops ops.size F listed) H := by
  intro l
  induction l with
  | nil =>
    intro ms done F H listed hst hall hsz hcl hs hms hdone
    have hs : ∀ j, j < ops.size → listed.getD j true = true := fun j hj => hs j hj
    cases ms with
    | cons m ms =>
      have h1 := stageOK_lt hst m (List.mem_cons_self ..)
      have h2 := hms m (List.mem_cons_self ..)
      rw [hs m h1] at h2; cases h2
    | nil =>
      refine Run.weaken (fun s => ?_) (fun _ => MOle.refl _) hst.2
      unfold envX
      rw [unl_false (fun j hj _ => hs j hj)]
      exact Le.refl _
  | cons i rest ih =>
    intro ms done F H listed hst hall hsz hcl hs hms hdone
    obtain ⟨hi, hil, hpre, hs'⟩ := hs
    have hmv : ∀ m, listed.getD m true = false → listed.getD m false = false ∨ True := fun _ _ => .inr trivial
    by_cases hia : i ∈ ms
    · cases ms with
      | nil => exact absurd hia List.not_mem_nil
      | cons m ms =>
        obtain ⟨hq, htot, hmlt, F', H', hM, hnext⟩ := hst
        have him : i = m := by
          rcases List.mem_cons.mp hia with h | h
          · exact h
          · exfalso
            have h1 := reach_listed hcl 40 i hpre (htot i h)
            have h2 := hms m (List.mem_cons_self ..)
            rw [getD_two (b := true) (by omega)] at h1
            rw [h1] at h2; cases h2
        subst him
        refine hM listed rest hsz hpre (ih ms (i :: done) F' H' (listed.setIfInBounds i true) hnext (fun j hj => ?_) (by simpa using hsz) (hcl.set hpre) hs' (fun m hm => ?_) (fun m hm => ?_))
        · rcases hall j hj with h | h
          · rcases List.mem_cons.mp h with h | h
            · exact .inr (List.mem_cons.mpr (.inl h))
            · exact .inl h
          · exact .inr (List.mem_cons_of_mem _ h)
        · rw [getD_set]
          split
          · rename_i e
            exfalso
            subst e
            have h1 := reach_listed hcl 40 i hpre (htot i hm)
            rw [getD_two (b := true) (by omega), hil] at h1; cases h1
          · exact hms m (List.mem_cons_of_mem _ hm)
        · rcases List.mem_cons.mp hm with rfl | hm
          · rw [getD_two (b := true) (by simpa [hsz] using hi), getD_set, if_pos rfl]
          · exact getD_mono (hdone m hm)
    · have hnd : i ∉ done := fun h => by
        have := hdone i h
        rw [getD_two (b := true) (by omega), hil] at this; cases this
      have hna : i ∉ all := fun h => (hall i h).elim hia hnd
      have hal : allowed ops all ms done i = true := by
        unfold allowed
        rw [Bool.and_eq_true, Bool.and_eq_true]
        refine ⟨⟨?_, List.all_eq_true.mpr fun m hm => ?_⟩, List.all_eq_true.mpr fun m hm => ?_⟩
        · rw [Bool.not_eq_true', List.any_eq_false]
          intro x hx hb
          exact hna (by rw [Nat.eq_of_beq_eq_true hb]; exact hx)
        · cases hr : reachB ops 40 i m with
          | false => rfl
          | true =>
            have h1 := reach_listed hcl 40 i hpre hr
            have h2 := hms m hm
            rw [getD_two (b := true) (by rw [hsz]; exact stageOK_lt hst m hm), h2] at h1; cases h1
        · cases hr : reachB ops 40 m i with
          | false => rfl
          | true =>
            have h1 := reach_listed hcl 40 m (fun o ho e he hb => hcl m o ho (hdone m hm) e he hb) hr
            rw [getD_two (b := true) (by omega), hil] at h1; cases h1
      have hsem : OpSemR C H ops F i := by
        cases ms with
        | nil => exact hst.1 i hi hal
        | cons m ms => exact hst.1 i hi hal
      exact quiet_step S hsz hi hsem hpre (ih ms done F H (listed.setIfInBounds i true) hst hall (by simpa using hsz) (hcl.set hpre) hs' (fun m hm => by
        rw [getD_set, if_neg (fun e => hia (by rw [e]; exact hm))]; exact hms m hm) (fun m hm => getD_mono (hdone m hm)))
def drawStatS (ops : Array Oper) : Bool := (List.range ops.size).all fun i => match ops.toList[i]? with
  | none => false
  | some o => (o.after.toList.all fun e => !Region.binds .any e || Nat.blt e.on i) &&
    ((looks ops o).all fun s => (List.range ops.size).all fun j => match dstOf ops j with
      | some d => !(Nat.beq d s) || (o.after.toList.any fun e => Region.binds .any e && Nat.beq e.on j)
      | none => true) &&
    ((List.range ops.size).all fun j => Nat.beq j i || match dstOf ops j, o.dst with
      | some d, some d' => !(Nat.beq d d')
      | _, _ => true)
theorem StatS.of {all : List Nat} (hs : drawStatS ops = true) : StatS ops all := by
  unfold drawStatS at hs
  have key : ∀ (i : Nat) o, ops[i]? = some o → ((o.after.toList.all fun e => !Region.binds .any e || Nat.blt e.on i) = true ∧
    ((looks ops o).all fun s => (List.range ops.size).all fun j => match dstOf ops j with
      | some d => !(Nat.beq d s) || (o.after.toList.any fun e => Region.binds .any e && Nat.beq e.on j)
      | none => true) = true) ∧
    ((List.range ops.size).all fun j => Nat.beq j i || match dstOf ops j, o.dst with
      | some d, some d' => !(Nat.beq d d')
      | _, _ => true) = true := by
    intro i o ho
    have hi : i < ops.size := (Array.getElem?_eq_some_iff.1 ho).1
    have := List.all_eq_true.mp hs i (List.mem_range.mpr hi)
    have ho' : ops.toList[i]? = some o := by simpa using ho
    rw [ho'] at this
    simpa only [Bool.and_eq_true] using this
  refine ⟨?_, ?_, ?_⟩
  · intro i o ho e he hb
    have := List.all_eq_true.mp (key i o ho).1.1 e (by simpa using he)
    rw [hb] at this
    simpa [Nat.blt_eq] using this
  · intro i o hip ho s hs' j hjp hj
    have h1 := List.all_eq_true.mp (key i o ho).1.2 s hs'
    have h2 := List.all_eq_true.mp h1 j (List.mem_range.mpr hjp)
    rw [hj] at h2
    simp only [Nat.beq_refl, Bool.not_true, Bool.false_or] at h2
    obtain ⟨e, he, h3⟩ := List.any_eq_true.mp h2
    rw [Bool.and_eq_true] at h3
    exact ⟨e, by simpa using he, h3.1, Nat.eq_of_beq_eq_true h3.2⟩
  · intro i j d hip hjp hi hj
    have hi' := hi
    unfold dstOf at hi'
    cases ho : ops.toList[i]? with
    | none => rw [ho] at hi'; cases hi'
    | some o =>
      rw [ho] at hi'
      have hd : o.dst = some d := hi'
      have h1 := List.all_eq_true.mp (key i o (by simpa using ho)).2 j (List.mem_range.mpr hjp)
      rw [hj, hd] at h1
      simp only [Nat.beq_refl, Bool.not_true, Bool.or_false] at h1
      exact (Nat.eq_of_beq_eq_true h1).symm
theorem Run.drawS {id : Nat} {k : List Item} {env : Env} {h : Heap} (all : List Nat) (F : Env) (hm : C.P.follows .mixedOrders = true) (hs : drawStatS ops = true) (hF : ∀ s, (∀ j, j < ops.size → dstOf ops j ≠ some s) → Le (env s) (F s))
    (hst : StageOK C ops k all all [] F h) : Run C (.code (.region id ops true) :: k) env h := by
  have S : StatS ops all := StatS.of hs
  refine ⟨fun ι a w b cs hb hkd R => ?_⟩
  have hf : ∀ j, (Array.replicate ops.size false).getD j false = false := fun j => by
    rw [Array.getD_eq_getD_getElem?, Array.getElem?_replicate]; split <;> rfl
  have hf' : ∀ j, j < ops.size → (Array.replicate ops.size false).getD j true = false := fun j hj => by simp [hj]
  have hrun := stages_ok (C := C) (k := k) S (Region.schedule (C.P.follows .mixedOrders) ops (w.tape w.drawn (.order b.fn id))) all [] F h (Array.replicate ops.size false) hst (fun i hi => .inl hi) (by simp)
    (fun i o ho hl => by rw [hf] at hl; cases hl) (sched_of hm S.edge _) (fun m hm => hf' m (stageOK_lt hst m hm)) (fun m hm => absurd hm List.not_mem_nil)
  have Rd : Rel C env h ι a { w with drawn := w.drawn + 1 } := R.grow ((Below.refl _ _).drew)
  have R' : Rel C (envX ops ops.size F (Array.replicate ops.size false)) h ι a { w with drawn := w.drawn + 1 } := Rd.weaken (fun s => by
    unfold envX
    cases hu : unl ops ops.size (Array.replicate ops.size false) s with
    | true => exact Le.u _
    | false =>
      refine hF s fun j hjp hj => ?_
      unfold unl at hu
      rw [List.any_eq_false] at hu
      have := hu j (List.mem_range.mpr hjp)
      simp [hj, hjp] at this) (fun _ => MOle.refl _)
  obtain ⟨e, w2, fr, h1, h2, h3⟩ := hrun.run ι a _ b cs hb hkd R'
  exact ⟨e, w2, fr, h1, Comes.of_steps (.one step_region_draw) h2, h3⟩
/-- Slots behind a statement that changes all of them in one way. -/
theorem mask_step {o : Oper} {m : Nat} (ho : ops.toList[m]? = some o) {F F' : Env} {listed : Array Bool} (τ : AV → AV) (hu : τ .u = .u) (y : AV) (hF : ∀ s, o.dst ≠ some s → Le (τ (F s)) (F' s)) (hy : ∀ d, o.dst = some d → Le y (F' d)) (s : Nat) :
    Le (putE (fun s => τ (envX ops ops.size F listed s)) o.dst y s) (envX ops ops.size F' (listed.setIfInBounds m true) s) := by
  have hdst : dstOf ops m = o.dst := by unfold dstOf; rw [ho]; rfl
  unfold envX
  cases hul : unl ops ops.size (listed.setIfInBounds m true) s with
  | true => exact Le.u _
  | false =>
    by_cases hsd : o.dst = some s
    · rw [hsd]
      simp only [putE, upd_same]
      exact hy s hsd
    · have e1 : putE (fun s => τ (cond (unl ops ops.size listed s) .u (F s))) o.dst y s = τ (cond (unl ops ops.size listed s) .u (F s)) := by
        cases hq : o.dst with
        | none => rfl
        | some d =>
          have hsd' : s ≠ d := fun e => hsd (by rw [hq, e])
          show upd (fun s => τ (cond (unl ops ops.size listed s) .u (F s))) d y s = _
          rw [upd_other _ _ hsd']
      rw [e1]
      have : unl ops ops.size listed s = false := by
        refine unl_false fun j hjp hj => ?_
        unfold unl at hul
        rw [List.any_eq_false] at hul
        have := hul j (List.mem_range.mpr hjp)
        simp only [hj, beq_self_eq_true, Bool.and_true, Bool.not_eq_true, Bool.not_eq_false'] at this
        rw [getD_set] at this
        by_cases hij : m = j
        · subst hij; exact absurd (hdst ▸ hj) hsd
        · rwa [if_neg hij] at this
      rw [this]
      exact hF s hsd
theorem mask_look {all : List Nat} (S : StatS ops all) {o : Oper} {m : Nat} (ho : ops[m]? = some o) (hm : m < ops.size) {F : Env} {listed : Array Bool} (hsz : listed.size = ops.size) (hpre : ∀ o, ops[m]? = some o → ∀ e ∈ o.after, Region.binds .any e = true → listed.getD e.on false = true)
    {s : Nat} (hs : s ∈ looks ops o) : envX ops ops.size F listed s = F s := by
  unfold envX
  rw [unl_false (fun j hjp hj => ?_)]
  · rfl
  · obtain ⟨e, h1, h2, h3⟩ := S.look m o hm ho s hs j hjp hj
    have := hpre o ho e h1 h2
    rw [h3] at this
    have hjl : j < listed.size := by rw [hsz]; exact dstOf_lt hj
    rw [getD_two (b := false) hjl]; exact this
theorem lst_app {l1 : List (Nat × AV)} {s : Nat} (h : ∀ p ∈ l1, p.1 ≠ s) : ∀ l0 : List (Nat × AV), lst (l0 ++ l1) s = lst l0 s
  | [] => by
    induction l1 with
    | nil => rfl
    | cons p l ih =>
      have h1 := h p (List.mem_cons_self ..)
      have h2 := ih (fun q hq => h q (List.mem_cons_of_mem _ hq))
      simp only [List.nil_append] at h2 ⊢
      unfold lst
      rw [beq_ne (fun e => h1 e.symm)]
      exact h2
  | p :: l => by
    have ih := lst_app h l
    simp only [List.cons_append]
    unfold lst
    rw [ih]
/-- What the statements will write is not yet there. -/
theorem lst_dsts {l0 l1 : List (Nat × AV)} (hb : (l1.all fun p => (List.range ops.size).any fun j => dstOf ops j == some p.1) = true) (s : Nat) (hs : ∀ j, j < ops.size → dstOf ops j ≠ some s) : Le (lst l0 s) (lst (l0 ++ l1) s) := by
  rw [lst_app (fun p hp e => ?_)]
  · exact Le.refl _
  · have h1 := List.all_eq_true.mp hb p hp
    obtain ⟨j, hj, h2⟩ := List.any_eq_true.mp h1
    have h3 : dstOf ops j = some p.1 := by simpa using h2
    rw [e] at h3
    exact hs j (List.mem_range.mp hj) h3
/-- A statement that makes or changes memory, at a stage. -/
theorem Run.stageOp {all : List Nat} (S : StatS ops all) {k : List Item} {o : Oper} {m : Nat} {rest : List Nat} {listed : Array Bool} {F F' : Env} {H H' : Heap} (τ : AV → AV) (y : AV) (ho : ops[m]? = some o) (hm : m < ops.size) (hd : okD C o.dst = true) (hg : o.guard = none) (hu : τ .u = .u)
    (hF : ∀ s, o.dst ≠ some s → Le (τ (F s)) (F' s)) (hy : ∀ d, o.dst = some d → Le y (F' d)) (hsz : listed.size = ops.size) (hpre : ∀ o, ops[m]? = some o → ∀ e ∈ o.after, Region.binds .any e = true → listed.getD e.on false = true)
    (hop : ∀ G : Env, (∀ s ∈ looks ops o, G s = F s) → ∀ (K : Env → Heap → AV → Prop) stop, K (fun s => τ (G s)) H' y → aop C o G H K stop)
    (next : Run C (.inRegion ops rest :: k) (envX ops ops.size F' (listed.setIfInBounds m true)) H') : Run C (.inRegion ops (m :: rest) :: k) (envX ops ops.size F listed) H := by
  refine op_ok (K := fun env' h' x => env' = (fun s => τ (envX ops ops.size F listed s)) ∧ h' = H' ∧ x = y) ho hd (fun env' h' x ⟨e1, e2, e3⟩ => ?_) (fun _ _ _ _ => wanted_none hg _) (hop _ (fun s hs => mask_look S ho hm hsz hpre hs) _ _ ⟨rfl, rfl, rfl⟩)
  subst e1; subst e2; subst e3
  exact Run.weaken (mask_step (show ops.toList[m]? = some o by simpa using ho) τ hu x hF hy) (fun _ => MOle.refl _) next
end
end Go.Proofs.YteklnpgiloebcaaDoor.V

namespace Go.Proofs.YteklnpgiloebcaaDoor.V
set_option linter.unusedVariables false
set_option linter.unusedSimpArgs false
open Go Go.Proofs Go.RowKit
set_option maxRecDepth 100000
set_option maxHeartbeats 1000000
theorem ws3 {N : Nat} {w0 : World} {S : Nat → Prop} {gl : GlobOk S w0} {f : FuncId} {R : Ending → World → Prop} {kp : Kept} {ops : Array Oper} {i : Nat} {rest : List Nat} {k : List Item} {env : Env} {h : Heap} {o : Oper} {x y : Operand}
    (p : AV) (t s : ByteArray) (ho : ops.toList[i]? = some o) (hc : calls? o = some (14, [x, y])) (hd : okD ⟨Tryd.prog, TB, tbOk, N, w0, S, gl, f, R, kp⟩ o.dst = true) (hr : ready env ops o = true) (hx : ev (scrubE 900 env) x = .box 3 0) (hy : ev (scrubE 900 env) y = .str s)
    (hs : t.size + s.size ≤ 140737488355328) (hp : p = .nilp ∨ p = .box 3 0)
    (next : Run ⟨Tryd.prog, TB, tbOk, N, w0, S, gl, f, R, kp⟩ (.inRegion ops rest :: k) (putE (envW 90 env) o.dst .u) (bldr 50 5 3 90 (heapW 90 h) (.box 3 0) (t ++ s))) :
    Run ⟨Tryd.prog, TB, tbOk, N, w0, S, gl, f, R, kp⟩ (.inRegion ops (i :: rest) :: k) env (bldr 50 5 3 90 h p t) := by
  refine Run.inline 900 Tryd.f14 _ 19 ho hc Tryd.func14 rfl (by decide) rfl (by show 2 ≤ 19; decide) hd hr (fun a hsz hdf => ?_)
  simp only [List.map, hx, hy]
  have fin : ∀ (E : Env) (H : Heap) (X : AV), (∀ i, E i = scrub 14 (scrub 901 (scrub 900 (env i)))) → (∀ id, Nat.beq id 3 = false → Nat.beq id 90 = false → Nat.beq id 14 = false → Nat.beq id 901 = false → Nat.beq id 900 = false → H id = scrubM 90 (scrubM 14 (scrubM 901 (scrubM 900 (h id))))) →
      MOle (H 3) (.box 50 [.box 3 0, .row 90]) → MOle (H 90) (.row 5 1 (t ++ s).size (bytesG (t ++ s))) → Run ⟨Tryd.prog, TB, tbOk, N, w0, S, gl, f, R, kp⟩ (.inRegion ops rest :: k) (scrubE 90 (putE E o.dst X)) H := by
    intro E H X hE hH h5 h90
    refine Run.weaken (fun i => ?_) (fun id => ?_) next
    · cases hdst : o.dst with
      | none => show Le (scrub 90 (E i)) _; rw [hE]; exact Le.refl _
      | some d =>
        show Le (scrub 90 (upd E d X i)) (upd (envW 90 env) d .u i)
        by_cases e : i = d
        · subst e; rw [upd_same, upd_same]; exact Le.u _
        · rw [upd_other _ _ e, upd_other _ _ e, hE]; exact Le.refl _
    · unfold bldr heapW
      cases e5 : Nat.beq id 3 with
      | true => have := Nat.eq_of_beq_eq_true e5; subst this; exact h5
      | false =>
      cases e90 : Nat.beq id 90 with
      | true => have := Nat.eq_of_beq_eq_true e90; subst this; exact h90
      | false =>
      cases e900 : Nat.beq id 900 with
      | true => simp only [upd, e5, e90, e900, cond_true, cond_false]; exact mole_dead _
      | false =>
      cases e901 : Nat.beq id 901 with
      | true => simp only [upd, e5, e90, e900, e901, cond_true, cond_false]; exact mole_dead _
      | false =>
      cases e14 : Nat.beq id 14 with
      | true => simp only [upd, e5, e90, e900, e901, e14, cond_true, cond_false]; exact mole_dead _
      | false =>
        rw [hH id e5 e90 e14 e901 e900]
        simp only [upd, e5, e90, e900, e901, e14, cond_true, cond_false]
        exact MOle.refl _
  rcases hp with rfl | rfl
  · refine Run.go ?_; (conv => whnf); repeat' (first | ((with_reducible refine Know.mk fun _ => ?_); conv => whnf) | ((with_reducible refine Need.mk ?_ ?_); exact nd; conv => whnf) | ((with_reducible first | refine Both.mk ?_ ?_ | refine Any.mk fun b hb => ?_ | refine AskB.dec (fun hb => ?_) (fun hb => ?_) | refine AskB.ndec (fun hb => ?_) (fun hb => ?_) | refine AskB.mk (fun hb => ?_) (fun hb => ?_)) <;> conv => whnf) | ((with_reducible first | refine Run.drawX rfl (by decide +kernel) ?_ | refine Run.drawT rfl (by decide +kernel) ?_ | refine Run.drawW rfl (by decide +kernel) ?_); conv => whnf) | fail)
    refine Run.inline 901 Tryd.f26 _ 20 rfl rfl Tryd.func26 rfl (by decide) rfl (by decide) rfl rfl (fun a2 hsz2 hdf2 => ?_)
    refine Run.go ?_; (conv => whnf); repeat' (first | ((with_reducible refine Know.mk fun _ => ?_); conv => whnf) | ((with_reducible refine Need.mk ?_ ?_); exact nd; conv => whnf) | ((with_reducible first | refine Both.mk ?_ ?_ | refine Any.mk fun b hb => ?_ | refine AskB.dec (fun hb => ?_) (fun hb => ?_) | refine AskB.ndec (fun hb => ?_) (fun hb => ?_) | refine AskB.mk (fun hb => ?_) (fun hb => ?_)) <;> conv => whnf) | ((with_reducible first | refine Run.drawX rfl (by decide +kernel) ?_ | refine Run.drawT rfl (by decide +kernel) ?_ | refine Run.drawW rfl (by decide +kernel) ?_); conv => whnf) | fail)
    refine Run.toUnsafe (id := 3) (l := [.nilp, .row 90]) (e := 50) (t := 50) (src := 47) (dst := 86) (x := .tmp 8) rfl rfl rfl rfl rfl rfl (by decide) (by kernel_rfl) (by kernel_rfl) (j := (Tryd.prog.info? 50).get (by kernel_rfl)) (by kernel_rfl) (by decide +kernel) ?_
    refine Run.noEscape (f := 41) (x := .tmp 9) rfl rfl rfl rfl Tryd.func41 (by kernel_rfl) (by kernel_rfl) (by kernel_rfl) (by kernel_rfl) ?_
    refine Run.fromUnsafe (id := 3) (l := [.nilp, .row 90]) (e := 50) (u := 50) (src := 86) (dst := 47) (x := .tmp 10) rfl rfl rfl rfl rfl rfl (by kernel_rfl) (by kernel_rfl) (j := (Tryd.prog.info? 50).get (by kernel_rfl)) (by kernel_rfl) (by kernel_rfl) ?_
    refine Run.go ?_; (conv => whnf); repeat' (first | ((with_reducible refine Know.mk fun _ => ?_); conv => whnf) | ((with_reducible refine Need.mk ?_ ?_); exact nd; conv => whnf) | ((with_reducible first | refine Both.mk ?_ ?_ | refine Any.mk fun b hb => ?_ | refine AskB.dec (fun hb => ?_) (fun hb => ?_) | refine AskB.ndec (fun hb => ?_) (fun hb => ?_) | refine AskB.mk (fun hb => ?_) (fun hb => ?_)) <;> conv => whnf) | ((with_reducible first | refine Run.drawX rfl (by decide +kernel) ?_ | refine Run.drawT rfl (by decide +kernel) ?_ | refine Run.drawW rfl (by decide +kernel) ?_); conv => whnf) | fail)
    refine Run.back 901 (ts := []) hsz2 hdf2 (.inl rfl) (by rfl) Tryd.func26 rfl ?_
    refine Run.go ?_; (conv => whnf); repeat' (first | ((with_reducible refine Know.mk fun _ => ?_); conv => whnf) | ((with_reducible refine Need.mk ?_ ?_); exact nd; conv => whnf) | ((with_reducible first | refine Both.mk ?_ ?_ | refine Any.mk fun b hb => ?_ | refine AskB.dec (fun hb => ?_) (fun hb => ?_) | refine AskB.ndec (fun hb => ?_) (fun hb => ?_) | refine AskB.mk (fun hb => ?_) (fun hb => ?_)) <;> conv => whnf) | ((with_reducible first | refine Run.drawX rfl (by decide +kernel) ?_ | refine Run.drawT rfl (by decide +kernel) ?_ | refine Run.drawW rfl (by decide +kernel) ?_); conv => whnf) | fail)
    refine Run.back 900 (ts := [4, 5]) hsz hdf (.inr ⟨_, rfl⟩) (by rfl) Tryd.func14 rfl ?_
    refine Run.holdBoxRow 3 1 90 14 (by rfl) (by rfl) (by rfl) rfl rfl rfl ?_
    refine fin _ _ _ (fun i => rfl) (fun id e5 e90 e14 e901 e900 => ?_) (MOle.refl _) (bytesG_join 5 t s)
    simp only [upd, scrubH, scrubM, bldr, e5, e90, e14, e901, e900, cond_false]
  · refine Run.go ?_; (conv => whnf); repeat' (first | ((with_reducible refine Know.mk fun _ => ?_); conv => whnf) | ((with_reducible refine Need.mk ?_ ?_); exact nd; conv => whnf) | ((with_reducible first | refine Both.mk ?_ ?_ | refine Any.mk fun b hb => ?_ | refine AskB.dec (fun hb => ?_) (fun hb => ?_) | refine AskB.ndec (fun hb => ?_) (fun hb => ?_) | refine AskB.mk (fun hb => ?_) (fun hb => ?_)) <;> conv => whnf) | ((with_reducible first | refine Run.drawX rfl (by decide +kernel) ?_ | refine Run.drawT rfl (by decide +kernel) ?_ | refine Run.drawW rfl (by decide +kernel) ?_); conv => whnf) | fail)
    refine Run.inline 901 Tryd.f26 _ 20 rfl rfl Tryd.func26 rfl (by decide) rfl (by decide) rfl rfl (fun a2 hsz2 hdf2 => ?_)
    refine Run.go ?_; (conv => whnf); repeat' (first | ((with_reducible refine Know.mk fun _ => ?_); conv => whnf) | ((with_reducible refine Need.mk ?_ ?_); exact nd; conv => whnf) | ((with_reducible first | refine Both.mk ?_ ?_ | refine Any.mk fun b hb => ?_ | refine AskB.dec (fun hb => ?_) (fun hb => ?_) | refine AskB.ndec (fun hb => ?_) (fun hb => ?_) | refine AskB.mk (fun hb => ?_) (fun hb => ?_)) <;> conv => whnf) | ((with_reducible first | refine Run.drawX rfl (by decide +kernel) ?_ | refine Run.drawT rfl (by decide +kernel) ?_ | refine Run.drawW rfl (by decide +kernel) ?_); conv => whnf) | fail)
    refine Run.back 901 (ts := []) hsz2 hdf2 (.inl rfl) (by rfl) Tryd.func26 rfl ?_
    refine Run.go ?_; (conv => whnf); repeat' (first | ((with_reducible refine Know.mk fun _ => ?_); conv => whnf) | ((with_reducible refine Need.mk ?_ ?_); exact nd; conv => whnf) | ((with_reducible first | refine Both.mk ?_ ?_ | refine Any.mk fun b hb => ?_ | refine AskB.dec (fun hb => ?_) (fun hb => ?_) | refine AskB.ndec (fun hb => ?_) (fun hb => ?_) | refine AskB.mk (fun hb => ?_) (fun hb => ?_)) <;> conv => whnf) | ((with_reducible first | refine Run.drawX rfl (by decide +kernel) ?_ | refine Run.drawT rfl (by decide +kernel) ?_ | refine Run.drawW rfl (by decide +kernel) ?_); conv => whnf) | fail)
    refine Run.back 900 (ts := [4, 5]) hsz hdf (.inr ⟨_, rfl⟩) (by rfl) Tryd.func14 rfl ?_
    refine Run.holdBoxRow 3 1 90 14 (by rfl) (by rfl) (by rfl) rfl rfl rfl ?_
    refine fin _ _ _ (fun i => rfl) (fun id e5 e90 e14 e901 e900 => ?_) (MOle.refl _) (bytesG_join 5 t s)
    simp only [upd, scrubH, scrubM, bldr, e5, e90, e14, e901, e900, cond_false]

/-- Slots behind a text's writing that stands last in a region with drawn order. -/
theorem stageW_le {ops : Array Oper} {o : Oper} {m d q : Nat} (ho : ops.toList[m]? = some o) (hd : o.dst = some d) (F : Env) (listed : Array Bool) (s : Nat) :
    Le (putE (envW q (envX ops ops.size F listed)) (some d) .u s) (envX ops ops.size (putE (envW q F) (some d) .u) (listed.setIfInBounds m true) s) := by
  have h := mask_step ho (F := F) (F' := putE (envW q F) (some d) .u) (listed := listed) (scrW q) rfl .u (fun s hs => Le.of_eq (upd_other (envW q F) .u (show s ≠ d from fun e => hs (by rw [hd, e]))).symm)
    (fun d' hd' => by rw [hd] at hd'; cases hd'; exact Le.of_eq (upd_same (envW q F) d .u).symm) s
  rw [hd] at h
  exact h
def hexL : List UInt8 := [48, 49, 50, 51, 52, 53, 54, 55, 56, 57, 97, 98, 99, 100, 101, 102]
/-- A byte's form. -/
def fmL (c : UInt8) : List UInt8 := if plainB c = true then [c] else [92, 120, hexL.getD (c.toNat / 16) 0, hexL.getD (c.toNat % 16) 0]
def fmLs (l : List UInt8) : List UInt8 := l.flatMap fmL
theorem fmLs_take (l : List UInt8) (i : Nat) (h : i < l.length) : fmLs (l.take (i + 1)) = fmLs (l.take i) ++ fmL (l.getD i 0) := by
  unfold fmLs
  rw [take_at l i 0 h, List.flatMap_append]; simp
theorem fmLs_len : ∀ l : List UInt8, (fmLs l).length ≤ 4 * l.length
  | [] => Nat.le_refl _
  | c :: l => by
    have ih := fmLs_len l
    have h : (fmL c).length ≤ 4 := by unfold fmL; split <;> simp
    unfold fmLs at ih ⊢
    rw [List.flatMap_cons, List.length_append, List.length_cons]; omega
def slxB : ByteArray := ⟨#[92, 120, 50, 100]⟩
def formB (r : Rd) : ByteArray := if r.none = true then dashB else if r.text = dashB then slxB else bs (fmLs r.text.data.toList)
def hexB : ByteArray := ⟨#[48, 49, 50, 51, 52, 53, 54, 55, 56, 57, 97, 98, 99, 100, 101, 102]⟩
theorem hex_shr : ∀ c : Fin 256, (c.val : Int).fdiv (2 ^ (min (Int.toNat 4) IntKind.u8.bits)) = ((c.val / 16 : Nat) : Int) := by decide +kernel
theorem hex_and : ∀ c : Fin 256, IntKind.u8.wrap ((BitVec.ofInt IntKind.u8.bits (c.val : Int)) &&& (BitVec.ofInt IntKind.u8.bits 15)).toNat = ((c.val % 16 : Nat) : Int) := by decide +kernel
theorem hex_up : ∀ n : Fin 16, IntKind.u8.wrap ((n.val : Int) + 1) = ((n.val + 1 : Nat) : Int) := by decide +kernel
theorem hex_cut : ∀ n : Fin 16, hexB.extract n.val (n.val + 1) = ⟨#[hexL.getD n.val 0]⟩ := by decide +kernel
theorem form_fn (nn : Bool) (l : List UInt8) (ws : List Int) (hs : l.length ≤ 2000000) : Fn Tryd.prog 27 [.agg 3 (tRd.enc ⟨nn, bs l, ws⟩)] (.str (formB ⟨nn, bs l, ws⟩)) := by
  refine Fn.of Tryd.f27 _ Tryd.func27 rfl (by decide) (by show 1 ≤ _; decide) tbOk 54 rfl fun S w0 gl => ?_
  have hfb : formB ⟨nn, bs l, ws⟩ = if nn = true then dashB else if bs l = dashB then slxB else bs (fmLs l) := by
    unfold formB
    rw [show (bs l).data.toList = l by simp [bs]]
  rw [hfb]
  refine Run.go ?_; (conv => whnf); repeat' (first | ((with_reducible refine Know.mk fun _ => ?_); conv => whnf) | ((with_reducible refine Need.mk ?_ ?_); exact nd; conv => whnf) | ((with_reducible first | refine Both.mk ?_ ?_ | refine Any.mk fun b hb => ?_ | refine AskB.dec (fun hb => ?_) (fun hb => ?_) | refine AskB.ndec (fun hb => ?_) (fun hb => ?_) | refine AskB.mk (fun hb => ?_) (fun hb => ?_)) <;> conv => whnf) | ((with_reducible first | refine Run.drawX rfl (by decide +kernel) ?_ | refine Run.drawT rfl (by decide +kernel) ?_ | refine Run.drawW rfl (by decide +kernel) ?_); conv => whnf) | fail)
  · rw [if_pos hb]
    exact Run.leave (ts := [2]) (.inr ⟨_, rfl⟩) rfl Tryd.func27 rfl (Le.refl _)
  · have hnn : nn = false := by assumption
    rw [if_neg (show ¬ nn = true by rw [hnn]; decide), if_pos (show bs l = dashB from hb)]
    exact Run.leave (ts := [2]) (.inr ⟨_, rfl⟩) rfl Tryd.func27 rfl (Le.refl _)
  have hnn : nn = false := by assumption
  rw [if_neg (show ¬ nn = true by rw [hnn]; decide), if_neg (show ¬ bs l = dashB from hb)]
  refine Run.holdBoxNil 3 1 90 5 1 (bytesG .empty) rfl rfl rfl rfl ?_
  refine Run.loop [1, 3, 15] (fun (a : Nat × AV) => [(16, .int .i64 (a.1 : Int))]) (fun a => [(1, .box 42 [.bool nn, .str (bs l), tI.L ws]), (3, .box 50 [a.2, .row 90]), (90, .row 5 1 (bs (fmLs (l.take a.1))).size (bytesG (bs (fmLs (l.take a.1)))))]) (fun a => a.1 ≤ l.length ∧ (a.2 = .nilp ∨ a.2 = .box 3 0)) (fun a => l.length - a.1) (0, .nilp) ⟨Nat.zero_le _, .inl rfl⟩ ⟨Le.refl _, trivial⟩ ⟨MOle.refl _, MOle.refl _, MOle.refl _, trivial⟩ ?_
  intro ⟨i, p⟩ ⟨hi, hp2⟩ IH
  simp only [] at hi hp2 ⊢
  have hwi : IntKind.i64.wrap ((i : Int) + 1) = ((i + 1 : Nat) : Int) := wrap64 (by omega) (by omega)
  have hsz := bs_size l
  have hst : (bs (fmLs (l.take i))).size ≤ 8000000 := by rw [bs_size]; have := fmLs_len (l.take i); rw [List.length_take] at this; omega
  by_cases hil : i < l.length
  · have hc : bt (bs l) (i : Int).toNat = ((l.getD i 0).toNat : Int) := bt_bs l i
    have hc2 : (l.getD i 0).toNat < 256 := (l.getD i 0).toNat_lt
    have hib : Lib.indexByte [59, 93, 92] (bt (bs l) (i : Int).toNat).toNat.toUInt8 = Lib.indexByte [59, 93, 92] (l.getD i 0) := by
      rw [hc, Int.toNat_natCast, Nat.toUInt8, UInt8.ofNat_toNat]
    have hige := Lib.indexByte_ge [59, 93, 92] (l.getD i 0)
    have IH := IH (i + 1, .box 3 0) (by simp only []; omega) ⟨by simp only []; omega, .inr rfl⟩
    simp only [] at IH
    rw [fmLs_take l i hil] at IH
    generalize hX : fmLs (l.take i) = X at hst IH ⊢
    generalize hcc : l.getD i 0 = cc at hc hc2 hib hige IH
    by_cases hpl : plainB cc = true
    · have hpi := hpl
      unfold plainB at hpi
      rw [Bool.and_eq_true, Bool.and_eq_true, decide_eq_true_eq, decide_eq_true_eq, beq_iff_eq] at hpi
      rw [hpi.2] at hib
      rw [show fmL cc = [cc] from if_pos hpl] at IH
      refine Run.go ?_; (conv => whnf); repeat' (first | ((with_reducible refine Know.mk fun _ => ?_); conv => whnf) | ((with_reducible refine Need.mk ?_ ?_); exact nd; conv => whnf) | ((with_reducible refine Both.mk ?_ ?_) <;> conv => whnf) | ((with_reducible refine Any.mk fun b hb => ?_); conv => whnf) | ((with_reducible first | refine AskB.dec (fun hb => ?_) (fun hb => ?_) | refine AskB.ndec (fun hb => ?_) (fun hb => ?_) | refine AskB.mk (fun hb => ?_) (fun hb => ?_)) <;> first | (exfalso; omega) | (conv => whnf)) | ((with_reducible first | refine Run.drawX rfl (by decide +kernel) ?_ | refine Run.drawT rfl (by decide +kernel) ?_ | refine Run.drawW rfl (by decide +kernel) ?_); conv => whnf) | fail)
      all_goals try (exfalso; omega)
      refine Run.callBX (ib47_fn [59, 93, 92] _) rfl rfl ⟨Le.refl _, Le.refl _, trivial⟩ rfl rfl rfl ?_
      rw [hib]
      (conv => whnf); repeat' (first | ((with_reducible refine Know.mk fun _ => ?_); conv => whnf) | ((with_reducible refine Need.mk ?_ ?_); exact nd; conv => whnf) | ((with_reducible refine Both.mk ?_ ?_) <;> conv => whnf) | ((with_reducible refine Any.mk fun b hb => ?_); conv => whnf) | ((with_reducible first | refine AskB.dec (fun hb => ?_) (fun hb => ?_) | refine AskB.ndec (fun hb => ?_) (fun hb => ?_) | refine AskB.mk (fun hb => ?_) (fun hb => ?_)) <;> first | (exfalso; omega) | (conv => whnf)) | ((with_reducible first | refine Run.drawX rfl (by decide +kernel) ?_ | refine Run.drawT rfl (by decide +kernel) ?_ | refine Run.drawW rfl (by decide +kernel) ?_); conv => whnf) | fail)
      all_goals try (exfalso; omega)
      refine Run.bldr 50 5 3 90 p (bs X) (MOle.refl _) (MOle.refl _) ?_
      refine wb3 p _ cc rfl rfl rfl rfl rfl ?_ (by omega) hp2 ?_
      · show AV.int .u8 (bt (bs l) (i : Int).toNat) = _
        rw [hc]
      refine Run.tidy [1, 3, 15, 16] [1, 3, 90] ?_; (conv => whnf)
      refine Run.go ?_; (conv => whnf); repeat' (first | ((with_reducible refine Know.mk fun _ => ?_); conv => whnf) | ((with_reducible refine Need.mk ?_ ?_); exact nd; conv => whnf) | ((with_reducible first | refine Both.mk ?_ ?_ | refine Any.mk fun b hb => ?_ | refine AskB.dec (fun hb => ?_) (fun hb => ?_) | refine AskB.ndec (fun hb => ?_) (fun hb => ?_) | refine AskB.mk (fun hb => ?_) (fun hb => ?_)) <;> conv => whnf) | ((with_reducible first | refine Run.drawX rfl (by decide +kernel) ?_ | refine Run.drawT rfl (by decide +kernel) ?_ | refine Run.drawW rfl (by decide +kernel) ?_); conv => whnf) | fail)
      refine Run.to _ _ ?_ ?_ IH
      · exact ⟨Le.refl _, Le.refl _, Le.refl _, Le.int hwi, trivial⟩
      · refine ⟨MOle.refl _, MOle.refl _, ?_, trivial⟩
        rw [← bs_push]
        exact MOle.refl _
    · have hnp : ¬ (32 < cc.toNat ∧ cc.toNat ≤ 126) ∨ Lib.indexByte [59, 93, 92] cc ≠ -1 := by
        unfold plainB at hpl
        rw [Bool.and_eq_true, Bool.and_eq_true, decide_eq_true_eq, decide_eq_true_eq, beq_iff_eq] at hpl
        by_cases h : Lib.indexByte [59, 93, 92] cc = -1
        · left; exact fun h2 => hpl ⟨h2, h⟩
        · right; exact h
      rw [show fmL cc = [92, 120, hexL.getD (cc.toNat / 16) 0, hexL.getD (cc.toNat % 16) 0] from if_neg hpl] at IH
      refine Run.go ?_; (conv => whnf); repeat' (first | ((with_reducible refine Know.mk fun _ => ?_); conv => whnf) | ((with_reducible refine Need.mk ?_ ?_); exact nd; conv => whnf) | ((with_reducible first | refine Both.mk ?_ ?_ | refine Any.mk fun b hb => ?_ | refine AskB.dec (fun hb => ?_) (fun hb => ?_) | refine AskB.ndec (fun hb => ?_) (fun hb => ?_) | refine AskB.mk (fun hb => ?_) (fun hb => ?_)) <;> conv => whnf) | fail)
      all_goals try (exfalso; omega)
      all_goals try (
        refine Run.callBX (ib47_fn [59, 93, 92] _) rfl rfl ⟨Le.refl _, Le.refl _, trivial⟩ rfl rfl rfl ?_
        rw [hib]
        (conv => whnf); repeat' (first | ((with_reducible refine Know.mk fun _ => ?_); conv => whnf) | ((with_reducible refine Need.mk ?_ ?_); exact nd; conv => whnf) | ((with_reducible first | refine Both.mk ?_ ?_ | refine Any.mk fun b hb => ?_ | refine AskB.dec (fun hb => ?_) (fun hb => ?_) | refine AskB.ndec (fun hb => ?_) (fun hb => ?_) | refine AskB.mk (fun hb => ?_) (fun hb => ?_)) <;> conv => whnf) | fail)
        all_goals try (exfalso; omega))
      all_goals
        have e1 := hex_shr ⟨cc.toNat, hc2⟩
        have e2 := hex_and ⟨cc.toNat, hc2⟩
        have e3 := hex_up ⟨cc.toNat / 16, by omega⟩
        have e4 := hex_up ⟨cc.toNat % 16, by omega⟩
        have e5 := hex_cut ⟨cc.toNat / 16, by omega⟩
        have e6 := hex_cut ⟨cc.toNat % 16, by omega⟩
        simp only [] at e1 e2 e3 e4 e5 e6
        have z1 : (ByteArray.mk #[48, 49, 50, 51, 52, 53, 54, 55, 56, 57, 97, 98, 99, 100, 101, 102]).size = 16 := rfl
        have z2 : (ByteArray.mk #[92, 120]).size = 2 := rfl
        have z3 : ∀ u : UInt8, (ByteArray.mk #[u]).size = 1 := fun _ => rfl
        have z4 : ∀ u : UInt8, (ByteArray.mk #[92, 120, u]).size = 3 := fun _ => rfl
        have ha16 : cc.toNat / 16 < 16 := by omega
        have hb16 : cc.toNat % 16 < 16 := by omega
        generalize hu : hexL.getD (cc.toNat / 16) 0 = u at IH e5
        generalize hv : hexL.getD (cc.toNat % 16) 0 = v at IH e6
        have z5 := z3 u
        have z6 := z3 v
        have z7 := z4 u
        refine Run.to [(1, .box 1 0), (3, .box 3 0), (5, .int .u8 (cc.toNat : Int)), (15, .int .i64 ((bs l).size : Int)), (16, .int .i64 (i : Int))] [(1, .box 42 [.bool nn, .str (bs l), tI.L ws]), (3, .box 50 [p, .row 90]), (90, .row 5 1 (bs X).size (bytesG (bs X)))] ⟨Le.refl _, Le.refl _, Le.int hc, Le.refl _, Le.refl _, trivial⟩ ⟨MOle.refl _, MOle.refl _, MOle.refl _, trivial⟩ ?_
        generalize hn1 : cc.toNat / 16 = a at e1 e3 e5 ha16
        generalize hn2 : cc.toNat % 16 = b at e2 e4 e6 hb16
        generalize hn0 : cc.toNat = n at *
        refine Run.drawS [14] (lst ([(1, .box 1 0), (3, .box 3 0), (5, .int .u8 (n : Int)), (15, .int .i64 ((bs l).size : Int)), (16, .int .i64 (i : Int))] ++ [(37, .int .u8 (n : Int)), (38, .int .u8 (a : Int)), (39, .int .u8 (n : Int)), (40, .int .u8 (a : Int)), (41, .int .u8 ((a + 1 : Nat) : Int)), (42, .str ⟨#[u]⟩), (43, .str ⟨#[92, 120, u]⟩), (44, .int .u8 (n : Int)), (45, .int .u8 (b : Int)), (46, .int .u8 (n : Int)), (47, .int .u8 (b : Int)), (48, .int .u8 ((b + 1 : Nat) : Int)), (49, .str ⟨#[v]⟩), (50, .str ⟨#[92, 120, u, v]⟩)])) rfl (by decide +kernel) (lst_dsts rfl) ?_
        refine ⟨?_, by decide +kernel, by decide, ?_⟩
        · intro i hi ha
          have hc : i < 14 := by revert ha; revert i; decide +kernel
          refine opAt_ok ?_
          clear ha hi
          have hcs : i = 0 ∨ i = 1 ∨ i = 2 ∨ i = 3 ∨ i = 4 ∨ i = 5 ∨ i = 6 ∨ i = 7 ∨ i = 8 ∨ i = 9 ∨ i = 10 ∨ i = 11 ∨ i = 12 ∨ i = 13 := by omega
          rcases hcs with rfl | rfl | rfl | rfl | rfl | rfl | rfl | rfl | rfl | rfl | rfl | rfl | rfl | rfl
          all_goals ((conv => whnf); repeat' (first | ((with_reducible refine Know.mk fun _ => ?_); conv => whnf) | ((with_reducible refine Need.mk ?_ ?_); exact nd; conv => whnf) | ((with_reducible first | refine Both.mk ?_ ?_ | refine Any.mk fun b hb => ?_ | refine AskB.dec (fun hb => ?_) (fun hb => ?_) | refine AskB.ndec (fun hb => ?_) (fun hb => ?_) | refine AskB.mk (fun hb => ?_) (fun hb => ?_)) <;> conv => whnf) | fail))
          all_goals first
            | exact Le.refl _
            | exact Le.int e1
            | exact Le.int e2
            | exact Le.int e3
            | exact Le.int e4
            | exact Le.str e5
            | exact Le.str e6
            | exact Le.str rfl
        · refine ⟨putE (envW 90 (lst ([(1, .box 1 0), (3, .box 3 0), (5, .int .u8 (n : Int)), (15, .int .i64 ((bs l).size : Int)), (16, .int .i64 (i : Int))] ++ [(37, .int .u8 (n : Int)), (38, .int .u8 (a : Int)), (39, .int .u8 (n : Int)), (40, .int .u8 (a : Int)), (41, .int .u8 ((a + 1 : Nat) : Int)), (42, .str ⟨#[u]⟩), (43, .str ⟨#[92, 120, u]⟩), (44, .int .u8 (n : Int)), (45, .int .u8 (b : Int)), (46, .int .u8 (n : Int)), (47, .int .u8 (b : Int)), (48, .int .u8 ((b + 1 : Nat) : Int)), (49, .str ⟨#[v]⟩), (50, .str ⟨#[92, 120, u, v]⟩)]))) (some 51) .u, bldr 50 5 3 90 (heapW 90 (lstH [(1, .box 42 [.bool nn, .str (bs l), tI.L ws]), (3, .box 50 [p, .row 90]), (90, .row 5 1 (bs X).size (bytesG (bs X)))])) (.box 3 0) (bs X ++ ⟨#[92, 120, u, v]⟩), fun listed rest hsz hpre next => ?_, ?_⟩
          · refine Run.bldr 50 5 3 90 p (bs X) (MOle.refl _) (MOle.refl _) ?_
            refine ws3 p (bs X) ⟨#[92, 120, u, v]⟩ rfl rfl rfl rfl ?_ ?_ ?_ hp2 ?_
            · have h3 := mask_look (StatS.of (all := [14]) (by decide +kernel)) rfl (by decide) (F := (lst ([(1, .box 1 0), (3, .box 3 0), (5, .int .u8 (n : Int)), (15, .int .i64 ((bs l).size : Int)), (16, .int .i64 (i : Int))] ++ [(37, .int .u8 (n : Int)), (38, .int .u8 (a : Int)), (39, .int .u8 (n : Int)), (40, .int .u8 (a : Int)), (41, .int .u8 ((a + 1 : Nat) : Int)), (42, .str ⟨#[u]⟩), (43, .str ⟨#[92, 120, u]⟩), (44, .int .u8 (n : Int)), (45, .int .u8 (b : Int)), (46, .int .u8 (n : Int)), (47, .int .u8 (b : Int)), (48, .int .u8 ((b + 1 : Nat) : Int)), (49, .str ⟨#[v]⟩), (50, .str ⟨#[92, 120, u, v]⟩)]))) hsz hpre (s := 3) (by decide)
              show scrub 900 _ = _
              exact (congrArg (scrub 900) h3).trans rfl
            · have h50 := mask_look (StatS.of (all := [14]) (by decide +kernel)) rfl (by decide) (F := (lst ([(1, .box 1 0), (3, .box 3 0), (5, .int .u8 (n : Int)), (15, .int .i64 ((bs l).size : Int)), (16, .int .i64 (i : Int))] ++ [(37, .int .u8 (n : Int)), (38, .int .u8 (a : Int)), (39, .int .u8 (n : Int)), (40, .int .u8 (a : Int)), (41, .int .u8 ((a + 1 : Nat) : Int)), (42, .str ⟨#[u]⟩), (43, .str ⟨#[92, 120, u]⟩), (44, .int .u8 (n : Int)), (45, .int .u8 (b : Int)), (46, .int .u8 (n : Int)), (47, .int .u8 (b : Int)), (48, .int .u8 ((b + 1 : Nat) : Int)), (49, .str ⟨#[v]⟩), (50, .str ⟨#[92, 120, u, v]⟩)]))) hsz hpre (s := 50) (by decide)
              show scrub 900 _ = _
              exact (congrArg (scrub 900) h50).trans rfl
            · have z8 : (ByteArray.mk #[92, 120, u, v]).size = 4 := rfl
              omega
            · refine Run.weaken (fun s => ?_) (fun _ => MOle.refl _) next
              exact stageW_le (m := 14) rfl rfl _ _ s
          · refine ⟨fun i hi ha => ?_, ?_⟩
            · exfalso; revert ha; revert i; decide +kernel
            · refine Run.tidy [1, 3, 15, 16] [1, 3, 90] ?_; (conv => whnf)
              refine Run.go ?_; (conv => whnf); repeat' (first | ((with_reducible refine Know.mk fun _ => ?_); conv => whnf) | ((with_reducible refine Need.mk ?_ ?_); exact nd; conv => whnf) | ((with_reducible first | refine Both.mk ?_ ?_ | refine Any.mk fun b hb => ?_ | refine AskB.dec (fun hb => ?_) (fun hb => ?_) | refine AskB.ndec (fun hb => ?_) (fun hb => ?_) | refine AskB.mk (fun hb => ?_) (fun hb => ?_)) <;> conv => whnf) | ((with_reducible first | refine Run.drawX rfl (by decide +kernel) ?_ | refine Run.drawT rfl (by decide +kernel) ?_ | refine Run.drawW rfl (by decide +kernel) ?_); conv => whnf) | fail)
              refine Run.to _ _ ?_ ?_ IH
              · exact ⟨Le.refl _, Le.refl _, Le.refl _, Le.int hwi, trivial⟩
              · refine ⟨MOle.refl _, MOle.refl _, ?_, trivial⟩
                rw [show bs (X ++ [92, 120, u, v]) = bs X ++ ⟨#[92, 120, u, v]⟩ by apply ByteArray.ext; apply Array.ext'; simp [bs]]
                exact MOle.refl _
  · obtain rfl : i = l.length := by omega
    refine Run.go ?_; (conv => whnf); repeat' (first | ((with_reducible refine Know.mk fun _ => ?_); conv => whnf) | ((with_reducible refine Need.mk ?_ ?_); exact nd; conv => whnf) | ((with_reducible refine Both.mk ?_ ?_) <;> conv => whnf) | ((with_reducible refine Any.mk fun b hb => ?_); conv => whnf) | ((with_reducible first | refine AskB.dec (fun hb => ?_) (fun hb => ?_) | refine AskB.ndec (fun hb => ?_) (fun hb => ?_) | refine AskB.mk (fun hb => ?_) (fun hb => ?_)) <;> first | (exfalso; omega) | (conv => whnf)) | ((with_reducible first | refine Run.drawX rfl (by decide +kernel) ?_ | refine Run.drawT rfl (by decide +kernel) ?_ | refine Run.drawW rfl (by decide +kernel) ?_); conv => whnf) | fail)
    all_goals try (exfalso; omega)
    refine Run.bldr 50 5 3 90 p (bs (fmLs (l.take l.length))) (MOle.refl _) (MOle.refl _) ?_
    refine bs3 p _ rfl rfl rfl rfl rfl ?_
    refine Run.go ?_; (conv => whnf); repeat' (first | ((with_reducible refine Know.mk fun _ => ?_); conv => whnf) | ((with_reducible refine Need.mk ?_ ?_); exact nd; conv => whnf) | ((with_reducible first | refine Both.mk ?_ ?_ | refine Any.mk fun b hb => ?_ | refine AskB.dec (fun hb => ?_) (fun hb => ?_) | refine AskB.ndec (fun hb => ?_) (fun hb => ?_) | refine AskB.mk (fun hb => ?_) (fun hb => ?_)) <;> conv => whnf) | ((with_reducible first | refine Run.drawX rfl (by decide +kernel) ?_ | refine Run.drawT rfl (by decide +kernel) ?_ | refine Run.drawW rfl (by decide +kernel) ?_); conv => whnf) | fail)
    exact Run.leave (ts := [2]) (.inr ⟨_, rfl⟩) rfl Tryd.func27 rfl (Le.str (by rw [List.take_length]))
end Go.Proofs.YteklnpgiloebcaaDoor.V

namespace Go.Proofs.YteklnpgiloebcaaDoor.V
set_option linter.unusedVariables false
set_option linter.unusedSimpArgs false
open Go Go.Proofs Go.RowKit
set_option maxRecDepth 100000
set_option maxHeartbeats 1000000
theorem entry_fn (e : En) (n : Int) (h0 : 1 ≤ n) (h1 : n ≤ 12) : Fn Tryd.prog 21 [.agg 2 (tEn.enc e), .int .i64 n] (.bool (decide (Right n e.rds))) := by
  refine Fn.of Tryd.f21 _ Tryd.func21 rfl (by decide) (by show 2 ≤ _; decide) tbOk 123 rfl fun S w0 gl => ?_
  refine Run.go ?_; (conv => whnf); repeat' (first | ((with_reducible refine Know.mk fun _ => ?_); conv => whnf) | ((with_reducible refine Need.mk ?_ ?_); exact nd; conv => whnf) | ((with_reducible first | refine Both.mk ?_ ?_ | refine Any.mk fun b hb => ?_ | refine AskB.dec (fun hb => ?_) (fun hb => ?_) | refine AskB.ndec (fun hb => ?_) (fun hb => ?_) | refine AskB.mk (fun hb => ?_) (fun hb => ?_)) <;> conv => whnf) | ((with_reducible first | refine Run.drawX rfl (by decide +kernel) ?_ | refine Run.drawT rfl (by decide +kernel) ?_ | refine Run.drawW rfl (by decide +kernel) ?_); conv => whnf) | fail)
  · refine Run.leave (ts := [4]) (.inr ⟨_, rfl⟩) rfl Tryd.func21 rfl (Le.bool (decide_eq_false ?_).symm)
    rintro ⟨_, h2, _⟩; omega
  refine Run.loop [1,2,5] (fun i : Nat => [(6, .int .i64 ((fl (e.rds.take i)).length : Int)), (7, .int .i64 (i : Int))]) (fun i => [(2, .box 45 [.int .i64 e.col, tRd.L e.rds]), (18, .row 4 1 n.toNat (tB.G (seenL n (fl (e.rds.take i)))))])
    (fun i => i ≤ e.rds.length ∧ Part n (e.rds.take i)) (fun i => e.rds.length - i) 0 ⟨Nat.zero_le _, ⟨by simp, by simp [fl], by simp⟩⟩ ⟨Le.refl _, Le.refl _, trivial⟩ ⟨?_, ?_, trivial⟩ ?_
  · exact MOle.refl _
  · refine ⟨rfl, rfl, rfl, fun i j hi hj => ?_⟩
    have : j = 0 := by omega
    subst this
    refine Le.ff.trans (Le.bool ?_)
    simp [seenL, fl, hi]
  intro i ⟨hi, hP⟩ IH
  refine Run.go ?_; (conv => whnf); repeat' (first | ((with_reducible refine Know.mk fun _ => ?_); conv => whnf) | ((with_reducible refine Need.mk ?_ ?_); exact nd; conv => whnf) | ((with_reducible first | refine Both.mk ?_ ?_ | refine Any.mk fun b hb => ?_ | refine AskB.dec (fun hb => ?_) (fun hb => ?_) | refine AskB.ndec (fun hb => ?_) (fun hb => ?_) | refine AskB.mk (fun hb => ?_) (fun hb => ?_)) <;> conv => whnf) | ((with_reducible first | refine Run.drawX rfl (by decide +kernel) ?_ | refine Run.drawT rfl (by decide +kernel) ?_ | refine Run.drawW rfl (by decide +kernel) ?_); conv => whnf) | fail)
  · refine Run.leave (ts := [4]) (.inr ⟨_, rfl⟩) rfl Tryd.func21 rfl (Le.bool (decide_eq_false fun hR => ?_).symm)
    rw [Int.toNat_natCast] at hb
    exact (hR.1.each _ (getD_mem (z := tRd.z) i (by omega))).some (List.length_eq_zero_iff.mp (by omega))
  · refine Run.leave (ts := [4]) (.inr ⟨_, rfl⟩) rfl Tryd.func21 rfl (Le.bool (decide_eq_false fun hR => ?_).symm)
    rw [Int.toNat_natCast] at hb
    have := (hR.1.each _ (getD_mem (z := tRd.z) _ (show i < e.rds.length by omega))).nons
    rw [this] at hb
    simp at hb
  · have hil : i < e.rds.length := by omega
    have hrn0 := hb
    rename_i hwl
    have hmem : e.rds.getD (↑i : Int).toNat tRd.z ∈ e.rds := by rw [Int.toNat_natCast]; exact getD_mem i hil
    have hfl : fl (e.rds.take (i + 1)) = fl (e.rds.take i) ++ (e.rds.getD (↑i : Int).toNat tRd.z).wits := by rw [Int.toNat_natCast]; exact fl_take _ _ _ hil
    have hsub : ∃ rest, fl e.rds = fl (e.rds.take i) ++ (e.rds.getD (↑i : Int).toNat tRd.z).wits ++ rest := by rw [Int.toNat_natCast]; exact fl_sub _ _ _ hil
    have htk : e.rds.take (i + 1) = e.rds.take i ++ [e.rds.getD (↑i : Int).toNat tRd.z] := by rw [Int.toNat_natCast]; exact take_get _ _ _ hil
    generalize hr : e.rds.getD (↑i : Int).toNat tRd.z = r at *
    refine Run.loop [1,2,5,7,8] (fun k : Nat => [(6, .int .i64 (((fl (e.rds.take i)).length + k : Nat) : Int)), (9, .int .i64 (k : Int))])
      (fun k => [(2, .box 45 [.int .i64 e.col, tRd.L e.rds]), (8, .box 42 [.bool r.none, .str r.text, tI.L r.wits]), (18, .row 4 1 n.toNat (tB.G (seenL n (fl (e.rds.take i) ++ r.wits.take k))))])
      (fun k => k ≤ r.wits.length ∧ (r.wits.take k).Pairwise (· < ·) ∧ (∀ w ∈ r.wits.take k, 0 ≤ w ∧ w < n) ∧ (fl (e.rds.take i) ++ r.wits.take k).Nodup) (fun k => r.wits.length - k) 0
      ⟨Nat.zero_le _, by simp, by simp, by simpa using hP.nodup⟩ ⟨Le.refl _, Le.refl _, trivial⟩ ⟨?_, ?_, ?_, trivial⟩ ?_
    · exact MOle.refl _
    · rw [← hr]; exact MOle.refl _
    · simp only [List.take_zero, List.append_nil]; exact MOle.refl _
    intro k ⟨hk, hup, hrng, hnd⟩ IHk
    refine Run.go ?_; (conv => whnf); repeat' (first | ((with_reducible refine Know.mk fun _ => ?_); conv => whnf) | ((with_reducible refine Need.mk ?_ ?_); exact nd; conv => whnf) | ((with_reducible first | refine Both.mk ?_ ?_ | refine Any.mk fun b hb => ?_ | refine AskB.dec (fun hb => ?_) (fun hb => ?_) | refine AskB.ndec (fun hb => ?_) (fun hb => ?_) | refine AskB.mk (fun hb => ?_) (fun hb => ?_)) <;> conv => whnf) | ((with_reducible first | refine Run.drawX rfl (by decide +kernel) ?_ | refine Run.drawT rfl (by decide +kernel) ?_ | refine Run.drawW rfl (by decide +kernel) ?_); conv => whnf) | fail)
    · refine Run.leave (ts := [4]) (.inr ⟨_, rfl⟩) rfl Tryd.func21 rfl (Le.bool (decide_eq_false fun hR => ?_).symm)
      rw [Int.toNat_natCast] at hb
      have := ((hR.1.each _ hmem).rng _ (getD_mem (z := tI.z) k (by omega))).1
      omega
    · refine Run.leave (ts := [4]) (.inr ⟨_, rfl⟩) rfl Tryd.func21 rfl (Le.bool (decide_eq_false fun hR => ?_).symm)
      rw [Int.toNat_natCast] at hb
      have := ((hR.1.each _ hmem).rng _ (getD_mem (z := tI.z) k (by omega))).2
      omega
    · refine Run.leave (ts := [4]) (.inr ⟨_, rfl⟩) rfl Tryd.func21 rfl (Le.bool (decide_eq_false fun hR => ?_).symm)
      rw [Int.toNat_natCast] at hb
      have h9 := ((hR.1.each _ hmem).rng _ (getD_mem (z := tI.z) k (by omega)))
      rw [show tB.z = false from rfl, seen_at h9.1 h9.2, decide_eq_true_eq] at hb
      obtain ⟨rest, hrest⟩ := hsub
      have hn := hR.1.nodup
      rw [hrest, all_get tI.z r.wits k (by omega), ← List.append_assoc, List.append_assoc] at hn
      exact (List.nodup_append.mp hn).2.2 _ hb _ (by simp) rfl
    · refine Run.leave (ts := [4]) (.inr ⟨_, rfl⟩) rfl Tryd.func21 rfl (Le.bool (decide_eq_false fun hR => ?_).symm)
      rw [Int.toNat_natCast, wrap64 (by omega) (by omega), show ((k : Int) - 1).toNat = k - 1 by omega] at hb
      have := pair_at (hR.1.each _ hmem).up (show k - 1 < k by omega) (by omega)
      have hb' : r.wits.getD k 0 ≤ r.wits.getD (k - 1) 0 := hb
      omega
    · rename_i hw0 hwn hsn hk0
      rw [Int.toNat_natCast] at hw0 hwn hsn
      rw [Int.toNat_natCast, wrap64 (by omega) (by omega), show ((k : Int) - 1).toNat = k - 1 by omega] at hb
      have hw0' : 0 ≤ r.wits.getD k 0 := Int.not_lt.mp hw0
      have hwn' : r.wits.getD k 0 < n := Int.not_le.mp hwn
      have hb' : r.wits.getD (k - 1) 0 < r.wits.getD k 0 := Int.not_le.mp hb
      have htk2 := take_get 0 r.wits k (by omega)
      have hlen := nodup_len n.toNat _ hnd (fun w hw => by
        rcases List.mem_append.mp hw with hw | hw
        · obtain ⟨r', hr', hw'⟩ := List.mem_flatMap.mp hw
          have := (hP.each r' hr').rng w hw'; omega
        · have := hrng w hw; omega)
      rw [List.length_append, List.length_take] at hlen
      rw [show tB.z = false from rfl, show tI.z = 0 from rfl, seen_at hw0' hwn', decide_eq_false_iff_not] at hsn
      refine Run.to _ _ ?_ ?_ (IHk (k + 1) (by omega) ⟨by omega, pair_push (R := fun a b => a < b) (fun a b c => Int.lt_trans) (show k < r.wits.length by omega) hup (fun _ => hb'), fun w hw => ?_, ?_⟩)
      · exact ⟨Le.refl _, Le.refl _, Le.refl _, Le.refl _, Le.refl _, Le.wrap64 (by omega) (by omega) (by omega), Le.wrap64 (by omega) (by omega) (by omega), trivial⟩
      · refine ⟨MOle.refl _, MOle.refl _, ?_, trivial⟩
        rw [htk2, ← List.append_assoc]
        exact seen_upd hw0' hwn' _ rfl
      · rw [htk2] at hw
        rcases List.mem_append.mp hw with hw | hw
        · exact hrng w hw
        · have : w = r.wits.getD k 0 := by simpa using hw
          omega
      · rw [htk2, ← List.append_assoc]
        exact List.nodup_append.mpr ⟨hnd, by simp, fun a ha b hb2 e => hsn (by rw [← (show b = r.wits.getD k 0 by simpa using hb2), ← e]; exact ha)⟩
    · rename_i hw0 hwn hsn
      rw [Int.toNat_natCast] at hw0 hwn hsn
      have hw0' : 0 ≤ r.wits.getD k 0 := Int.not_lt.mp hw0
      have hwn' : r.wits.getD k 0 < n := Int.not_le.mp hwn
      have htk2 := take_get 0 r.wits k (by omega)
      have hlen := nodup_len n.toNat _ hnd (fun w hw => by
        rcases List.mem_append.mp hw with hw | hw
        · obtain ⟨r', hr', hw'⟩ := List.mem_flatMap.mp hw
          have := (hP.each r' hr').rng w hw'; omega
        · have := hrng w hw; omega)
      rw [List.length_append, List.length_take] at hlen
      rw [show tB.z = false from rfl, show tI.z = 0 from rfl, seen_at hw0' hwn', decide_eq_false_iff_not] at hsn
      refine Run.to _ _ ?_ ?_ (IHk (k + 1) (by omega) ⟨by omega, pair_push (R := fun a b => a < b) (fun a b c => Int.lt_trans) (show k < r.wits.length by omega) hup (fun h => absurd h (by omega)), fun w hw => ?_, ?_⟩)
      · exact ⟨Le.refl _, Le.refl _, Le.refl _, Le.refl _, Le.refl _, Le.wrap64 (by omega) (by omega) (by omega), Le.wrap64 (by omega) (by omega) (by omega), trivial⟩
      · refine ⟨MOle.refl _, MOle.refl _, ?_, trivial⟩
        rw [htk2, ← List.append_assoc]
        exact seen_upd hw0' hwn' _ rfl
      · rw [htk2] at hw
        rcases List.mem_append.mp hw with hw | hw
        · exact hrng w hw
        · have : w = r.wits.getD k 0 := by simpa using hw
          omega
      · rw [htk2, ← List.append_assoc]
        exact List.nodup_append.mpr ⟨hnd, by simp, fun a ha b hb2 e => hsn (by rw [← (show b = r.wits.getD k 0 by simpa using hb2), ← e]; exact ha)⟩
    · have hkl : k = r.wits.length := by omega
      subst hkl
      rw [List.take_length] at hnd hrng hup ⊢
      refine Run.loop [1,2,5,6,7,8] (fun j : Nat => [(11, .int .i64 (j : Int))])
        (fun j => [(2, .box 45 [.int .i64 e.col, tRd.L e.rds]), (8, .box 42 [.bool r.none, .str r.text, tI.L r.wits]), (18, .row 4 1 n.toNat (tB.G (seenL n (fl (e.rds.take i) ++ r.wits))))])
        (fun j => j ≤ i ∧ ∀ q, q < j → (e.rds.getD q tRd.z).text ≠ r.text ∧ (e.rds.getD q tRd.z).wits.headD 0 < r.wits.headD 0) (fun j => i - j) 0
        ⟨Nat.zero_le _, fun q hq => absurd hq (Nat.not_lt_zero _)⟩ ⟨Le.refl _, trivial⟩ ⟨MOle.refl _, MOle.refl _, MOle.refl _, trivial⟩ ?_
      intro j ⟨hj, hap⟩ IHj
      have hjm : j < i → e.rds.getD j tRd.z ∈ e.rds.take i := fun h => by
        have h2 : (e.rds.take i).getD j tRd.z = e.rds.getD j tRd.z := by simp [List.getD, h]
        rw [← h2]; exact getD_mem j (by simp; omega)
      have hjp : j < i → 0 < (e.rds.getD (↑j : Int).toNat tRd.z).wits.length := fun h => by
        rw [Int.toNat_natCast]
        exact List.length_pos_iff.mpr (hP.each _ (hjm h)).some
      refine Run.go ?_; (conv => whnf); repeat' (first | ((with_reducible refine Know.mk fun _ => ?_); conv => whnf) | ((with_reducible refine Need.mk ?_ ?_); exact nd; conv => whnf) | ((with_reducible first | refine Both.mk ?_ ?_ | refine Any.mk fun b hb => ?_ | refine AskB.dec (fun hb => ?_) (fun hb => ?_) | refine AskB.ndec (fun hb => ?_) (fun hb => ?_) | refine AskB.mk (fun hb => ?_) (fun hb => ?_)) <;> conv => whnf) | ((with_reducible first | refine Run.drawX rfl (by decide +kernel) ?_ | refine Run.drawT rfl (by decide +kernel) ?_ | refine Run.drawW rfl (by decide +kernel) ?_); conv => whnf) | fail)
      · refine Run.leave (ts := [4]) (.inr ⟨_, rfl⟩) rfl Tryd.func21 rfl (Le.bool (decide_eq_false fun hR => ?_).symm)
        have h9 := pair_atG (z := tRd.z) hR.1.apart (show j < i by omega) hil
        rw [← Int.toNat_natCast i, hr] at h9
        rw [Int.toNat_natCast] at hb
        exact h9.1 hb
      · refine Run.leave (ts := [4]) (.inr ⟨_, rfl⟩) rfl Tryd.func21 rfl (Le.bool (decide_eq_false fun hR => ?_).symm)
        have h9 := pair_atG (z := tRd.z) hR.1.apart (show j < i by omega) hil
        rw [← Int.toNat_natCast i, hr, head_get, head_get] at h9
        rw [Int.toNat_natCast] at hb
        exact absurd h9.2 (Int.not_lt.mpr hb)
      · refine Run.to _ _ ?_ ?_ (IHj (j + 1) (by omega) ⟨by omega, fun q hq => ?_⟩)
        · exact ⟨Le.refl _, Le.refl _, Le.refl _, Le.refl _, Le.refl _, Le.refl _, Le.wrap64 (by omega) (by omega) (by omega), trivial⟩
        · exact ⟨MOle.refl _, MOle.refl _, MOle.refl _, trivial⟩
        · by_cases hqj : q = j
          · subst hqj
            rw [Int.toNat_natCast] at *
            refine ⟨by assumption, ?_⟩
            rw [head_get, head_get]
            exact Int.not_le.mp hb
          · exact hap q (by omega)
      · refine Run.leave (ts := [4]) (.inr ⟨_, rfl⟩) rfl Tryd.func21 rfl (Le.bool (decide_eq_false fun hR => ?_).symm)
        have h9 := pair_atG (z := tRd.z) hR.1.apart (show j < i by omega) hil
        rw [← Int.toNat_natCast i, hr, head_get, head_get] at h9
        rw [Int.toNat_natCast] at hb
        exact absurd h9.2 (Int.not_lt.mpr hb)
      · refine Run.to _ _ ?_ ?_ (IHj (j + 1) (by omega) ⟨by omega, fun q hq => ?_⟩)
        · exact ⟨Le.refl _, Le.refl _, Le.refl _, Le.refl _, Le.refl _, Le.refl _, Le.wrap64 (by omega) (by omega) (by omega), trivial⟩
        · exact ⟨MOle.refl _, MOle.refl _, MOle.refl _, trivial⟩
        · by_cases hqj : q = j
          · subst hqj
            rw [Int.toNat_natCast] at *
            refine ⟨fun e => by
              have e1 := (hP.each _ (hjm (by omega))).nons
              rename_i hne
              have e2 : r.none = decide (r.text = ⟨#[]⟩) := by simpa using hrn0
              rw [e1, e, e2] at hne
              simp at hne, ?_⟩
            rw [head_get, head_get]
            exact Int.not_le.mp hb
          · exact hap q (by omega)
      · have hji : j = i := by omega
        subst hji
        have hnew : Part n (e.rds.take (j + 1)) := by
          rw [htk]
          refine ⟨fun r' hr' => ?_, ?_, ?_⟩
          · rcases List.mem_append.mp hr' with h | h
            · exact hP.each r' h
            · have : r' = r := by simpa using h
              subst this
              exact ⟨fun e9 => hwl (by rw [e9]; rfl), by simpa using hrn0, hup, hrng⟩
          · rw [fl_append]; simpa [fl] using hnd
          · refine List.pairwise_append.mpr ⟨hP.apart, by simp, fun p hp q hq => ?_⟩
            have : q = r := by simpa using hq
            subst this
            obtain ⟨m, hm, rfl⟩ := List.getElem_of_mem hp
            have hmj : m < j := by simp at hm; omega
            have := hap m hmj
            simpa [List.getD, show m < e.rds.length by omega] using this
        refine Run.to _ _ ?_ ?_ (IH (j + 1) (by omega) ⟨by omega, hnew⟩)
        · exact ⟨Le.refl _, Le.refl _, Le.refl _, Le.int (by rw [hfl, List.length_append]), Le.wrap64 (by omega) (by omega) (by omega), trivial⟩
        · refine ⟨MOle.refl _, ?_, trivial⟩
          rw [hfl]; exact MOle.refl _
  · refine Run.leave (ts := [4]) (.inr ⟨_, rfl⟩) rfl Tryd.func21 rfl (Le.bool ?_)
    have : i = e.rds.length := by omega
    subst this
    rw [List.take_length] at hP ⊢
    rw [decide_eq_decide]
    exact ⟨fun h => ⟨hP, by omega, h⟩, fun h => h.2.2⟩

end Go.Proofs.YteklnpgiloebcaaDoor.V

namespace Go.Proofs.YteklnpgiloebcaaDoor.V
set_option linter.unusedVariables false
set_option linter.unusedSimpArgs false
open Go Go.Proofs Go.RowKit
set_option maxRecDepth 100000
set_option maxHeartbeats 1000000
theorem right_fn (e : En) (n : Int) (h0 : 1 ≤ n) (h1 : n ≤ 12) : Fn Tryd.prog 20 [.agg 2 (tEn.enc e), .int .i64 n] (.bool (decide (Right n e.rds))) := by
  refine Fn.of Tryd.f20 _ Tryd.func20 rfl (by decide) (by show 2 ≤ _; decide) tbOk 90 rfl fun S w0 gl => ?_
  refine Run.go ?_; (conv => whnf); repeat' (first | ((with_reducible refine Know.mk fun _ => ?_); conv => whnf) | ((with_reducible refine Need.mk ?_ ?_); exact nd; conv => whnf) | ((with_reducible first | refine Both.mk ?_ ?_ | refine Any.mk fun b hb => ?_ | refine AskB.dec (fun hb => ?_) (fun hb => ?_) | refine AskB.ndec (fun hb => ?_) (fun hb => ?_) | refine AskB.mk (fun hb => ?_) (fun hb => ?_)) <;> conv => whnf) | ((with_reducible first | refine Run.drawX rfl (by decide +kernel) ?_ | refine Run.drawT rfl (by decide +kernel) ?_ | refine Run.drawW rfl (by decide +kernel) ?_); conv => whnf) | fail)
  refine Run.loop [1,2,5,6,16,17] (fun i : Nat => [(7, .int .i64 (lastW (e.rds.take i))), (18, .int .i64 (i : Int))])
    (fun i => [(2, .box 45 [.int .i64 e.col, tRd.L e.rds]), (13, .mp (.ib (fl (e.rds.take i)))), (14, .mp (.sb ((e.rds.take i).map (·.text))))])
    (fun i => i ≤ e.rds.length ∧ Part n (e.rds.take i)) (fun i => e.rds.length - i) 0 ⟨Nat.zero_le _, ⟨by simp, by simp [fl], by simp⟩⟩ ⟨Le.refl _, Le.refl _, trivial⟩ ⟨MOle.refl _, rfl, rfl, trivial⟩ ?_
  intro i ⟨hi, hP⟩ IH
  refine Run.go ?_; (conv => whnf); repeat' (first | ((with_reducible refine Know.mk fun _ => ?_); conv => whnf) | ((with_reducible refine Need.mk ?_ ?_); exact nd; conv => whnf) | ((with_reducible first | refine Both.mk ?_ ?_ | refine Any.mk fun b hb => ?_ | refine AskB.dec (fun hb => ?_) (fun hb => ?_) | refine AskB.ndec (fun hb => ?_) (fun hb => ?_) | refine AskB.mk (fun hb => ?_) (fun hb => ?_)) <;> conv => whnf) | ((with_reducible first | refine Run.drawX rfl (by decide +kernel) ?_ | refine Run.drawT rfl (by decide +kernel) ?_ | refine Run.drawW rfl (by decide +kernel) ?_); conv => whnf) | fail)
  · refine Run.leave (ts := [4]) (.inr ⟨_, rfl⟩) rfl Tryd.func20 rfl (Le.bool (decide_eq_false fun hR => ?_).symm)
    rw [Int.toNat_natCast] at hb
    exact (hR.1.each _ (getD_mem (z := tRd.z) i (by omega))).some (List.length_eq_zero_iff.mp (by omega))
  · refine Run.leave (ts := [4]) (.inr ⟨_, rfl⟩) rfl Tryd.func20 rfl (Le.bool (decide_eq_false fun hR => ?_).symm)
    rw [Int.toNat_natCast] at hb
    exact absurd (lastW_lt hR.1 (show i < e.rds.length by omega)) (Int.not_lt.mpr (by rw [head_get]; exact hb))
  · refine Run.leave (ts := [4]) (.inr ⟨_, rfl⟩) rfl Tryd.func20 rfl (Le.bool (decide_eq_false fun hR => ?_).symm)
    rw [Int.toNat_natCast] at hb
    have := (hR.1.each _ (getD_mem (z := tRd.z) _ (show i < e.rds.length by omega))).nons
    rw [this] at hb
    simp at hb
  · refine Run.leave (ts := [4]) (.inr ⟨_, rfl⟩) rfl Tryd.func20 rfl (Le.bool (decide_eq_false fun hR => ?_).symm)
    rw [Int.toNat_natCast, hasK_iff] at hb
    obtain ⟨p, hp, hpt⟩ := List.mem_map.mp hb
    obtain ⟨m, hm, rfl⟩ := List.getElem_of_mem hp
    have hmi : m < i := by simp at hm; omega
    have := (pair_atG (z := tRd.z) hR.1.apart hmi (by omega)).1
    refine this ?_
    rw [← hpt]
    simp [List.getD, show m < e.rds.length by omega]
  · have hil : i < e.rds.length := by omega
    have hmem : e.rds.getD (↑i : Int).toNat tRd.z ∈ e.rds := by rw [Int.toNat_natCast]; exact getD_mem i hil
    have hfl : fl (e.rds.take (i + 1)) = fl (e.rds.take i) ++ (e.rds.getD (↑i : Int).toNat tRd.z).wits := by rw [Int.toNat_natCast]; exact fl_take _ _ _ hil
    have hsub : ∃ rest, fl e.rds = fl (e.rds.take i) ++ (e.rds.getD (↑i : Int).toNat tRd.z).wits ++ rest := by rw [Int.toNat_natCast]; exact fl_sub _ _ _ hil
    have htk : e.rds.take (i + 1) = e.rds.take i ++ [e.rds.getD (↑i : Int).toNat tRd.z] := by rw [Int.toNat_natCast]; exact take_get _ _ _ hil
    rename_i hwl hlast hrn0 hkn
    generalize hr : e.rds.getD (↑i : Int).toNat tRd.z = r at *
    rw [hasK_not] at hb
    have hbt := hb
    have htx : ins r.text ((e.rds.take i).map (·.text)) = (e.rds.take (i + 1)).map (·.text) := by rw [ins_new hb, htk]; simp
    refine Run.loop [1,2,5,6,7,16,17,18,56,57] (fun k : Nat => [(10, .int .i64 (if k = 0 then -1 else r.wits.getD (k - 1) 0)), (58, .int .i64 (k : Int))])
      (fun k => [(2, .box 45 [.int .i64 e.col, tRd.L e.rds]), (13, .mp (.ib (fl (e.rds.take i) ++ r.wits.take k))), (14, .mp (.sb ((e.rds.take (i + 1)).map (·.text))))])
      (fun k => k ≤ r.wits.length ∧ (r.wits.take k).Pairwise (· < ·) ∧ (∀ w ∈ r.wits.take k, 0 ≤ w ∧ w < n) ∧ (fl (e.rds.take i) ++ r.wits.take k).Nodup) (fun k => r.wits.length - k) 0
      ⟨Nat.zero_le _, by simp, by simp, by simpa using hP.nodup⟩ ⟨Le.refl _, Le.refl _, trivial⟩ ⟨?_, ?_, ?_, trivial⟩ ?_
    · exact MOle.refl _
    · simp only [List.take_zero, List.append_nil]; exact MOle.refl _
    · rw [← htx]; exact MOle.refl _
    intro k ⟨hk, hup, hrng, hnd⟩ IHk
    refine Run.go ?_; (conv => whnf); repeat' (first | ((with_reducible refine Know.mk fun _ => ?_); conv => whnf) | ((with_reducible refine Need.mk ?_ ?_); exact nd; conv => whnf) | ((with_reducible first | refine Both.mk ?_ ?_ | refine Any.mk fun b hb => ?_ | refine AskB.dec (fun hb => ?_) (fun hb => ?_) | refine AskB.ndec (fun hb => ?_) (fun hb => ?_) | refine AskB.mk (fun hb => ?_) (fun hb => ?_)) <;> conv => whnf) | ((with_reducible first | refine Run.drawX rfl (by decide +kernel) ?_ | refine Run.drawT rfl (by decide +kernel) ?_ | refine Run.drawW rfl (by decide +kernel) ?_); conv => whnf) | fail)
    · refine Run.leave (ts := [4]) (.inr ⟨_, rfl⟩) rfl Tryd.func20 rfl (Le.bool (decide_eq_false fun hR => ?_).symm)
      rw [Int.toNat_natCast] at hb
      have h9 := (hR.1.each _ hmem).rng _ (getD_mem (z := 0) k (show k < r.wits.length by omega))
      have hb' : r.wits.getD k 0 ≤ if k = 0 then -1 else r.wits.getD (k - 1) 0 := hb
      by_cases hk0 : k = 0
      · rw [if_pos hk0] at hb'; omega
      · rw [if_neg hk0] at hb'
        have := pair_at (hR.1.each _ hmem).up (show k - 1 < k by omega) (by omega)
        omega
    · refine Run.leave (ts := [4]) (.inr ⟨_, rfl⟩) rfl Tryd.func20 rfl (Le.bool (decide_eq_false fun hR => ?_).symm)
      rw [Int.toNat_natCast] at hb
      have := ((hR.1.each _ hmem).rng _ (getD_mem (z := tI.z) k (by omega))).2
      omega
    · refine Run.leave (ts := [4]) (.inr ⟨_, rfl⟩) rfl Tryd.func20 rfl (Le.bool (decide_eq_false fun hR => ?_).symm)
      rw [Int.toNat_natCast, hasK_iff] at hb
      obtain ⟨rest, hrest⟩ := hsub
      have hn := hR.1.nodup
      rw [hrest, all_get tI.z r.wits k (by omega), ← List.append_assoc, List.append_assoc] at hn
      exact (List.nodup_append.mp hn).2.2 _ hb _ (by simp) rfl
    · rename_i hpv hwn
      rw [Int.toNat_natCast, hasK_not] at hb
      have hb : r.wits.getD k 0 ∉ fl (e.rds.take i) ++ r.wits.take k := hb
      rw [Int.toNat_natCast] at hpv hwn
      have hpv' : (if k = 0 then -1 else r.wits.getD (k - 1) 0) < r.wits.getD k 0 := Int.not_le.mp hpv
      have hwn' : r.wits.getD k 0 < n := Int.not_le.mp hwn
      have htk2 := take_get 0 r.wits k (by omega)
      have hw0' : 0 ≤ r.wits.getD k 0 := by
        by_cases hk0 : k = 0
        · rw [if_pos hk0] at hpv'; omega
        · rw [if_neg hk0] at hpv'
          have : r.wits.getD (k - 1) 0 ∈ r.wits.take k := by
            have h2 : (r.wits.take k).getD (k - 1) 0 = r.wits.getD (k - 1) 0 := by simp [List.getD, show k - 1 < k by omega]
            rw [← h2]; exact getD_mem (k - 1) (by simp; omega)
          have := (hrng _ this).1; omega
      refine Run.to _ _ ?_ ?_ (IHk (k + 1) (by omega) ⟨by omega, pair_push (R := fun a b => a < b) (fun a b c => Int.lt_trans) (show k < r.wits.length by omega) hup (fun h => by rw [if_neg (by omega)] at hpv'; exact hpv'), fun w hw => ?_, ?_⟩)
      · refine ⟨Le.refl _, Le.refl _, Le.refl _, Le.refl _, Le.refl _, Le.refl _, Le.refl _, Le.refl _, Le.refl _, Le.refl _, ?_, Le.wrap64 (by omega) (by omega) (by omega), trivial⟩
        show Le (.int .i64 (r.wits.getD k 0)) (.int .i64 (if k + 1 = 0 then -1 else r.wits.getD (k + 1 - 1) 0))
        rw [if_neg (Nat.succ_ne_zero k)]
        exact Le.refl _
      · refine ⟨MOle.refl _, ?_, MOle.refl _, trivial⟩
        show MOle (.mp (.ib (ins (r.wits.getD k 0) (fl (e.rds.take i) ++ r.wits.take k)))) (.mp (.ib (fl (e.rds.take i) ++ r.wits.take (k + 1))))
        rw [htk2, ← List.append_assoc, ins_new hb]
        exact MOle.refl _
      · rw [htk2] at hw
        rcases List.mem_append.mp hw with hw | hw
        · exact hrng w hw
        · have : w = r.wits.getD k 0 := by simpa using hw
          omega
      · rw [htk2, ← List.append_assoc]
        exact List.nodup_append.mpr ⟨hnd, by simp, fun a ha b hb2 e => hb (by rw [← (show b = r.wits.getD k 0 by simpa using hb2), ← e]; exact ha)⟩
    · have hkl : k = r.wits.length := by omega
      subst hkl
      rw [List.take_length] at hnd hrng hup
      have hnew : Part n (e.rds.take (i + 1)) := by
        rw [htk]
        refine ⟨fun r' hr' => ?_, ?_, ?_⟩
        · rcases List.mem_append.mp hr' with h | h
          · exact hP.each r' h
          · have : r' = r := by simpa using h
            subst this
            exact ⟨fun e9 => hwl (by rw [e9]; rfl), by simpa using hrn0, hup, hrng⟩
        · rw [fl_append]; simpa [fl] using hnd
        · refine List.pairwise_append.mpr ⟨hP.apart, by simp, fun p hp q hq => ?_⟩
          have : q = r := by simpa using hq
          subst this
          refine ⟨fun e9 => ?_, ?_⟩
          · exact hbt (List.mem_map.mpr ⟨p, hp, e9⟩)
          · rw [head_get q.wits]
            exact Int.lt_of_le_of_lt (lastW_ge hP hp) (Int.not_le.mp hlast)
      refine Run.to _ _ ?_ ?_ (IH (i + 1) (by omega) ⟨by omega, hnew⟩)
      · refine ⟨Le.refl _, Le.refl _, Le.refl _, Le.refl _, Le.refl _, Le.refl _, Le.int ?_, Le.wrap64 (by omega) (by omega) (by omega), trivial⟩
        rw [htk]; simp only [lastW, List.getLast?_append, List.getLast?_singleton, Option.some_or, Option.map_some, Option.getD_some, head_get]; rfl
      · refine ⟨MOle.refl _, ?_, MOle.refl _, trivial⟩
        rw [hfl, List.take_length]; exact MOle.refl _
  · refine Run.leave (ts := [4]) (.inr ⟨_, rfl⟩) rfl Tryd.func20 rfl (Le.bool ?_)
    have : i = e.rds.length := by omega
    subst this
    rw [List.take_length] at hP ⊢
    rw [decide_eq_decide]
    exact ⟨fun h => ⟨hP, by omega, h⟩, fun h => h.2.2⟩
  · refine Run.leave (ts := [4]) (.inr ⟨_, rfl⟩) rfl Tryd.func20 rfl (Le.bool (decide_eq_false ?_).symm)
    rintro ⟨_, h2, _⟩; omega

end Go.Proofs.YteklnpgiloebcaaDoor.V

namespace Go.Proofs.YteklnpgiloebcaaDoor.V
set_option linter.unusedVariables false
set_option linter.unusedSimpArgs false
open Go Go.Proofs Go.RowKit
set_option maxRecDepth 100000
set_option maxHeartbeats 1000000
theorem appCheck_fn (es : List En) (n c : Int) : Fn Tryd.prog 9 [tEn.L es, .int .i64 n, .int .i64 c] (.int .i64 (chk es n c)) := by
  refine Fn.of Tryd.f9 _ Tryd.func9 rfl (by decide) (by show 3 ≤ _; decide) tbOk 49 rfl fun S w0 gl => ?_
  refine Run.go ?_; (conv => whnf); repeat' (first | ((with_reducible refine Know.mk fun _ => ?_); conv => whnf) | ((with_reducible refine Need.mk ?_ ?_); exact nd; conv => whnf) | ((with_reducible first | refine Both.mk ?_ ?_ | refine Any.mk fun b hb => ?_ | refine AskB.dec (fun hb => ?_) (fun hb => ?_) | refine AskB.ndec (fun hb => ?_) (fun hb => ?_) | refine AskB.mk (fun hb => ?_) (fun hb => ?_)) <;> conv => whnf) | ((with_reducible first | refine Run.drawX rfl (by decide +kernel) ?_ | refine Run.drawT rfl (by decide +kernel) ?_ | refine Run.drawW rfl (by decide +kernel) ?_); conv => whnf) | fail)
  iterate 4 (· exact Run.leave (ts := [6]) (.inr ⟨_, rfl⟩) rfl Tryd.func9 rfl (Le.int (by unfold chk; rw [if_pos (by omega)])))
  refine Run.loop [1,2,24,25] (fun i : Nat => [(7, .int .i64 (if i = 0 then -1 else (es.getD (i - 1) tEn.z).col)), (26, .int .i64 (i : Int))]) (fun i => [])
    (fun i => i ≤ es.length ∧ Good n c (es.take i)) (fun i => es.length - i) 0 ⟨Nat.zero_le _, ⟨by simp, by simp⟩⟩ ⟨Le.refl _, Le.refl _, trivial⟩ trivial ?_
  intro i ⟨hi, hG⟩ IH
  refine Run.go ?_; (conv => whnf); repeat' (first | ((with_reducible refine Know.mk fun _ => ?_); conv => whnf) | ((with_reducible refine Need.mk ?_ ?_); exact nd; conv => whnf) | ((with_reducible first | refine Both.mk ?_ ?_ | refine Any.mk fun b hb => ?_ | refine AskB.dec (fun hb => ?_) (fun hb => ?_) | refine AskB.ndec (fun hb => ?_) (fun hb => ?_) | refine AskB.mk (fun hb => ?_) (fun hb => ?_)) <;> conv => whnf) | ((with_reducible first | refine Run.drawX rfl (by decide +kernel) ?_ | refine Run.drawT rfl (by decide +kernel) ?_ | refine Run.drawW rfl (by decide +kernel) ?_); conv => whnf) | fail)
  · refine Run.leave (ts := [6]) (.inr ⟨_, rfl⟩) rfl Tryd.func9 rfl (Le.int ?_)
    rw [Int.toNat_natCast] at hb
    unfold chk
    rw [if_neg (by omega), if_neg (fun hG' => ?_)]
    exact absurd (good_up hG' (show i < es.length by omega)) (Int.not_lt.mpr hb)
  · refine Run.leave (ts := [6]) (.inr ⟨_, rfl⟩) rfl Tryd.func9 rfl (Le.int ?_)
    rw [Int.toNat_natCast] at hb
    unfold chk
    rw [if_neg (by omega), if_neg (fun hG' => ?_)]
    have := (hG'.each _ (getD_mem (z := tEn.z) i (by omega))).2.1
    omega
  · refine Run.callAX (right_fn (es.getD i tEn.z) n (by omega) (by omega)) rfl rfl ⟨?_, ?_, trivial⟩ rfl rfl rfl ?_
    · refine Le.agg fun j hj => ?_
      match j, hj with
      | 0, _ => exact Le.refl _
      | 1, _ => exact Le.refl _
    · exact Le.refl _
    (conv => whnf); repeat' (first | ((with_reducible refine Know.mk fun _ => ?_); conv => whnf) | ((with_reducible refine Need.mk ?_ ?_); exact nd; conv => whnf) | ((with_reducible first | refine Both.mk ?_ ?_ | refine Any.mk fun b hb => ?_ | refine AskB.dec (fun hb => ?_) (fun hb => ?_) | refine AskB.ndec (fun hb => ?_) (fun hb => ?_) | refine AskB.mk (fun hb => ?_) (fun hb => ?_)) <;> conv => whnf) | ((with_reducible first | refine Run.drawX rfl (by decide +kernel) ?_ | refine Run.drawT rfl (by decide +kernel) ?_ | refine Run.drawW rfl (by decide +kernel) ?_); conv => whnf) | fail)
    · rename_i hlast hcol
      rw [Int.toNat_natCast] at hlast hcol
      refine Run.to _ _ ?_ ?_ (IH (i + 1) (by omega) ⟨by omega, ?_⟩)
      · exact ⟨Le.refl _, Le.refl _, Le.refl _, Le.refl _, Le.int (by rw [Int.toNat_natCast, if_neg (Nat.succ_ne_zero i)]; rfl), Le.wrap64 (by omega) (by omega) (by omega), trivial⟩
      · exact trivial
      · exact good_push hG (by omega) (Int.not_le.mp hlast) (Int.not_le.mp hcol) hb
    · refine Run.leave (ts := [6]) (.inr ⟨_, rfl⟩) rfl Tryd.func9 rfl (Le.int ?_)
      unfold chk
      rw [if_neg (by omega), if_neg (fun hG' => ?_)]
      exact hb (hG'.each _ (getD_mem (z := tEn.z) i (by omega))).2.2
  · refine Run.leave (ts := [6]) (.inr ⟨_, rfl⟩) rfl Tryd.func9 rfl (Le.int ?_)
    have : i = es.length := by omega
    subst this
    rw [List.take_length] at hG
    unfold chk
    rw [if_neg (by omega), if_pos hG]

end Go.Proofs.YteklnpgiloebcaaDoor.V

namespace Go.Proofs.YteklnpgiloebcaaDoor.V
set_option linter.unusedVariables false
set_option linter.unusedSimpArgs false
open Go Go.Proofs Go.RowKit
set_option maxRecDepth 100000
theorem noCells : wordsOf .empty = ((.empty, []), 0) := by
  have ht : toksOf .empty = [] := by
    unfold toksOf
    rw [if_neg (by decide), cells_out (by decide), toks_out (by decide)]
  rw [wordsOf_fit (by decide) (by rw [ht]; decide), ht]; rfl
theorem awRight0 : rightB .empty [] = true := by
  unfold rightB
  rw [show ByteArray.empty ++ catW [] = .empty by decide +kernel, noCells]
  exact decide_eq_true rfl
theorem two {P : Nat → Prop} (h0 : P 0) (h1 : P 1) : ∀ i, i < 2 → P i
  | 0, _ => h0
  | 1, _ => h1
  | i + 2, h => absurd h (by omega)
end Go.Proofs.YteklnpgiloebcaaDoor.V

namespace Go.Proofs.YteklnpgiloebcaaDoor.V
set_option linter.unusedVariables false
set_option linter.unusedSimpArgs false
open Go Go.Proofs Go.RowKit
set_option maxRecDepth 100000
set_option maxHeartbeats 1000000
def awNm : List ByteArray := [⟨#[65]⟩, ⟨#[66]⟩, ⟨#[67]⟩]
def awR0 : Rd := ⟨true, bs [], [0]⟩
def awR1 : Rd := ⟨false, bs [99], [1, 2]⟩
def awEn : En := ⟨1, [awR0, awR1]⟩
/-- "c", "c B", "c B C". -/
def awS : Nat → ByteArray
  | 0 => ⟨#[99]⟩
  | 1 => ⟨#[99, 32, 66]⟩
  | _ => ⟨#[99, 32, 66, 32, 67]⟩
/-- The line: 1 - ] c B C. -/
def awLn : ByteArray := ⟨#[49, 32, 45, 32, 93, 32, 99, 32, 66, 32, 67, 10]⟩
theorem form_aw1 : Fn Tryd.prog 27 [.agg 3 (tRd.enc awR1)] (.str (awS 0)) := form1_fn false [99] [1, 2] (fun _ h => by cases h) (one0 (by decide)) (by decide)
theorem form_aw0 : Fn Tryd.prog 27 [.agg 3 (tRd.enc awR0)] (.str dashB) := form1_fn true [] [0] (fun h => by cases h) (fun i hi => absurd hi (Nat.not_lt_zero _)) (by decide)
theorem rdA_le (r : Rd) {g : Nat → AV} (h0 : Le (g 0) (.bool r.none)) (h1 : Le (g 1) (.str r.text)) (h2 : Le (g 2) (tI.L r.wits)) : Le (.agg 3 g) (.agg 3 (tRd.enc r)) := Le.agg fun j hj => by
  match j, hj with
  | 0, _ => exact h0
  | 1, _ => exact h1
  | 2, _ => exact h2
theorem line_aw : Fn Tryd.prog 15 [.agg 2 (tEn.enc awEn), tS.L awNm] (.str awLn) := by
  refine Fn.of Tryd.f15 _ Tryd.func15 rfl (by decide) (by show 2 ≤ _; decide) tbOk 56 rfl fun S w0 gl => ?_
  have hl : awEn.rds.length = 2 := rfl
  refine Run.go ?_; (conv => whnf); repeat' (first | ((with_reducible refine Know.mk fun _ => ?_); conv => whnf) | ((with_reducible refine Need.mk ?_ ?_); exact nd; conv => whnf) | ((with_reducible first | refine Both.mk ?_ ?_ | refine Any.mk fun b hb => ?_ | refine AskB.dec (fun hb => ?_) (fun hb => ?_) | refine AskB.ndec (fun hb => ?_) (fun hb => ?_) | refine AskB.mk (fun hb => ?_) (fun hb => ?_)) <;> conv => whnf) | ((with_reducible first | refine Run.drawX rfl (by decide +kernel) ?_ | refine Run.drawT rfl (by decide +kernel) ?_ | refine Run.drawW rfl (by decide +kernel) ?_); conv => whnf) | fail)
  refine Run.holdNil 5 1000 9 1 (fun _ _ => .u) rfl ?_
  refine Run.loop [1, 13, 14] (fun (k : Nat) => [(2, .box 2 0), (5, .row 1000), (15, .int .i64 (k : Int))]) (fun k => [(2, .box 45 [.int .i64 1, tRd.L [awR0, awR1]]), (1000, tS.R 9 (if k = 0 then [] else [awS 2]))]) (fun k => k ≤ 1) (fun k => 1 - k) 0 (Nat.zero_le _) ⟨Le.refl _, Le.refl _, Le.refl _, trivial⟩ ⟨MOle.refl _, ⟨rfl, rfl, rfl, fun i j hi => absurd hi (Nat.not_lt_zero _)⟩, trivial⟩ ?_
  intro k hk IH
  have hk01 : k = 0 ∨ k = 1 := by omega
  rcases hk01 with rfl | rfl
  · have IH := IH 1 (by omega) (by omega)
    show Run _ _ (lst (_ ++ [(2, .box 2 0), (5, .row 1000), (15, .int .i64 ((0 : Nat) : Int))])) (lstH [(2, .box 45 [.int .i64 1, tRd.L [awR0, awR1]]), (1000, tS.R 9 [])])
    refine Run.go ?_; (conv => whnf); repeat' (first | ((with_reducible refine Know.mk fun _ => ?_); conv => whnf) | ((with_reducible refine Need.mk ?_ ?_); exact nd; conv => whnf) | ((with_reducible first | refine Both.mk ?_ ?_ | refine Any.mk fun b hb => ?_ | refine AskB.dec (fun hb => ?_) (fun hb => ?_) | refine AskB.ndec (fun hb => ?_) (fun hb => ?_) | refine AskB.mk (fun hb => ?_) (fun hb => ?_)) <;> conv => whnf) | ((with_reducible first | refine Run.drawX rfl (by decide +kernel) ?_ | refine Run.drawT rfl (by decide +kernel) ?_ | refine Run.drawW rfl (by decide +kernel) ?_); conv => whnf) | fail)
    all_goals try (exact absurd (by decide) hb)
    refine Run.callBX form_aw1 rfl rfl ⟨rdA_le awR1 (Le.refl _) (Le.refl _) (Le.refl _), trivial⟩ rfl rfl rfl ?_
    (conv => whnf); repeat' (first | ((with_reducible refine Know.mk fun _ => ?_); conv => whnf) | ((with_reducible refine Need.mk ?_ ?_); exact nd; conv => whnf) | ((with_reducible first | refine Both.mk ?_ ?_ | refine Any.mk fun b hb => ?_ | refine AskB.dec (fun hb => ?_) (fun hb => ?_) | refine AskB.ndec (fun hb => ?_) (fun hb => ?_) | refine AskB.mk (fun hb => ?_) (fun hb => ?_)) <;> conv => whnf) | ((with_reducible first | refine Run.drawX rfl (by decide +kernel) ?_ | refine Run.drawT rfl (by decide +kernel) ?_ | refine Run.drawW rfl (by decide +kernel) ?_); conv => whnf) | fail)
    refine Run.loop [1, 13, 14, 15, 22, 23] (fun (j : Nat) => [(2, .box 2 0), (5, .row 1000), (8, .str (awS j)), (24, .int .i64 (j : Int))]) (fun j => [(2, .box 45 [.int .i64 1, tRd.L [awR0, awR1]]), (1000, tS.R 9 [])]) (fun j => j ≤ 2) (fun j => 2 - j) 0 (Nat.zero_le _) ⟨Le.refl _, Le.refl _, Le.refl _, Le.refl _, trivial⟩ ⟨MOle.refl _, MOle.refl _, trivial⟩ ?_
    intro j hj IHj
    have hj012 : j = 0 ∨ j = 1 ∨ j = 2 := by omega
    rcases hj012 with rfl | rfl | rfl
    · have IHj := IHj 1 (by omega) (by omega)
      refine Run.go ?_; (conv => whnf); repeat' (first | ((with_reducible refine Know.mk fun _ => ?_); conv => whnf) | ((with_reducible refine Need.mk ?_ ?_); exact nd; conv => whnf) | ((with_reducible first | refine Both.mk ?_ ?_ | refine Any.mk fun b hb => ?_ | refine AskB.dec (fun hb => ?_) (fun hb => ?_) | refine AskB.ndec (fun hb => ?_) (fun hb => ?_) | refine AskB.mk (fun hb => ?_) (fun hb => ?_)) <;> conv => whnf) | ((with_reducible first | refine Run.drawX rfl (by decide +kernel) ?_ | refine Run.drawT rfl (by decide +kernel) ?_ | refine Run.drawW rfl (by decide +kernel) ?_); conv => whnf) | fail)
      all_goals try (exact absurd (by decide) hb)
      refine Run.to _ _ ?_ ?_ IHj
      · exact ⟨Le.refl _, Le.refl _, Le.refl _, Le.refl _, Le.refl _, Le.refl _, Le.refl _, Le.refl _, Le.str (by decide +kernel), Le.int (by decide), trivial⟩
      · exact ⟨MOle.refl _, MOle.refl _, trivial⟩
    · have IHj := IHj 2 (by omega) (by omega)
      refine Run.go ?_; (conv => whnf); repeat' (first | ((with_reducible refine Know.mk fun _ => ?_); conv => whnf) | ((with_reducible refine Need.mk ?_ ?_); exact nd; conv => whnf) | ((with_reducible first | refine Both.mk ?_ ?_ | refine Any.mk fun b hb => ?_ | refine AskB.dec (fun hb => ?_) (fun hb => ?_) | refine AskB.ndec (fun hb => ?_) (fun hb => ?_) | refine AskB.mk (fun hb => ?_) (fun hb => ?_)) <;> conv => whnf) | ((with_reducible first | refine Run.drawX rfl (by decide +kernel) ?_ | refine Run.drawT rfl (by decide +kernel) ?_ | refine Run.drawW rfl (by decide +kernel) ?_); conv => whnf) | fail)
      all_goals try (exact absurd (by decide) hb)
      refine Run.to _ _ ?_ ?_ IHj
      · exact ⟨Le.refl _, Le.refl _, Le.refl _, Le.refl _, Le.refl _, Le.refl _, Le.refl _, Le.refl _, Le.str (by decide +kernel), Le.int (by decide), trivial⟩
      · exact ⟨MOle.refl _, MOle.refl _, trivial⟩
    · have hl0 : ([] : List ByteArray).length = 0 := rfl
      refine Run.go ?_; (conv => whnf); repeat' (first | ((with_reducible refine Know.mk fun _ => ?_); conv => whnf) | ((with_reducible refine Need.mk ?_ ?_); exact nd; conv => whnf) | ((with_reducible first | refine Both.mk ?_ ?_ | refine Any.mk fun b hb => ?_ | refine AskB.dec (fun hb => ?_) (fun hb => ?_) | refine AskB.ndec (fun hb => ?_) (fun hb => ?_) | refine AskB.mk (fun hb => ?_) (fun hb => ?_)) <;> conv => whnf) | ((with_reducible first | refine Run.drawX rfl (by decide +kernel) ?_ | refine Run.drawT rfl (by decide +kernel) ?_ | refine Run.drawW rfl (by decide +kernel) ?_); conv => whnf) | fail)
      all_goals try (exact absurd hb (by decide))
      refine Run.hold (z := 39) 5 1000 (by rfl) (by rfl) (by rfl) ?_
      refine Run.to _ _ ?_ ?_ IH
      · exact ⟨Le.refl _, Le.refl _, Le.refl _, Le.refl _, Le.refl _, Le.int (by decide), trivial⟩
      · exact ⟨MOle.refl _, tS.push 9 [] (awS 2) _ (one0 (Le.refl _)), trivial⟩
  · show Run _ _ (lst (_ ++ [(2, .box 2 0), (5, .row 1000), (15, .int .i64 ((1 : Nat) : Int))])) (lstH [(2, .box 45 [.int .i64 1, tRd.L [awR0, awR1]]), (1000, tS.R 9 [awS 2])])
    refine Run.go ?_; (conv => whnf); repeat' (first | ((with_reducible refine Know.mk fun _ => ?_); conv => whnf) | ((with_reducible refine Need.mk ?_ ?_); exact nd; conv => whnf) | ((with_reducible first | refine Both.mk ?_ ?_ | refine Any.mk fun b hb => ?_ | refine AskB.dec (fun hb => ?_) (fun hb => ?_) | refine AskB.ndec (fun hb => ?_) (fun hb => ?_) | refine AskB.mk (fun hb => ?_) (fun hb => ?_)) <;> conv => whnf) | ((with_reducible first | refine Run.drawX rfl (by decide +kernel) ?_ | refine Run.drawT rfl (by decide +kernel) ?_ | refine Run.drawW rfl (by decide +kernel) ?_); conv => whnf) | fail)
    all_goals try (exact absurd hb (by decide))
    refine CallQ.flat itoa1_fn rfl ⟨Le.refl _, trivial⟩ rfl ?_
    (conv => whnf); repeat' (first | ((with_reducible refine Know.mk fun _ => ?_); conv => whnf) | ((with_reducible refine Need.mk ?_ ?_); exact nd; conv => whnf) | ((with_reducible first | refine Both.mk ?_ ?_ | refine Any.mk fun b hb => ?_ | refine AskB.dec (fun hb => ?_) (fun hb => ?_) | refine AskB.ndec (fun hb => ?_) (fun hb => ?_) | refine AskB.mk (fun hb => ?_) (fun hb => ?_)) <;> conv => whnf) | ((with_reducible first | refine Run.drawX rfl (by decide +kernel) ?_ | refine Run.drawT rfl (by decide +kernel) ?_ | refine Run.drawW rfl (by decide +kernel) ?_); conv => whnf) | fail)
    refine CallQ.flat form_aw0 rfl ⟨rdA_le awR0 (Le.refl _) (Le.refl _) (Le.refl _), trivial⟩ rfl ?_
    (conv => whnf); repeat' (first | ((with_reducible refine Know.mk fun _ => ?_); conv => whnf) | ((with_reducible refine Need.mk ?_ ?_); exact nd; conv => whnf) | ((with_reducible first | refine Both.mk ?_ ?_ | refine Any.mk fun b hb => ?_ | refine AskB.dec (fun hb => ?_) (fun hb => ?_) | refine AskB.ndec (fun hb => ?_) (fun hb => ?_) | refine AskB.mk (fun hb => ?_) (fun hb => ?_)) <;> conv => whnf) | ((with_reducible first | refine Run.drawX rfl (by decide +kernel) ?_ | refine Run.drawT rfl (by decide +kernel) ?_ | refine Run.drawW rfl (by decide +kernel) ?_); conv => whnf) | fail)
    refine CallQ.flat (join1_fn (awS 2) _) rfl ⟨Le.refl _, Le.refl _, trivial⟩ rfl ?_
    (conv => whnf); repeat' (first | ((with_reducible refine Know.mk fun _ => ?_); conv => whnf) | ((with_reducible refine Need.mk ?_ ?_); exact nd; conv => whnf) | ((with_reducible first | refine Both.mk ?_ ?_ | refine Any.mk fun b hb => ?_ | refine AskB.dec (fun hb => ?_) (fun hb => ?_) | refine AskB.ndec (fun hb => ?_) (fun hb => ?_) | refine AskB.mk (fun hb => ?_) (fun hb => ?_)) <;> conv => whnf) | ((with_reducible first | refine Run.drawX rfl (by decide +kernel) ?_ | refine Run.drawT rfl (by decide +kernel) ?_ | refine Run.drawW rfl (by decide +kernel) ?_); conv => whnf) | fail)
    exact Run.leave (ts := [4]) (.inr ⟨_, rfl⟩) rfl Tryd.func15 rfl (Le.str (by decide +kernel))
theorem nm_ok {names : List ByteArray} (h1 : 1 ≤ names.length) (h2 : names.length ≤ 12) (h3 : ∀ i, i < names.length → NameOk (names.getD i .empty) ∧ ∀ k, k < i → names.getD k .empty ≠ names.getD i .empty) : nmOk names = true := by
  have hl : (nmTab names).wits.length = names.length := by simp [nmTab]
  have hw : ∀ i, i < names.length → witAt (nmTab names) i = nmWit (names.getD i .empty) := fun i hi => by
    unfold witAt nmTab
    simp [List.getD, hi]
  unfold nmOk
  refine decide_eq_true (chk_ok ⟨by omega, by omega, by simp [nmTab], fun i hi => ?_, fun c hc => absurd hc (by simp [nmTab]), fun i hi => ?_⟩)
  · obtain ⟨a, b⟩ := h3 i (by omega)
    unfold WitOk
    rw [hw i (by omega)]
    refine ⟨a, awRight0, fun k hk => ?_⟩
    rw [hw k (by omega)]
    exact b k hk
  · rw [hw i (by omega)]; rfl
theorem awNm_ok : nmOk awNm = true := nm_ok (by decide) (by decide) (fun i hi => by
  have : i = 0 ∨ i = 1 ∨ i = 2 := by have : awNm.length = 3 := rfl; omega
  rcases this with rfl | rfl | rfl
  · exact ⟨by decide +kernel, fun k hk => absurd hk (Nat.not_lt_zero _)⟩
  · exact ⟨by decide +kernel, one0 (by decide +kernel)⟩
  · exact ⟨by decide +kernel, two (by decide +kernel) (by decide +kernel)⟩)
theorem awEn_good : Good 3 3 [awEn] := by
  refine ⟨fun e he => ?_, by simp⟩
  simp only [List.mem_singleton] at he
  subst he
  refine ⟨by decide, by decide, ⟨fun r hr => ?_, by decide, by simp [awEn, awR0, awR1, bs]⟩, by decide, by decide⟩
  simp only [awEn, List.mem_cons, List.not_mem_nil, or_false] at hr
  rcases hr with rfl | rfl
  · exact ⟨by simp [awR0], by simp [awR0, bs], by simp [awR0], by simp [awR0]⟩
  · exact ⟨by simp [awR1], by simp [awR1, bs], by simp [awR1], by simp [awR1]⟩
theorem awEn_chk : chk [awEn] 3 3 = 0 := by
  unfold chk
  rw [if_neg (by omega), if_pos awEn_good]
end Go.Proofs.YteklnpgiloebcaaDoor.V

namespace Go.Proofs.YteklnpgiloebcaaDoor.V
set_option linter.unusedVariables false
set_option linter.unusedSimpArgs false
open Go Go.Proofs Go.RowKit
set_option maxRecDepth 100000
set_option maxHeartbeats 1000000
/-- A name that is one, unlike all ahead of it. -/
def NmAt (names : List ByteArray) (i : Nat) : Prop := NameOk (names.getD i .empty) ∧ ∀ k, k < i → names.getD k .empty ≠ names.getD i .empty
theorem nm_of {names : List ByteArray} (h : nmOk names = true) : 1 ≤ names.length ∧ names.length ≤ 12 ∧ ∀ i, i < names.length → NmAt names i := by
  have hl : (nmTab names).wits.length = names.length := by simp [nmTab]
  have hw : ∀ i, i < names.length → witAt (nmTab names) i = nmWit (names.getD i .empty) := fun i hi => by
    unfold witAt nmTab
    simp [List.getD, hi]
  unfold nmOk at h
  have h0 := of_decide_eq_true h
  rcases chk_01 (nmTab names) with ⟨hok, _⟩ | ⟨_, he⟩
  · have a := hok.n1
    have b := hok.n12
    refine ⟨by omega, by omega, fun i hi => ?_⟩
    obtain ⟨c, _, d⟩ := hok.wit i (by omega)
    rw [hw i hi] at c
    refine ⟨c, fun k hk => ?_⟩
    have := d k hk
    rw [hw i hi, hw k (by omega)] at this
    exact this
  · rw [he] at h0; exact absurd h0 (by decide)
theorem nm_no {names : List ByteArray} (h : ¬ (1 ≤ names.length ∧ names.length ≤ 12 ∧ ∀ i, i < names.length → NmAt names i)) : nmOk names = false := by
  cases hb : nmOk names with
  | true => exact absurd (nm_of hb) h
  | false => rfl
theorem names17_fn (names : List ByteArray) : Fn Tryd.prog 18 [tS.L names] (.bool (nmOk names)) := by
  refine Fn.of Tryd.f18 _ Tryd.func18 rfl (by decide) (by show 1 ≤ _; decide) tbOk 39 rfl fun S w0 gl => ?_
  refine Run.go ?_; (conv => whnf); repeat' (first | ((with_reducible refine Know.mk fun _ => ?_); conv => whnf) | ((with_reducible refine Need.mk ?_ ?_); exact nd; conv => whnf) | ((with_reducible first | refine Both.mk ?_ ?_ | refine Any.mk fun b hb => ?_ | refine AskB.dec (fun hb => ?_) (fun hb => ?_) | refine AskB.ndec (fun hb => ?_) (fun hb => ?_) | refine AskB.mk (fun hb => ?_) (fun hb => ?_)) <;> conv => whnf) | ((with_reducible first | refine Run.drawX rfl (by decide +kernel) ?_ | refine Run.drawT rfl (by decide +kernel) ?_ | refine Run.drawW rfl (by decide +kernel) ?_); conv => whnf) | fail)
  · exact Run.leave (ts := [2]) (.inr ⟨_, rfl⟩) rfl Tryd.func18 rfl (Le.ff.trans (Le.bool (nm_no (fun h => by omega)).symm))
  · exact Run.leave (ts := [2]) (.inr ⟨_, rfl⟩) rfl Tryd.func18 rfl (Le.ff.trans (Le.bool (nm_no (fun h => by omega)).symm))
  refine Run.loop [0] (fun (i : Nat) => [(3, .int .i64 (i : Int))]) (fun i => []) (fun i => i ≤ names.length ∧ ∀ q, q < i → NmAt names q) (fun i => names.length - i) 0 ⟨Nat.zero_le _, fun q hq => absurd hq (Nat.not_lt_zero _)⟩ ⟨Le.refl _, trivial⟩ trivial ?_
  intro i ⟨hi, hall⟩ IH
  have hwi : IntKind.i64.wrap ((i : Int) + 1) = ((i + 1 : Nat) : Int) := wrap64 (by omega) (by omega)
  by_cases hil : i < names.length
  · refine Run.go ?_; (conv => whnf); repeat' (first | ((with_reducible refine Know.mk fun _ => ?_); conv => whnf) | ((with_reducible refine Need.mk ?_ ?_); exact nd; conv => whnf) | ((with_reducible refine Both.mk ?_ ?_) <;> conv => whnf) | ((with_reducible refine Any.mk fun b hb => ?_); conv => whnf) | ((with_reducible first | refine AskB.dec (fun hb => ?_) (fun hb => ?_) | refine AskB.ndec (fun hb => ?_) (fun hb => ?_) | refine AskB.mk (fun hb => ?_) (fun hb => ?_)) <;> first | (exfalso; omega) | (conv => whnf)) | ((with_reducible first | refine Run.drawX rfl (by decide +kernel) ?_ | refine Run.drawT rfl (by decide +kernel) ?_ | refine Run.drawW rfl (by decide +kernel) ?_); conv => whnf) | fail)
    all_goals try (exfalso; omega)
    refine Run.callBX (name_fn (names.getD i .empty)) rfl rfl ⟨Le.refl _, trivial⟩ rfl rfl rfl ?_
    by_cases hn : NameOk (names.getD i .empty)
    case neg =>
      rw [decide_eq_false hn]
      (conv => whnf); repeat' (first | ((with_reducible refine Know.mk fun _ => ?_); conv => whnf) | ((with_reducible refine Need.mk ?_ ?_); exact nd; conv => whnf) | ((with_reducible first | refine Both.mk ?_ ?_ | refine Any.mk fun b hb => ?_ | refine AskB.dec (fun hb => ?_) (fun hb => ?_) | refine AskB.ndec (fun hb => ?_) (fun hb => ?_) | refine AskB.mk (fun hb => ?_) (fun hb => ?_)) <;> conv => whnf) | ((with_reducible first | refine Run.drawX rfl (by decide +kernel) ?_ | refine Run.drawT rfl (by decide +kernel) ?_ | refine Run.drawW rfl (by decide +kernel) ?_); conv => whnf) | fail)
      all_goals try (exact absurd hb (by decide))
      exact Run.leave (ts := [2]) (.inr ⟨_, rfl⟩) rfl Tryd.func18 rfl (Le.ff.trans (Le.bool (nm_no (fun h => hn (h.2.2 i hil).1)).symm))
    rw [decide_eq_true hn]
    (conv => whnf); repeat' (first | ((with_reducible refine Know.mk fun _ => ?_); conv => whnf) | ((with_reducible refine Need.mk ?_ ?_); exact nd; conv => whnf) | ((with_reducible first | refine Both.mk ?_ ?_ | refine Any.mk fun b hb => ?_ | refine AskB.dec (fun hb => ?_) (fun hb => ?_) | refine AskB.ndec (fun hb => ?_) (fun hb => ?_) | refine AskB.mk (fun hb => ?_) (fun hb => ?_)) <;> conv => whnf) | ((with_reducible first | refine Run.drawX rfl (by decide +kernel) ?_ | refine Run.drawT rfl (by decide +kernel) ?_ | refine Run.drawW rfl (by decide +kernel) ?_); conv => whnf) | fail)
    all_goals try (exact absurd hb (by decide))
    refine Run.loop [0, 3] (fun (k : Nat) => [(4, .int .i64 (k : Int))]) (fun k => []) (fun k => k ≤ i ∧ ∀ q, q < k → names.getD q .empty ≠ names.getD i .empty) (fun k => i - k) 0 ⟨Nat.zero_le _, fun q hq => absurd hq (Nat.not_lt_zero _)⟩ ⟨Le.refl _, trivial⟩ trivial ?_
    intro k ⟨hk, hne⟩ IHk
    have hwk : IntKind.i64.wrap ((k : Int) + 1) = ((k + 1 : Nat) : Int) := wrap64 (by omega) (by omega)
    by_cases hki : k < i
    · refine Run.go ?_; (conv => whnf); repeat' (first | ((with_reducible refine Know.mk fun _ => ?_); conv => whnf) | ((with_reducible refine Need.mk ?_ ?_); exact nd; conv => whnf) | ((with_reducible refine Both.mk ?_ ?_) <;> conv => whnf) | ((with_reducible refine Any.mk fun b hb => ?_); conv => whnf) | ((with_reducible first | refine AskB.dec (fun hb => ?_) (fun hb => ?_) | refine AskB.ndec (fun hb => ?_) (fun hb => ?_) | refine AskB.mk (fun hb => ?_) (fun hb => ?_)) <;> first | (exfalso; omega) | (conv => whnf)) | ((with_reducible first | refine Run.drawX rfl (by decide +kernel) ?_ | refine Run.drawT rfl (by decide +kernel) ?_ | refine Run.drawW rfl (by decide +kernel) ?_); conv => whnf) | fail)
      all_goals try (exfalso; omega)
      · exact Run.leave (ts := [2]) (.inr ⟨_, rfl⟩) rfl Tryd.func18 rfl (Le.ff.trans (Le.bool (nm_no (fun h => (h.2.2 i hil).2 k hki hb)).symm))
      · refine Run.to _ _ ?_ ?_ (IHk (k + 1) (by omega) ⟨by omega, fun q hq => ?_⟩)
        · exact ⟨Le.refl _, Le.refl _, Le.int hwk, trivial⟩
        · exact trivial
        · by_cases e : q = k
          · rw [e]; exact hb
          · exact hne q (by omega)
    · obtain rfl : k = i := by omega
      refine Run.go ?_; (conv => whnf); repeat' (first | ((with_reducible refine Know.mk fun _ => ?_); conv => whnf) | ((with_reducible refine Need.mk ?_ ?_); exact nd; conv => whnf) | ((with_reducible refine Both.mk ?_ ?_) <;> conv => whnf) | ((with_reducible refine Any.mk fun b hb => ?_); conv => whnf) | ((with_reducible first | refine AskB.dec (fun hb => ?_) (fun hb => ?_) | refine AskB.ndec (fun hb => ?_) (fun hb => ?_) | refine AskB.mk (fun hb => ?_) (fun hb => ?_)) <;> first | (exfalso; omega) | (conv => whnf)) | ((with_reducible first | refine Run.drawX rfl (by decide +kernel) ?_ | refine Run.drawT rfl (by decide +kernel) ?_ | refine Run.drawW rfl (by decide +kernel) ?_); conv => whnf) | fail)
      all_goals try (exfalso; omega)
      refine Run.to _ _ ?_ ?_ (IH (k + 1) (by omega) ⟨by omega, fun q hq => ?_⟩)
      · exact ⟨Le.refl _, Le.int hwi, trivial⟩
      · exact trivial
      · by_cases e : q = k
        · rw [e]; exact ⟨hn, hne⟩
        · exact hall q (by omega)
  · obtain rfl : i = names.length := by omega
    refine Run.go ?_; (conv => whnf); repeat' (first | ((with_reducible refine Know.mk fun _ => ?_); conv => whnf) | ((with_reducible refine Need.mk ?_ ?_); exact nd; conv => whnf) | ((with_reducible refine Both.mk ?_ ?_) <;> conv => whnf) | ((with_reducible refine Any.mk fun b hb => ?_); conv => whnf) | ((with_reducible first | refine AskB.dec (fun hb => ?_) (fun hb => ?_) | refine AskB.ndec (fun hb => ?_) (fun hb => ?_) | refine AskB.mk (fun hb => ?_) (fun hb => ?_)) <;> first | (exfalso; omega) | (conv => whnf)) | ((with_reducible first | refine Run.drawX rfl (by decide +kernel) ?_ | refine Run.drawT rfl (by decide +kernel) ?_ | refine Run.drawW rfl (by decide +kernel) ?_); conv => whnf) | fail)
    all_goals try (exfalso; omega)
    exact Run.leave (ts := [2]) (.inr ⟨_, rfl⟩) rfl Tryd.func18 rfl (Le.tt.trans (Le.bool (nm_ok (by omega) (by omega) hall).symm))
end Go.Proofs.YteklnpgiloebcaaDoor.V

namespace Go.Proofs.YteklnpgiloebcaaDoor.V
set_option linter.unusedVariables false
set_option linter.unusedSimpArgs false
open Go Go.Proofs Go.RowKit
set_option maxRecDepth 100000
def blA (b : ByteArray) : List UInt8 := b.data.toList
theorem bs_blA (b : ByteArray) : bs (blA b) = b := by simp [bs, blA]
theorem bsA (a b : List UInt8) : bs a ++ bs b = bs (a ++ b) := by
  apply ByteArray.ext
  simp [bs, ByteArray.data_append]
theorem bsA_size (b : ByteArray) : (blA b).length = b.size := rfl
def nmB (names : List ByteArray) (w : Int) : List UInt8 := 32 :: blA (names.getD w.toNat .empty)
def wsB (names : List ByteArray) (ws : List Int) : List UInt8 := ws.flatMap (nmB names)
def rdB (names : List ByteArray) (r : Rd) : List UInt8 := blA (formB r) ++ wsB names r.wits
def lnB (names : List ByteArray) (e : En) : List UInt8 := Lib.decDigits e.col.toNat ++ ([32] ++ (blA (formB (e.rds.getD 0 rd0)) ++ ([32, 93, 32] ++ (Lib.join ((e.rds.drop 1).map (rdB names)) [59, 32] ++ [10]))))
theorem formB_size (r : Rd) (hs : r.text.size ≤ 2000000) : (formB r).size ≤ 8000004 := by
  unfold formB
  split
  · decide
  split
  · decide
  · rw [bs_size]
    have := fmLs_len (blA r.text)
    have h2 := bsA_size r.text
    show (fmLs (blA r.text)).length ≤ _
    omega
theorem wsB_take (names : List ByteArray) (ws : List Int) (j : Nat) (h : j < ws.length) : wsB names (ws.take (j + 1)) = wsB names (ws.take j) ++ nmB names (ws.getD j 0) := by
  unfold wsB
  rw [take_at ws j 0 h, List.flatMap_append]; simp
theorem nmB_len {names : List ByteArray} (h : ∀ s ∈ names, s.size ≤ 8) (w : Int) : (nmB names w).length ≤ 9 := by
  show (blA _).length + 1 ≤ 9
  rw [bsA_size]
  rcases Nat.lt_or_ge w.toNat names.length with h1 | h1
  · have := h _ (getD_mem (z := .empty) w.toNat h1); omega
  · rw [List.getD, List.getElem?_eq_none h1]; decide
theorem wsB_len {names : List ByteArray} (h : ∀ s ∈ names, s.size ≤ 8) : ∀ ws : List Int, (wsB names ws).length ≤ 9 * ws.length
  | [] => Nat.zero_le _
  | w :: ws => by
    have h1 := nmB_len h w
    have h2 := wsB_len h ws
    show (nmB names w ++ wsB names ws).length ≤ _
    rw [List.length_append, List.length_cons]
    omega
/-- What the walks ask of an entry. -/
structure EnFit (names : List ByteArray) (e : En) : Prop where
  col0 : 0 ≤ e.col
  col1 : e.col ≤ 4096
  some : 1 ≤ e.rds.length
  few : e.rds.length ≤ 12
  nfew : names.length ≤ 12
  name : ∀ s ∈ names, s.size ≤ 8
  text : ∀ r ∈ e.rds, r.text.size ≤ 2000000
  wfew : ∀ r ∈ e.rds, r.wits.length ≤ 12
  wit : ∀ r ∈ e.rds, ∀ w ∈ r.wits, 0 ≤ w ∧ w < names.length
theorem fl_mem_len {r : Rd} : ∀ {rds : List Rd}, r ∈ rds → r.wits.length ≤ (fl rds).length
  | q :: rds, h => by
    show _ ≤ (q.wits ++ fl rds).length
    rw [List.length_append]
    rcases List.mem_cons.mp h with rfl | h
    · omega
    · have := fl_mem_len h; omega
theorem fl_len : ∀ {rds : List Rd}, (∀ r ∈ rds, r.wits ≠ []) → rds.length ≤ (fl rds).length
  | [], _ => Nat.zero_le _
  | q :: rds, h => by
    have h1 := h q List.mem_cons_self
    have h2 := fl_len (rds := rds) (fun r hr => h r (List.mem_cons_of_mem _ hr))
    have h3 : 1 ≤ q.wits.length := by
      cases hq : q.wits with
      | nil => exact absurd hq h1
      | cons a l => simp
    show rds.length + 1 ≤ (q.wits ++ fl rds).length
    rw [List.length_append]
    omega
theorem enFit {names : List ByteArray} {es : List En} {c : Int} (hn : nmOk names = true) (hc : c ≤ 4096) (h : Good names.length c es) (htx : ∀ e ∈ es, ∀ r ∈ e.rds, r.text.size ≤ 2000000) {e : En} (he : e ∈ es) : EnFit names e := by
  obtain ⟨n1, n2, n3⟩ := nm_of hn
  obtain ⟨c0, c1, hR⟩ := h.each e he
  obtain ⟨hP, h2, h3⟩ := hR
  have hf := fl_len (fun r hr => (hP.each r hr).some)
  exact {
    col0 := c0
    col1 := by omega
    some := by omega
    few := by omega
    nfew := n2
    name := fun s hs => by
      obtain ⟨i, hi, rfl⟩ := List.getElem_of_mem hs
      have := (n3 i hi).1.2.1
      rw [List.getD, List.getElem?_eq_getElem hi] at this
      exact this
    text := htx e he
    wfew := fun r hr => by have := fl_mem_len hr; omega
    wit := fun r hr w hw => (hP.each r hr).rng w hw }
/-! ### the document's way: what stands behind the lemma -/
def reB : List (List UInt8) → List UInt8
  | [] => []
  | x :: r => 32 :: Lib.join (x :: r) [59, 32]
theorem join_snoc (sep x : List UInt8) : ∀ ts : List (List UInt8), ts ≠ [] → Lib.join (ts ++ [x]) sep = Lib.join ts sep ++ (sep ++ x)
  | [], h => absurd rfl h
  | a :: r, _ => by
    show Lib.join (a :: (r ++ [x])) sep = _
    rw [Lib.join_cons, Lib.join_cons]
    simp [Lib.joinTail]
theorem reB_snoc (x : List UInt8) (ts : List (List UInt8)) : reB (ts ++ [x]) = reB ts ++ ((if ts = [] then [] else [59]) ++ ([32] ++ x)) := by
  cases ts with
  | nil => show 32 :: Lib.join [x] [59, 32] = _; rw [Lib.join_one]; simp [reB]
  | cons a r =>
    show 32 :: Lib.join ((a :: r) ++ [x]) [59, 32] = (32 :: Lib.join (a :: r) [59, 32]) ++ _
    rw [join_snoc _ _ _ (by simp), if_neg (by simp)]; simp
def hdB (e : En) : List UInt8 := Lib.decDigits e.col.toNat ++ ([32] ++ (blA (formB (e.rds.getD 0 rd0)) ++ [32, 93]))
theorem lnB_re (names : List ByteArray) (e : En) (h : 2 ≤ e.rds.length) : lnB names e = hdB e ++ (reB ((e.rds.drop 1).map (rdB names)) ++ [10]) := by
  unfold lnB hdB
  cases hq : (e.rds.drop 1).map (rdB names) with
  | nil =>
    have := congrArg List.length hq
    rw [List.length_map, List.length_drop] at this
    simp at this
    omega
  | cons a r => simp [reB]
def prT (names : List ByteArray) (es : List En) : List UInt8 := es.flatMap (lnB names)
theorem prT_take (names : List ByteArray) (es : List En) (i : Nat) (h : i < es.length) : prT names (es.take (i + 1)) = prT names (es.take i) ++ lnB names (es.getD i tEn.z) := by
  unfold prT
  rw [take_at es i tEn.z h, List.flatMap_append]; simp
theorem prT_pre (names : List ByteArray) (es : List En) (i : Nat) : (prT names (es.take i)).length ≤ (prT names es).length := by
  have : prT names es = prT names (es.take i) ++ prT names (es.drop i) := by
    unfold prT
    rw [← List.flatMap_append, List.take_append_drop]
  rw [this, List.length_append]; omega
noncomputable def prB (es : List En) (names : List ByteArray) (c : Int) : ByteArray × Int :=
  if nmOk names = true then (if chk es names.length c = 0 then (if 65536 < (prT names es).length then (.empty, 1) else (bs (prT names es), 0)) else (.empty, chk es names.length c)) else (.empty, 120)
noncomputable def prA (es : List En) (names : List ByteArray) (c : Int) : AV := tupL [.str (prB es names c).1, .int .i64 (prB es names c).2]
end Go.Proofs.YteklnpgiloebcaaDoor.V

namespace Go.Proofs.YteklnpgiloebcaaDoor.V
set_option linter.unusedVariables false
set_option linter.unusedSimpArgs false
open Go Go.Proofs Go.RowKit
set_option maxRecDepth 100000
set_option maxHeartbeats 1000000
theorem dig_lo : ∀ n : Fin 16, n.val < 10 → IntKind.u8.wrap (48 + (n.val : Int)) = ((hexL.getD n.val 0).toNat : Int) := by decide +kernel
theorem dig_hi : ∀ n : Fin 16, ¬ n.val < 10 → IntKind.u8.wrap (IntKind.u8.wrap (97 + (n.val : Int)) - 10) = ((hexL.getD n.val 0).toNat : Int) := by decide +kernel
theorem digit17_fn (n : Nat) (h : n < 16) : Fn Tryd.prog 46 [.int .u8 (n : Int)] (.int .u8 ((hexL.getD n 0).toNat : Int)) := by
  refine Fn.of Tryd.f46 _ Tryd.func46 rfl (by decide) (by show 1 ≤ _; decide) tbOk 10 rfl fun S w0 gl => ?_
  have e1 := dig_lo ⟨n, h⟩
  have e2 := dig_hi ⟨n, h⟩
  simp only [] at e1 e2
  refine Run.go ?_; (conv => whnf); repeat' (first | ((with_reducible refine Know.mk fun _ => ?_); conv => whnf) | ((with_reducible refine Need.mk ?_ ?_); exact nd; conv => whnf) | ((with_reducible first | refine Both.mk ?_ ?_ | refine Any.mk fun b hb => ?_ | refine AskB.dec (fun hb => ?_) (fun hb => ?_) | refine AskB.ndec (fun hb => ?_) (fun hb => ?_) | refine AskB.mk (fun hb => ?_) (fun hb => ?_)) <;> conv => whnf) | ((with_reducible first | refine Run.drawX rfl (by decide +kernel) ?_ | refine Run.drawT rfl (by decide +kernel) ?_ | refine Run.drawW rfl (by decide +kernel) ?_); conv => whnf) | fail)
  · exact Run.leave (ts := [2]) (.inr ⟨_, rfl⟩) rfl Tryd.func46 rfl (Le.int (e1 (by omega)))
  · exact Run.leave (ts := [2]) (.inr ⟨_, rfl⟩) rfl Tryd.func46 rfl (Le.int (e2 (by omega)))
theorem plain_all : ∀ n : Fin 256, plainB (UInt8.ofNat n.val) = decide (33 ≤ n.val ∧ n.val ≤ 126 ∧ n.val ≠ 59 ∧ n.val ≠ 93 ∧ n.val ≠ 92) := by decide +kernel
theorem plain_iff (c : UInt8) : plainB c = true ↔ 33 ≤ c.toNat ∧ c.toNat ≤ 126 ∧ c.toNat ≠ 59 ∧ c.toNat ≠ 93 ∧ c.toNat ≠ 92 := by
  have h := plain_all ⟨c.toNat, c.toNat_lt⟩
  simp only [UInt8.ofNat_toNat] at h
  rw [h, decide_eq_true_eq]
theorem div_all : ∀ n : Fin 256, IntKind.u8.wrap ((n.val : Int).tdiv 16) = ((n.val / 16 : Nat) : Int) := by decide +kernel
theorem mod_all : ∀ n : Fin 256, (n.val : Int).tmod 16 = ((n.val % 16 : Nat) : Int) := by decide +kernel
theorem bytesG_four (e : Nat) (t : ByteArray) (a b c d : UInt8) (g : Nat → Nat → AV) (h0 : g 0 0 = .int .u8 (a.toNat : Int)) (h1 : g 1 0 = .int .u8 (b.toNat : Int)) (h2 : g 2 0 = .int .u8 (c.toNat : Int)) (h3 : g 3 0 = .int .u8 (d.toNat : Int)) :
    MOle (.row e 1 (t.size + 4) (joinRow t.size (bytesG t) g)) (.row e 1 (t ++ ⟨#[a, b, c, d]⟩).size (bytesG (t ++ ⟨#[a, b, c, d]⟩))) := by
  refine ⟨rfl, rfl, by rw [ByteArray.size_append]; rfl, fun i j hi hj => ?_⟩
  have hj0 : j = 0 := by omega
  subst hj0
  unfold joinRow bytesG
  rw [bt_app]
  by_cases hc : i < t.size
  · rw [if_pos hc, if_pos hc]; exact Le.refl _
  · rw [if_neg hc, if_neg hc]
    have hi4 : i < t.size + 4 := hi
    have hk : i - t.size = 0 ∨ i - t.size = 1 ∨ i - t.size = 2 ∨ i - t.size = 3 := by omega
    rcases hk with hk | hk | hk | hk <;> rw [hk]
    · rw [h0]; exact Le.refl _
    · rw [h1]; exact Le.refl _
    · rw [h2]; exact Le.refl _
    · rw [h3]; exact Le.refl _
theorem rform_fn (nn : Bool) (l : List UInt8) (ws : List Int) (hs : l.length ≤ 2000000) : Fn Tryd.prog 32 [.agg 3 (tRd.enc ⟨nn, bs l, ws⟩)] (.str (formB ⟨nn, bs l, ws⟩)) := by
  refine Fn.of Tryd.f32 _ Tryd.func32 rfl (by decide) (by show 1 ≤ _; decide) tbOk 55 rfl fun S w0 gl => ?_
  have hfb : formB ⟨nn, bs l, ws⟩ = if nn = true then dashB else if bs l = dashB then slxB else bs (fmLs l) := by
    unfold formB
    rw [show (bs l).data.toList = l by simp [bs]]
  rw [hfb]
  refine Run.go ?_; (conv => whnf); repeat' (first | ((with_reducible refine Know.mk fun _ => ?_); conv => whnf) | ((with_reducible refine Need.mk ?_ ?_); exact nd; conv => whnf) | ((with_reducible first | refine Both.mk ?_ ?_ | refine Any.mk fun b hb => ?_ | refine AskB.dec (fun hb => ?_) (fun hb => ?_) | refine AskB.ndec (fun hb => ?_) (fun hb => ?_) | refine AskB.mk (fun hb => ?_) (fun hb => ?_)) <;> conv => whnf) | ((with_reducible first | refine Run.drawX rfl (by decide +kernel) ?_ | refine Run.drawT rfl (by decide +kernel) ?_ | refine Run.drawW rfl (by decide +kernel) ?_); conv => whnf) | fail)
  · rw [if_pos hb]
    exact Run.leave (ts := [2]) (.inr ⟨_, rfl⟩) rfl Tryd.func32 rfl (Le.refl _)
  · have hnn : nn = false := by assumption
    rw [if_neg (show ¬ nn = true by rw [hnn]; decide), if_pos (show bs l = dashB from hb)]
    exact Run.leave (ts := [2]) (.inr ⟨_, rfl⟩) rfl Tryd.func32 rfl (Le.refl _)
  have hnn : nn = false := by assumption
  rw [if_neg (show ¬ nn = true by rw [hnn]; decide), if_neg (show ¬ bs l = dashB from hb)]
  refine Run.holdNil 3 90 5 1 (bytesG .empty) rfl ?_
  refine Run.loop [] (fun (i : Nat) => [(1, .box 1 0), (3, .row 90), (4, .int .i64 (i : Int))]) (fun i => [(1, .box 42 [.bool nn, .str (bs l), tI.L ws]), (90, .row 5 1 (bs (fmLs (l.take i))).size (bytesG (bs (fmLs (l.take i)))))]) (fun i => i ≤ l.length) (fun i => l.length - i) 0 (Nat.zero_le _) ⟨Le.refl _, Le.refl _, Le.refl _, trivial⟩ ⟨MOle.refl _, MOle.refl _, trivial⟩ ?_
  intro i hi IH
  have hwi : IntKind.i64.wrap ((i : Int) + 1) = ((i + 1 : Nat) : Int) := wrap64 (by omega) (by omega)
  have hsz := bs_size l
  have hst : (bs (fmLs (l.take i))).size ≤ 8000000 := by rw [bs_size]; have := fmLs_len (l.take i); rw [List.length_take] at this; omega
  by_cases hil : i < l.length
  · have hc : bt (bs l) (i : Int).toNat = ((l.getD i 0).toNat : Int) := bt_bs l i
    have hc2 : (l.getD i 0).toNat < 256 := (l.getD i 0).toNat_lt
    have IH := IH (i + 1) (by omega) (by omega)
    rw [fmLs_take l i hil] at IH
    generalize hX : fmLs (l.take i) = X at hst IH ⊢
    generalize hcc : l.getD i 0 = cc at hc hc2 IH
    have hpl := plain_iff cc
    have e1 := div_all ⟨cc.toNat, hc2⟩
    have e2 := mod_all ⟨cc.toNat, hc2⟩
    simp only [] at e1 e2
    rw [← hc] at e1 e2
    show Run _ _ (lst (_ ++ [(1, .box 1 0), (3, .row 90), (4, .int .i64 (i : Int))])) (lstH [(1, .box 42 [.bool nn, .str (bs l), tI.L ws]), (90, .row 5 1 (bs X).size (bytesG (bs X)))])
    by_cases hp : plainB cc = true
    · have hq := hpl.mp hp
      rw [show fmL cc = [cc] from if_pos hp] at IH
      refine Run.go ?_; (conv => whnf); repeat' (first | ((with_reducible refine Know.mk fun _ => ?_); conv => whnf) | ((with_reducible refine Need.mk ?_ ?_); exact nd; conv => whnf) | ((with_reducible refine Both.mk ?_ ?_) <;> conv => whnf) | ((with_reducible refine Any.mk fun b hb => ?_); conv => whnf) | ((with_reducible first | refine AskB.dec (fun hb => ?_) (fun hb => ?_) | refine AskB.ndec (fun hb => ?_) (fun hb => ?_) | refine AskB.mk (fun hb => ?_) (fun hb => ?_)) <;> first | (exfalso; omega) | (conv => whnf)) | ((with_reducible first | refine Run.drawX rfl (by decide +kernel) ?_ | refine Run.drawT rfl (by decide +kernel) ?_ | refine Run.drawW rfl (by decide +kernel) ?_); conv => whnf) | fail)
      all_goals try (exfalso; omega)
      refine Run.hold (z := 52) 3 90 (by rfl) (by rfl) (by rfl) ?_
      refine Run.to _ _ ?_ ?_ IH
      · exact ⟨Le.refl _, Le.refl _, Le.int hwi, trivial⟩
      · refine ⟨MOle.refl _, ?_, trivial⟩
        rw [← bs_push]
        refine bytesG_push 5 _ cc _ ?_
        show AV.int .u8 (bt (bs l) (i : Int).toNat) = _
        rw [hc]
    · have hq := mt hpl.mpr hp
      rw [show fmL cc = [92, 120, hexL.getD (cc.toNat / 16) 0, hexL.getD (cc.toNat % 16) 0] from if_neg hp] at IH
      refine Run.go ?_; (conv => whnf); repeat' (first | ((with_reducible refine Know.mk fun _ => ?_); conv => whnf) | ((with_reducible refine Need.mk ?_ ?_); exact nd; conv => whnf) | ((with_reducible refine Both.mk ?_ ?_) <;> conv => whnf) | ((with_reducible refine Any.mk fun b hb => ?_); conv => whnf) | ((with_reducible first | refine AskB.dec (fun hb => ?_) (fun hb => ?_) | refine AskB.ndec (fun hb => ?_) (fun hb => ?_) | refine AskB.mk (fun hb => ?_) (fun hb => ?_)) <;> first | (exfalso; omega) | (conv => whnf)) | ((with_reducible first | refine Run.drawX rfl (by decide +kernel) ?_ | refine Run.drawT rfl (by decide +kernel) ?_ | refine Run.drawW rfl (by decide +kernel) ?_); conv => whnf) | fail)
      all_goals try (exfalso; omega)
      all_goals
        refine Run.callBX (digit17_fn (cc.toNat / 16) (by omega)) rfl rfl ⟨Le.int e1, trivial⟩ rfl rfl rfl ?_
        (conv => whnf); repeat' (first | ((with_reducible refine Know.mk fun _ => ?_); conv => whnf) | ((with_reducible refine Need.mk ?_ ?_); exact nd; conv => whnf) | ((with_reducible first | refine Both.mk ?_ ?_ | refine Any.mk fun b hb => ?_ | refine AskB.dec (fun hb => ?_) (fun hb => ?_) | refine AskB.ndec (fun hb => ?_) (fun hb => ?_) | refine AskB.mk (fun hb => ?_) (fun hb => ?_)) <;> conv => whnf) | ((with_reducible first | refine Run.drawX rfl (by decide +kernel) ?_ | refine Run.drawT rfl (by decide +kernel) ?_ | refine Run.drawW rfl (by decide +kernel) ?_); conv => whnf) | fail)
        refine Run.callBX (digit17_fn (cc.toNat % 16) (by omega)) rfl rfl ⟨Le.int e2, trivial⟩ rfl rfl rfl ?_
        (conv => whnf); repeat' (first | ((with_reducible refine Know.mk fun _ => ?_); conv => whnf) | ((with_reducible refine Need.mk ?_ ?_); exact nd; conv => whnf) | ((with_reducible first | refine Both.mk ?_ ?_ | refine Any.mk fun b hb => ?_ | refine AskB.dec (fun hb => ?_) (fun hb => ?_) | refine AskB.ndec (fun hb => ?_) (fun hb => ?_) | refine AskB.mk (fun hb => ?_) (fun hb => ?_)) <;> conv => whnf) | ((with_reducible first | refine Run.drawX rfl (by decide +kernel) ?_ | refine Run.drawT rfl (by decide +kernel) ?_ | refine Run.drawW rfl (by decide +kernel) ?_); conv => whnf) | fail)
        refine Run.hold (z := 48) 3 90 (by rfl) (by rfl) (by rfl) ?_
        refine Run.to _ _ ?_ ?_ IH
        · exact ⟨Le.refl _, Le.refl _, Le.int hwi, trivial⟩
        · refine ⟨MOle.refl _, ?_, trivial⟩
          rw [show bs (X ++ [92, 120, hexL.getD (cc.toNat / 16) 0, hexL.getD (cc.toNat % 16) 0]) = bs X ++ ⟨#[92, 120, hexL.getD (cc.toNat / 16) 0, hexL.getD (cc.toNat % 16) 0]⟩ by apply ByteArray.ext; apply Array.ext'; simp [bs]]
          exact bytesG_four 5 _ 92 120 _ _ _ rfl rfl rfl rfl
  · obtain rfl : i = l.length := by omega
    refine Run.go ?_; (conv => whnf); repeat' (first | ((with_reducible refine Know.mk fun _ => ?_); conv => whnf) | ((with_reducible refine Need.mk ?_ ?_); exact nd; conv => whnf) | ((with_reducible refine Both.mk ?_ ?_) <;> conv => whnf) | ((with_reducible refine Any.mk fun b hb => ?_); conv => whnf) | ((with_reducible first | refine AskB.dec (fun hb => ?_) (fun hb => ?_) | refine AskB.ndec (fun hb => ?_) (fun hb => ?_) | refine AskB.mk (fun hb => ?_) (fun hb => ?_)) <;> first | (exfalso; omega) | (conv => whnf)) | ((with_reducible first | refine Run.drawX rfl (by decide +kernel) ?_ | refine Run.drawT rfl (by decide +kernel) ?_ | refine Run.drawW rfl (by decide +kernel) ?_); conv => whnf) | fail)
    all_goals try (exfalso; omega)
    refine Run.rowStr (x := .tmp 53) (src := 48) (dst := 9) (e := 5) (q := 90) (bs (fmLs (l.take l.length))) rfl rfl rfl rfl rfl rfl rfl (fun _ _ => rfl) (by kernel_rfl) (by kernel_rfl) (by kernel_rfl) ?_
    refine Run.go ?_; (conv => whnf); repeat' (first | ((with_reducible refine Know.mk fun _ => ?_); conv => whnf) | ((with_reducible refine Need.mk ?_ ?_); exact nd; conv => whnf) | ((with_reducible first | refine Both.mk ?_ ?_ | refine Any.mk fun b hb => ?_ | refine AskB.dec (fun hb => ?_) (fun hb => ?_) | refine AskB.ndec (fun hb => ?_) (fun hb => ?_) | refine AskB.mk (fun hb => ?_) (fun hb => ?_)) <;> conv => whnf) | ((with_reducible first | refine Run.drawX rfl (by decide +kernel) ?_ | refine Run.drawT rfl (by decide +kernel) ?_ | refine Run.drawW rfl (by decide +kernel) ?_); conv => whnf) | fail)
    exact Run.leave (ts := [2]) (.inr ⟨_, rfl⟩) rfl Tryd.func32 rfl (Le.str (by rw [List.take_length]))
end Go.Proofs.YteklnpgiloebcaaDoor.V

namespace Go.Proofs.YteklnpgiloebcaaDoor.V
set_option linter.unusedVariables false
set_option linter.unusedSimpArgs false
open Go Go.Proofs Go.RowKit
set_option maxRecDepth 100000
set_option maxHeartbeats 1000000
theorem appCheckR_fn (es : List En) (n c : Int) : Fn Tryd.prog 10 [tEn.L es, .int .i64 n, .int .i64 c] (.int .i64 (chk es n c)) := by
  refine Fn.of Tryd.f10 _ Tryd.func10 rfl (by decide) (by show 3 ≤ _; decide) tbOk 70 rfl fun S w0 gl => ?_
  refine Run.go ?_; (conv => whnf); repeat' (first | ((with_reducible refine Know.mk fun _ => ?_); conv => whnf) | ((with_reducible refine Need.mk ?_ ?_); exact nd; conv => whnf) | ((with_reducible first | refine Both.mk ?_ ?_ | refine Any.mk fun b hb => ?_ | refine AskB.dec (fun hb => ?_) (fun hb => ?_) | refine AskB.ndec (fun hb => ?_) (fun hb => ?_) | refine AskB.mk (fun hb => ?_) (fun hb => ?_)) <;> conv => whnf) | ((with_reducible first | refine Run.drawX rfl (by decide +kernel) ?_ | refine Run.drawT rfl (by decide +kernel) ?_ | refine Run.drawW rfl (by decide +kernel) ?_); conv => whnf) | fail)
  iterate 4 (· exact Run.leave (ts := [6]) (.inr ⟨_, rfl⟩) rfl Tryd.func10 rfl (Le.int (by unfold chk; rw [if_pos (by omega)])))
  refine Run.loop [0,1,2] (fun i : Nat => [(7, .int .i64 (i : Int))]) (fun i => [])
    (fun i => i ≤ es.length ∧ Good n c (es.take i)) (fun i => es.length - i) 0 ⟨Nat.zero_le _, ⟨by simp, by simp⟩⟩ ⟨Le.refl _, trivial⟩ trivial ?_
  intro i ⟨hi, hG⟩ IH
  refine Run.go ?_; (conv => whnf); repeat' (first | ((with_reducible refine Know.mk fun _ => ?_); conv => whnf) | ((with_reducible refine Need.mk ?_ ?_); exact nd; conv => whnf) | ((with_reducible first | refine Both.mk ?_ ?_ | refine Any.mk fun b hb => ?_ | refine AskB.dec (fun hb => ?_) (fun hb => ?_) | refine AskB.ndec (fun hb => ?_) (fun hb => ?_) | refine AskB.mk (fun hb => ?_) (fun hb => ?_)) <;> conv => whnf) | ((with_reducible first | refine Run.drawX rfl (by decide +kernel) ?_ | refine Run.drawT rfl (by decide +kernel) ?_ | refine Run.drawW rfl (by decide +kernel) ?_); conv => whnf) | fail)
  · refine Run.leave (ts := [6]) (.inr ⟨_, rfl⟩) rfl Tryd.func10 rfl (Le.int ?_)
    rw [Int.toNat_natCast] at hb
    unfold chk
    rw [if_neg (by omega), if_neg (fun hG' => ?_)]
    have := (hG'.each _ (getD_mem (z := tEn.z) i (by omega))).1
    omega
  · refine Run.leave (ts := [6]) (.inr ⟨_, rfl⟩) rfl Tryd.func10 rfl (Le.int ?_)
    rw [Int.toNat_natCast] at hb
    unfold chk
    rw [if_neg (by omega), if_neg (fun hG' => ?_)]
    have := (hG'.each _ (getD_mem (z := tEn.z) i (by omega))).2.1
    omega
  · refine Run.leave (ts := [6]) (.inr ⟨_, rfl⟩) rfl Tryd.func10 rfl (Le.int ?_)
    rw [Int.toNat_natCast, wrap64 (by omega) (by omega), show ((i : Int) - 1).toNat = i - 1 by omega] at hb
    unfold chk
    rw [if_neg (by omega), if_neg (fun hG' => ?_)]
    exact absurd (goodE_at hG' (show i - 1 < i by omega) (by omega)) (Int.not_lt.mpr hb)
  · refine CallQ.flat (entry_fn (es.getD i tEn.z) n (by omega) (by omega)) rfl ⟨?_, ?_, trivial⟩ rfl ?_
    · refine Le.agg fun j hj => ?_
      match j, hj with
      | 0, _ => exact Le.refl _
      | 1, _ => exact Le.refl _
    · exact Le.refl _
    (conv => whnf); repeat' (first | ((with_reducible refine Know.mk fun _ => ?_); conv => whnf) | ((with_reducible refine Need.mk ?_ ?_); exact nd; conv => whnf) | ((with_reducible first | refine Both.mk ?_ ?_ | refine Any.mk fun b hb => ?_ | refine AskB.dec (fun hb => ?_) (fun hb => ?_) | refine AskB.ndec (fun hb => ?_) (fun hb => ?_) | refine AskB.mk (fun hb => ?_) (fun hb => ?_)) <;> conv => whnf) | ((with_reducible first | refine Run.drawX rfl (by decide +kernel) ?_ | refine Run.drawT rfl (by decide +kernel) ?_ | refine Run.drawW rfl (by decide +kernel) ?_); conv => whnf) | fail)
    · rename_i hneg hc hi0 hlast
      rw [Int.toNat_natCast] at hc
      rw [Int.toNat_natCast, wrap64 (by omega) (by omega), show ((i : Int) - 1).toNat = i - 1 by omega] at hlast
      refine Run.to _ _ ?_ ?_ (IH (i + 1) (by omega) ⟨by omega, ?_⟩)
      · exact ⟨Le.refl _, Le.refl _, Le.refl _, Le.wrap64 (by omega) (by omega) (by omega), trivial⟩
      · exact trivial
      · exact good_push hG (by omega) (by rw [if_neg (by omega)]; exact Int.not_le.mp hlast) (Int.not_le.mp hc) hb
    · refine Run.leave (ts := [6]) (.inr ⟨_, rfl⟩) rfl Tryd.func10 rfl (Le.int ?_)
      unfold chk
      rw [if_neg (by omega), if_neg (fun hG' => ?_)]
      exact hb (hG'.each _ (getD_mem (z := tEn.z) i (by omega))).2.2
  · refine CallQ.flat (entry_fn (es.getD i tEn.z) n (by omega) (by omega)) rfl ⟨?_, ?_, trivial⟩ rfl ?_
    · refine Le.agg fun j hj => ?_
      match j, hj with
      | 0, _ => exact Le.refl _
      | 1, _ => exact Le.refl _
    · exact Le.refl _
    (conv => whnf); repeat' (first | ((with_reducible refine Know.mk fun _ => ?_); conv => whnf) | ((with_reducible refine Need.mk ?_ ?_); exact nd; conv => whnf) | ((with_reducible first | refine Both.mk ?_ ?_ | refine Any.mk fun b hb => ?_ | refine AskB.dec (fun hb => ?_) (fun hb => ?_) | refine AskB.ndec (fun hb => ?_) (fun hb => ?_) | refine AskB.mk (fun hb => ?_) (fun hb => ?_)) <;> conv => whnf) | ((with_reducible first | refine Run.drawX rfl (by decide +kernel) ?_ | refine Run.drawT rfl (by decide +kernel) ?_ | refine Run.drawW rfl (by decide +kernel) ?_); conv => whnf) | fail)
    · rename_i hneg hc hi0
      rw [Int.toNat_natCast] at hc hneg
      refine Run.to _ _ ?_ ?_ (IH (i + 1) (by omega) ⟨by omega, ?_⟩)
      · exact ⟨Le.refl _, Le.refl _, Le.refl _, Le.wrap64 (by omega) (by omega) (by omega), trivial⟩
      · exact trivial
      · exact good_push hG (by omega) (by rw [if_pos (by omega)]; have := Int.not_lt.mp hneg; omega) (Int.not_le.mp hc) hb
    · refine Run.leave (ts := [6]) (.inr ⟨_, rfl⟩) rfl Tryd.func10 rfl (Le.int ?_)
      unfold chk
      rw [if_neg (by omega), if_neg (fun hG' => ?_)]
      exact hb (hG'.each _ (getD_mem (z := tEn.z) i (by omega))).2.2
  · refine Run.leave (ts := [6]) (.inr ⟨_, rfl⟩) rfl Tryd.func10 rfl (Le.int ?_)
    have : i = es.length := by omega
    subst this
    rw [List.take_length] at hG
    unfold chk
    rw [if_neg (by omega), if_pos hG]

end Go.Proofs.YteklnpgiloebcaaDoor.V

namespace Go.Proofs.YteklnpgiloebcaaDoor.V
set_option linter.unusedVariables false
set_option linter.unusedSimpArgs false
open Go Go.Proofs Go.RowKit Go.Shelf
def laysM171_ren : Go.Shelf.Ren := ⟨fun | 171 => 28 | 243 => 44 | 246 => 57 | 283 => 73 | 284 => 74 | 285 => 75 | 286 => 76 | 129 => 88 | 317 => 87 | 318 => 89 | 319 => 90 | 320 => 91 | 337 => 96 | 338 => 97 | n => n, fun | 3 => 3 | 9 => 9 | 2 => 2 | 4 => 4 | 171 => 120 | 0 => 0 | 53 => 95 | 37 => 48 | 5 => 5 | 173 => 123 | 212 => 138 | 51 => 126 | 20 => 20 | 213 => 139 | 46 => 89 | 232 => 156 | 233 => 157 | n => n, fun | 17 => 3 | 18 => 6 | 19 => 7 | n => n⟩
theorem laysM171 : Go.Proofs.LaysM.n171 Tryd.prog laysM171_ren := {
  mixed := by kernel_rfl
  f129 := Tryd.func88.trans (congrArg some (by kernel_rfl))
  f171 := Tryd.func28.trans (congrArg some (by kernel_rfl))
  f243 := Tryd.func44.trans (congrArg some (by kernel_rfl))
  f246 := Tryd.func57.trans (congrArg some (by kernel_rfl))
  f283 := Tryd.func73.trans (congrArg some (by kernel_rfl))
  f284 := Tryd.func74.trans (congrArg some (by kernel_rfl))
  f285 := Tryd.func75.trans (congrArg some (by kernel_rfl))
  f286 := Tryd.func76.trans (congrArg some (by kernel_rfl))
  f317 := Tryd.func87.trans (congrArg some (by kernel_rfl))
  f318 := Tryd.func89.trans (congrArg some (by kernel_rfl))
  f319 := Tryd.func90.trans (congrArg some (by kernel_rfl))
  f320 := Tryd.func91.trans (congrArg some (by kernel_rfl))
  f337 := Tryd.func96.trans (congrArg some (by kernel_rfl))
  f338 := Tryd.func97.trans (congrArg some (by kernel_rfl))
  t0 := Tryd.underlying0
  a0 := Tryd.isAgg0
  z0 := Tryd.sizeOf0
  v0 := Tryd.zeroValue0
  t2 := Tryd.underlying2
  a2 := Tryd.isAgg2
  z2 := Tryd.sizeOf2
  v2 := Tryd.zeroValue2
  t3 := Tryd.underlying3
  a3 := Tryd.isAgg3
  z3 := Tryd.sizeOf3
  v3 := Tryd.zeroValue3
  t4 := Tryd.underlying4
  a4 := Tryd.isAgg4
  z4 := Tryd.sizeOf4
  v4 := Tryd.zeroValue4
  t5 := Tryd.underlying5
  a5 := Tryd.isAgg5
  z5 := Tryd.sizeOf5
  v5 := Tryd.zeroValue5
  t9 := Tryd.underlying9
  a9 := Tryd.isAgg9
  z9 := Tryd.sizeOf9
  v9 := Tryd.zeroValue9
  t20 := Tryd.underlying20
  a20 := Tryd.isAgg20
  z20 := Tryd.sizeOf20
  v20 := Tryd.zeroValue20
  t37 := Tryd.underlying48
  a37 := Tryd.isAgg48
  z37 := Tryd.sizeOf48
  v37 := Tryd.zeroValue48
  t46 := Tryd.underlying89
  a46 := Tryd.isAgg89
  z46 := Tryd.sizeOf89
  v46 := Tryd.zeroValue89
  t51 := Tryd.underlying126
  a51 := Tryd.isAgg126
  z51 := Tryd.sizeOf126
  v51 := Tryd.zeroValue126
  t53 := Tryd.underlying95
  a53 := Tryd.isAgg95
  z53 := Tryd.sizeOf95
  v53 := Tryd.zeroValue95
  t171 := Tryd.underlying120
  a171 := Tryd.isAgg120
  z171 := Tryd.sizeOf120
  v171 := Tryd.zeroValue120
  t173 := Tryd.underlying123
  a173 := Tryd.isAgg123
  z173 := Tryd.sizeOf123
  v173 := Tryd.zeroValue123
  t212 := Tryd.underlying138
  a212 := Tryd.isAgg138
  z212 := Tryd.sizeOf138
  v212 := Tryd.zeroValue138
  t213 := Tryd.underlying139
  a213 := Tryd.isAgg139
  z213 := Tryd.sizeOf139
  t232 := Tryd.underlying156
  a232 := Tryd.isAgg156
  z232 := Tryd.sizeOf156
  v232 := Tryd.zeroValue156
  t233 := Tryd.underlying157
  a233 := Tryd.isAgg157
  z233 := Tryd.sizeOf157
  v233 := Tryd.zeroValue157
  g17 := by kernel_rfl
  g18 := by kernel_rfl
  g19 := by kernel_rfl
  i0 := by kernel_rfl
  i2 := by kernel_rfl
  i3 := by kernel_rfl
  i4 := by kernel_rfl
  i5 := by kernel_rfl
  i9 := by kernel_rfl
  i20 := by kernel_rfl
  i37 := by kernel_rfl
  i46 := by kernel_rfl
  i51 := by kernel_rfl
  i53 := by kernel_rfl
  i171 := by kernel_rfl
  i173 := by kernel_rfl
  i212 := by kernel_rfl
  i232 := by kernel_rfl
  i233 := by kernel_rfl
  m17 := by kernel_rfl
  m18 := by kernel_rfl
  m19 := by kernel_rfl }
theorem strconv_Itoa (n : Int) (h0 : -9223372036854775808 ≤ n) (h1 : n ≤ 9223372036854775807) (w : World) (htab : Lib.TabIs Tryd.prog w "internal/strconv.uint64pow10" .u64 Lib.pow10Tab) :
    Calls Tryd.prog 28 #[.int .i64 n] w fun e w' => e = .returned (.string ⟨(Lib.itoa n).toArray⟩) ∧ ∃ k os, w' = Go.Sort.grow (w.drewN k) os := Any.strconv_Itoa laysM171 n h0 h1 w htab
end Go.Proofs.YteklnpgiloebcaaDoor.V

namespace Go.Proofs.YteklnpgiloebcaaDoor.V
set_option linter.unusedVariables false
set_option linter.unusedSimpArgs false
open Go Go.Proofs Go.RowKit
theorem decD_len (n : Nat) (h : n < 100000) : (Lib.decDigits n).length ≤ 5 := by
  have key : ∀ k n : Nat, n < 10 ^ (k + 1) → (Lib.decDigits n).length ≤ k + 1 := by
    intro k
    induction k with
    | zero => intro n h; rw [Lib.decDigits, dif_pos (by omega)]; exact Nat.le_refl _
    | succ k ih =>
      intro n h
      rw [Lib.decDigits]
      split
      · show 1 ≤ _; omega
      · have := ih (n / 10) (by rw [Nat.pow_succ] at h; omega)
        rw [List.length_append]
        show _ + 1 ≤ _
        omega
  exact key 4 n h
theorem itoaN_fn (n : Nat) (hn : n < 100000) : Fn Tryd.prog 28 [.int .i64 (n : Int)] (.str (bs (Lib.decDigits n))) := by
  refine ⟨⟨_, Tryd.func28, by decide, rfl⟩, fun S w vs hS gl hlen hargs => ?_⟩
  obtain ⟨v0, rfl⟩ : ∃ v0, vs = #[v0] := by
    obtain ⟨l⟩ := vs
    match l, hlen with
    | [a], _ => exact ⟨a, rfl⟩
  have h0 := hargs 0 _ v0 rfl rfl
  obtain rfl : v0 = .int .i64 (n : Int) := h0
  have hg : VR w (fun b => b < w.heap.size ∧ S b) (.gtab powV) noref (.pointer (some ⟨3, 0, none⟩)) := gl 3
  obtain ⟨g, t, fz, e, hok, hh⟩ := hg
  have eg : 3 = g := by injection e with e; injection e with e; injection e with e
  subst eg
  have htab : Lib.TabIs Tryd.prog w "internal/strconv.uint64pow10" .u64 Lib.pow10Tab := by
    unfold Lib.TabIs World.var?
    rw [show Tryd.prog.globalNamed "internal/strconv.uint64pow10" = some 3 by kernel_rfl, Option.bind_some, hh]
    rfl
  refine Calls.mono (strconv_Itoa (n : Int) (by omega) (by omega) w htab) ?_
  rintro e w' ⟨rfl, k, os, rfl⟩
  refine ⟨_, rfl, ⟨rfl, rfl, rfl, by simp [Go.Sort.grow]; try omega, fun i hi => ?_⟩, ?_, ?_⟩
  · show ((w.drewN k).heap ++ os)[i]? = _
    rw [Array.getElem?_append_left (by show i < w.heap.size; omega)]
    rfl
  · show Value.string ⟨(Lib.itoa (n : Int)).toArray⟩ = .string (bs (Lib.decDigits n))
    unfold Lib.itoa
    rw [if_neg (by omega), Int.toNat_natCast]; rfl
  · show (bs (Lib.decDigits n)).size ≤ maxLen
    rw [bs_size]
    exact Nat.le_trans (decD_len n hn) (by decide)
end Go.Proofs.YteklnpgiloebcaaDoor.V

namespace Go.Proofs.YteklnpgiloebcaaDoor.V
set_option linter.unusedVariables false
set_option linter.unusedSimpArgs false
open Go Go.Proofs Go.RowKit Go.Shelf
def lays156_ren : Go.Shelf.Ren := ⟨fun | 156 => 29 | 165 => 45 | 166 => 14 | 169 => 17 | 240 => 26 | 241 => 58 | 276 => 41 | 277 => 77 | n => n, fun | 31 => 23 | 9 => 9 | 3 => 3 | 4 => 4 | 0 => 0 | 20 => 20 | 72 => 50 | 76 => 53 | 70 => 47 | 37 => 48 | 75 => 52 | 127 => 75 | 164 => 86 | 5 => 5 | 80 => 57 | n => n, fun | n => n⟩
theorem lays156 : Go.Proofs.Lays.n156 Tryd.prog lays156_ren := {
  mixed := by kernel_rfl
  f156 := Tryd.func29.trans (congrArg some (by kernel_rfl))
  f165 := Tryd.func45.trans (congrArg some (by kernel_rfl))
  f166 := Tryd.func14.trans (congrArg some (by kernel_rfl))
  f169 := Tryd.func17.trans (congrArg some (by kernel_rfl))
  f240 := Tryd.func26.trans (congrArg some (by kernel_rfl))
  f241 := Tryd.func58.trans (congrArg some (by kernel_rfl))
  f276 := Tryd.func41.trans (congrArg some (by kernel_rfl))
  f277 := Tryd.func77.trans (congrArg some (by kernel_rfl))
  t0 := Tryd.underlying0
  a0 := Tryd.isAgg0
  z0 := Tryd.sizeOf0
  v0 := Tryd.zeroValue0
  t3 := Tryd.underlying3
  a3 := Tryd.isAgg3
  z3 := Tryd.sizeOf3
  v3 := Tryd.zeroValue3
  t4 := Tryd.underlying4
  a4 := Tryd.isAgg4
  z4 := Tryd.sizeOf4
  v4 := Tryd.zeroValue4
  t9 := Tryd.underlying9
  a9 := Tryd.isAgg9
  z9 := Tryd.sizeOf9
  v9 := Tryd.zeroValue9
  t20 := Tryd.underlying20
  a20 := Tryd.isAgg20
  z20 := Tryd.sizeOf20
  v20 := Tryd.zeroValue20
  t31 := Tryd.underlying23
  a31 := Tryd.isAgg23
  z31 := Tryd.sizeOf23
  v31 := Tryd.zeroValue23
  t37 := Tryd.underlying48
  a37 := Tryd.isAgg48
  z37 := Tryd.sizeOf48
  v37 := Tryd.zeroValue48
  t70 := Tryd.underlying47
  a70 := Tryd.isAgg47
  z70 := Tryd.sizeOf47
  v70 := Tryd.zeroValue47
  t72 := Tryd.underlying50
  a72 := Tryd.isAgg50
  z72 := Tryd.sizeOf50
  v72 := Tryd.zeroValue50
  t75 := Tryd.underlying52
  a75 := Tryd.isAgg52
  z75 := Tryd.sizeOf52
  v75 := Tryd.zeroValue52
  t76 := Tryd.underlying53
  a76 := Tryd.isAgg53
  z76 := Tryd.sizeOf53
  v76 := Tryd.zeroValue53
  t127 := Tryd.underlying75
  a127 := Tryd.isAgg75
  z127 := Tryd.sizeOf75
  v127 := Tryd.zeroValue75
  t164 := Tryd.underlying86
  a164 := Tryd.isAgg86
  z164 := Tryd.sizeOf86
  v164 := Tryd.zeroValue86 }
theorem Builder_Extra_156 : Builder.Extra Tryd.prog lays156_ren := {
  sizeBuilder := by kernel_rfl
  liesBuilder := by kernel_rfl
  t5 := Tryd.underlying5
  a5 := Tryd.isAgg5
  z5 := Tryd.sizeOf5
  v5 := Tryd.zeroValue5
  infoByte := by kernel_rfl
  cellsByte := by kernel_rfl
  sizeByte := by kernel_rfl
  neB5 := by decide }
theorem strings_Join_none (a : Option Addr) (c : Nat) (sep : ByteArray) (w : World) :
    Calls Tryd.prog 29 #[.slice a 0 c, .string sep] w fun e w' => e = .returned (.string ⟨#[]⟩) ∧ w' = w := Any.strings_Join_none lays156 Builder_Extra_156 a c sep w
theorem strings_Join (bk o c : Nat) (xs : List ByteArray) (sep : ByteArray) (w : World) (hcells : ∀ (j : Nat) x, xs[j]? = some x → w.cell? ⟨bk, o + j, none⟩ = some (.string x)) (hbk : bk < w.heap.size) (hN : xs.length ≤ 140737488355328) (hcap : xs.length ≤ c) (hlen : (Lib.join (xs.map (·.data.toList)) sep.data.toList).length ≤ 140737488355328) :
    Calls Tryd.prog 29 #[.slice (some ⟨bk, o, none⟩) xs.length c, .string sep] w fun e w' => e = .returned (.string ⟨(Lib.join (xs.map (·.data.toList)) sep.data.toList).toArray⟩) ∧ Below w.heap.size w w' := Any.strings_Join lays156 Builder_Extra_156 bk o c xs sep w hcells hbk hN hcap hlen
end Go.Proofs.YteklnpgiloebcaaDoor.V

namespace Go.Proofs.YteklnpgiloebcaaDoor.V
set_option linter.unusedVariables false
set_option linter.unusedSimpArgs false
open Go Go.Proofs Go.RowKit
theorem spot_none {w : World} {a : Addr} {v : Value} (h : w.cell? a = some v) : a = ⟨a.block, a.off, none⟩ := by
  unfold World.cell? at h
  split at h
  · split at h
    · cases h
    · rename_i hs
      cases a with
      | mk b o s => cases s with
        | none => rfl
        | some x => simp at hs
  · cases h
theorem addn (g o j : Nat) : (⟨g, o, none⟩ : Addr).add j = ⟨g, o + j, none⟩ := by
  unfold Addr.add
  by_cases h : j = 0
  · simp [h]
  · simp [h]
theorem join_fn (xs : List ByteArray) (sep : ByteArray) (hn : xs.length ≤ 1000) (hl : (Lib.join (xs.map (·.data.toList)) sep.data.toList).length ≤ 100000000) :
    Fn Tryd.prog 29 [tS.L xs, .str sep] (.str (bs (Lib.join (xs.map (·.data.toList)) sep.data.toList))) := by
  refine ⟨⟨_, Tryd.func29, by decide, rfl⟩, fun S w vs hS gl hlen hargs => ?_⟩
  obtain ⟨v0, v1, rfl⟩ : ∃ v0 v1, vs = #[v0, v1] := by
    obtain ⟨l⟩ := vs
    match l, hlen with
    | [a, b], _ => exact ⟨a, b, rfl⟩
  have h0 := hargs 0 _ v0 rfl rfl
  have h1 := hargs 1 _ v1 rfl rfl
  obtain ⟨rfl, hs1⟩ := h1
  obtain ⟨A, c, rfl, hc1, hc2, hA, hcell⟩ := h0
  have hsz : ∀ r : List UInt8, r.length ≤ 100000000 → (bs r).size ≤ maxLen := fun r hr => by rw [bs_size]; exact Nat.le_trans hr (by decide)
  cases hx : xs with
  | nil =>
    subst hx
    refine Calls.mono (strings_Join_none A c sep w) ?_
    rintro e w' ⟨rfl, rfl⟩
    exact ⟨_, rfl, Below.refl _ _, rfl, Nat.zero_le _⟩
  | cons x r =>
    rw [← hx]
    have hpos : 0 < xs.length := by rw [hx]; exact Nat.succ_pos _
    obtain ⟨ad, rfl, hok, hcs⟩ := hcell hpos
    have hat : ∀ (j : Nat) y, xs[j]? = some y → w.cell? (ad.add j) = some (.string y) := by
      intro j y hj
      have hjl : j < xs.length := by
        rcases Nat.lt_or_ge j xs.length with h | h
        · exact h
        · rw [List.getElem?_eq_none h] at hj; cases hj
      obtain ⟨cv, h1, h2, h3⟩ := hcs j 0 hjl (by decide)
      have h3 : VR w S (.str (xs.getD j .empty)) noref cv := h3
      obtain ⟨rfl, _⟩ := h3
      rw [show j * tS.sz + 0 = j from Nat.mul_one j] at h1
      rw [h1, List.getD_eq_getElem?_getD, hj]; rfl
    have hsp : ad = ⟨ad.block, ad.off, none⟩ := by
      obtain ⟨y, hy⟩ : ∃ y, xs[0]? = some y := by rw [hx]; exact ⟨x, rfl⟩
      exact spot_none (hat 0 y hy)
    have hjoin := strings_Join ad.block ad.off c xs sep w (fun j y hj => by
      have := hat j y hj
      rw [hsp, addn] at this; exact this) (hS _ hok) (by omega) hc1 (by omega)
    rw [← hsp] at hjoin
    refine Calls.mono hjoin ?_
    rintro e w' ⟨rfl, hb⟩
    exact ⟨_, rfl, hb, rfl, hsz _ hl⟩
end Go.Proofs.YteklnpgiloebcaaDoor.V

namespace Go.Proofs.YteklnpgiloebcaaDoor.V
set_option linter.unusedVariables false
set_option linter.unusedSimpArgs false
open Go Go.Proofs Go.RowKit
set_option maxRecDepth 100000
set_option maxHeartbeats 1000000
theorem form_any (r : Rd) (hs : r.text.size ≤ 2000000) : Fn Tryd.prog 27 [.agg 3 (tRd.enc r)] (.str (formB r)) := by
  have := form_fn r.none (blA r.text) r.wits hs
  rw [bs_blA] at this
  exact this
theorem joinA_len (M : Nat) : ∀ xs : List (List UInt8), (∀ x ∈ xs, x.length ≤ M) → (Lib.join xs [59, 32]).length ≤ xs.length * (M + 2)
  | [], _ => Nat.zero_le _
  | x :: r, h => by
    have h1 := h x List.mem_cons_self
    have key : ∀ r : List (List UInt8), (∀ x ∈ r, x.length ≤ M) → (Lib.joinTail [59, 32] r).length ≤ r.length * (M + 2) := by
      intro r
      induction r with
      | nil => intro _; exact Nat.zero_le _
      | cons y r ih =>
        intro h
        have h1 := h y List.mem_cons_self
        have h2 := ih (fun z hz => h z (List.mem_cons_of_mem _ hz))
        show (([59, 32] ++ y) ++ Lib.joinTail [59, 32] r).length ≤ (r.length + 1) * (M + 2)
        rw [List.length_append, List.length_append, Nat.add_mul]
        show 2 + y.length + _ ≤ _
        omega
    have h2 := key r (fun z hz => h z (List.mem_cons_of_mem _ hz))
    rw [Lib.join_cons, List.length_append, List.length_cons, Nat.add_mul]
    omega
theorem join_fit {names : List ByteArray} {e : En} (H : EnFit names e) : (Lib.join ((e.rds.drop 1).map (rdB names)) [59, 32]).length ≤ 100000000 := by
  have h1 := joinA_len 9000000 ((e.rds.drop 1).map (rdB names)) (fun y hy => by
    obtain ⟨r, hr, rfl⟩ := List.mem_map.mp hy
    have hre := List.mem_of_mem_drop hr
    have a := formB_size r (H.text r hre)
    have b := wsB_len H.name r.wits
    have c := H.wfew r hre
    unfold rdB
    rw [List.length_append, bsA_size]
    omega)
  rw [List.length_map, List.length_drop] at h1
  have := H.few
  have h2 : (e.rds.length - 1) * (9000000 + 2) ≤ 11 * (9000000 + 2) := Nat.mul_le_mul_right _ (by omega)
  omega
theorem line_fn (names : List ByteArray) (e : En) (H : EnFit names e) : Fn Tryd.prog 15 [.agg 2 (tEn.enc e), tS.L names] (.str (bs (lnB names e))) := by
  have hn1 := H.some
  have hn2 := H.few
  have hn3 := H.nfew
  obtain ⟨L, hL⟩ : ∃ L, L = e.rds.drop 1 := ⟨_, rfl⟩
  have hLl : L.length = e.rds.length - 1 := by rw [hL, List.length_drop]
  have hLm : ∀ r ∈ L, r ∈ e.rds := fun r hr => List.mem_of_mem_drop (hL ▸ hr)
  have hLg : ∀ k, e.rds.getD (k + 1) tRd.z = L.getD k tRd.z := fun k => by rw [hL, List.getD_eq_getElem?_getD, List.getD_eq_getElem?_getD, List.getElem?_drop, Nat.add_comm]
  refine Fn.of Tryd.f15 _ Tryd.func15 rfl (by decide) (by show 2 ≤ _; decide) tbOk 56 rfl fun S w0 gl => ?_
  refine Run.go ?_; (conv => whnf); repeat' (first | ((with_reducible refine Know.mk fun _ => ?_); conv => whnf) | ((with_reducible refine Need.mk ?_ ?_); exact nd; conv => whnf) | ((with_reducible first | refine Both.mk ?_ ?_ | refine Any.mk fun b hb => ?_ | refine AskB.dec (fun hb => ?_) (fun hb => ?_) | refine AskB.ndec (fun hb => ?_) (fun hb => ?_) | refine AskB.mk (fun hb => ?_) (fun hb => ?_)) <;> conv => whnf) | ((with_reducible first | refine Run.drawX rfl (by decide +kernel) ?_ | refine Run.drawT rfl (by decide +kernel) ?_ | refine Run.drawW rfl (by decide +kernel) ?_); conv => whnf) | fail)
  all_goals try (exfalso; omega)
  refine Run.holdNil 5 1000 9 1 (fun _ _ => .u) rfl ?_
  refine Run.loop [1] (fun (k : Nat) => [(2, .box 2 0), (5, .row 1000), (13, tRd.L L), (14, .int .i64 (L.length : Int)), (15, .int .i64 (k : Int))]) (fun k => [(2, .box 45 [.int .i64 e.col, tRd.L e.rds]), (1000, tS.R 9 ((L.take k).map (fun r => bs (rdB names r))))]) (fun k => k ≤ L.length) (fun k => L.length - k) 0 (Nat.zero_le _) ⟨Le.refl _, Le.refl _, ?_, ?_, Le.refl _, trivial⟩ ⟨MOle.refl _, ⟨rfl, rfl, rfl, fun i j hi => absurd hi (Nat.not_lt_zero _)⟩, trivial⟩ ?_
  · (conv => whnf)
    show Le (AV.sl (e.rds.length - Int.toNat 1) _ _) (AV.sl L.length _ _)
    rw [hLl]
    exact Le.sl fun i j hi hj => Le.of_eq (by show tRd.enc (e.rds.getD (Int.toNat 1 + i) tRd.z) j = tRd.enc (L.getD i tRd.z) j; rw [← hLg i, show Int.toNat 1 + i = i + 1 from Nat.add_comm _ _])
  · (conv => whnf)
    exact Le.int (by rw [hLl]; rfl)
  intro k hk IH
  have hw1 : IntKind.i64.wrap ((k : Int) + 1) = ((k + 1 : Nat) : Int) := wrap64 (by omega) (by omega)
  by_cases hkl : k < L.length
  · have hrm := getD_mem (z := tRd.z) k hkl
    have hre := hLm _ hrm
    have hfo := form_any _ (H.text _ hre)
    have hfs := formB_size _ (H.text _ hre)
    have hwf := H.wfew _ hre
    have hwi := H.wit _ hre
    have htk : (L.take (k + 1)).map (fun r => bs (rdB names r)) = (L.take k).map (fun r => bs (rdB names r)) ++ [bs (rdB names (L.getD k tRd.z))] := by
      rw [take_at L k tRd.z hkl, List.map_append]; rfl
    have IH := IH (k + 1) (by omega) (by omega)
    rw [htk] at IH
    have hYl : ((L.take k).map (fun r => bs (rdB names r))).length ≤ 12 := by rw [List.length_map, List.length_take]; omega
    generalize (L.take k).map (fun r => bs (rdB names r)) = Y at *
    refine Run.go ?_; (conv => whnf); repeat' (first | ((with_reducible refine Know.mk fun _ => ?_); conv => whnf) | ((with_reducible refine Need.mk ?_ ?_); exact nd; conv => whnf) | ((with_reducible first | refine Both.mk ?_ ?_ | refine Any.mk fun b hb => ?_ | refine AskB.dec (fun hb => ?_) (fun hb => ?_) | refine AskB.ndec (fun hb => ?_) (fun hb => ?_) | refine AskB.mk (fun hb => ?_) (fun hb => ?_)) <;> conv => whnf) | ((with_reducible first | refine Run.drawX rfl (by decide +kernel) ?_ | refine Run.drawT rfl (by decide +kernel) ?_ | refine Run.drawW rfl (by decide +kernel) ?_); conv => whnf) | fail)
    all_goals try (exfalso; omega)
    refine Run.callBX hfo rfl rfl ⟨rdA_le _ (Le.refl _) (Le.refl _) (Le.refl _), trivial⟩ rfl rfl rfl ?_
    (conv => whnf); repeat' (first | ((with_reducible refine Know.mk fun _ => ?_); conv => whnf) | ((with_reducible refine Need.mk ?_ ?_); exact nd; conv => whnf) | ((with_reducible first | refine Both.mk ?_ ?_ | refine Any.mk fun b hb => ?_ | refine AskB.dec (fun hb => ?_) (fun hb => ?_) | refine AskB.ndec (fun hb => ?_) (fun hb => ?_) | refine AskB.mk (fun hb => ?_) (fun hb => ?_)) <;> conv => whnf) | ((with_reducible first | refine Run.drawX rfl (by decide +kernel) ?_ | refine Run.drawT rfl (by decide +kernel) ?_ | refine Run.drawW rfl (by decide +kernel) ?_); conv => whnf) | fail)
    generalize hrr : L.getD k tRd.z = r at *
    have hr3 : L.getD (k : Int).toNat tRd.z = r := hrr
    refine Run.loop [1, 13, 14, 15] (fun (j : Nat) => [(2, .box 2 0), (5, .row 1000), (22, tI.L r.wits), (23, .int .i64 (r.wits.length : Int)), (8, .str (bs (blA (formB r) ++ wsB names (r.wits.take j)))), (24, .int .i64 (j : Int))]) (fun j => [(2, .box 45 [.int .i64 e.col, tRd.L e.rds]), (1000, tS.R 9 Y)]) (fun j => j ≤ r.wits.length) (fun j => r.wits.length - j) 0 (Nat.zero_le _) ⟨Le.refl _, Le.refl _, ?_, ?_, ?_, Le.refl _, trivial⟩ ⟨MOle.refl _, MOle.refl _, trivial⟩ ?_
    · (conv => whnf)
      exact Le.of_eq (by rw [← hr3]; rfl)
    · (conv => whnf)
      exact Le.of_eq (by rw [← hr3])
    · (conv => whnf)
      exact Le.str (by show formB r = bs (blA (formB r) ++ []); rw [List.append_nil, bs_blA])
    intro j hj IHj
    have hw2 : IntKind.i64.wrap ((j : Int) + 1) = ((j + 1 : Nat) : Int) := wrap64 (by omega) (by omega)
    by_cases hjl : j < r.wits.length
    · have IHj := IHj (j + 1) (by omega) (by omega)
      have hwm : 0 ≤ r.wits.getD (j : Int).toNat tI.z ∧ r.wits.getD (j : Int).toNat tI.z < names.length := hwi _ (getD_mem (z := tI.z) j hjl)
      rw [wsB_take names r.wits j hjl] at IHj
      have hnz : (names.getD (r.wits.getD (j : Int).toNat tI.z).toNat tS.z).size ≤ 8 := H.name _ (getD_mem (z := tS.z) _ (by omega))
      have hcat : (ByteArray.mk #[32] ++ names.getD (r.wits.getD (j : Int).toNat tI.z).toNat tS.z).size = 1 + (names.getD (r.wits.getD (j : Int).toNat tI.z).toNat tS.z).size := by rw [ByteArray.size_append]; rfl
      have h32 : (ByteArray.mk #[32]).size = 1 := rfl
      have hws := wsB_len H.name (r.wits.take j)
      have hsz : (bs (blA (formB r) ++ wsB names (r.wits.take j))).size ≤ 9000000 := by
        rw [bs_size, List.length_append, bsA_size]
        rw [List.length_take] at hws
        omega
      have hnx : ByteArray.mk #[32] ++ names.getD (r.wits.getD (j : Int).toNat tI.z).toNat tS.z = bs (nmB names (r.wits.getD j 0)) := by
        show bs [32] ++ names.getD (r.wits.getD j 0).toNat .empty = bs ([32] ++ blA (names.getD (r.wits.getD j 0).toNat .empty))
        rw [← bsA, bs_blA]
      refine Run.go ?_; (conv => whnf); repeat' (first | ((with_reducible refine Know.mk fun _ => ?_); conv => whnf) | ((with_reducible refine Need.mk ?_ ?_); exact nd; conv => whnf) | ((with_reducible first | refine Both.mk ?_ ?_ | refine Any.mk fun b hb => ?_ | refine AskB.dec (fun hb => ?_) (fun hb => ?_) | refine AskB.ndec (fun hb => ?_) (fun hb => ?_) | refine AskB.mk (fun hb => ?_) (fun hb => ?_)) <;> conv => whnf) | ((with_reducible first | refine Run.drawX rfl (by decide +kernel) ?_ | refine Run.drawT rfl (by decide +kernel) ?_ | refine Run.drawW rfl (by decide +kernel) ?_); conv => whnf) | fail)
      all_goals try (exfalso; omega)
      refine Run.to _ _ ?_ ?_ IHj
      · exact ⟨Le.refl _, Le.refl _, Le.refl _, Le.refl _, Le.refl _, Le.refl _, Le.refl _, Le.refl _, Le.str (by rw [hnx, bsA, List.append_assoc]), Le.int hw2, trivial⟩
      · exact ⟨MOle.refl _, MOle.refl _, trivial⟩
    · obtain rfl : j = r.wits.length := by omega
      rw [List.take_length]
      refine Run.go ?_; (conv => whnf); repeat' (first | ((with_reducible refine Know.mk fun _ => ?_); conv => whnf) | ((with_reducible refine Need.mk ?_ ?_); exact nd; conv => whnf) | ((with_reducible first | refine Both.mk ?_ ?_ | refine Any.mk fun b hb => ?_ | refine AskB.dec (fun hb => ?_) (fun hb => ?_) | refine AskB.ndec (fun hb => ?_) (fun hb => ?_) | refine AskB.mk (fun hb => ?_) (fun hb => ?_)) <;> conv => whnf) | ((with_reducible first | refine Run.drawX rfl (by decide +kernel) ?_ | refine Run.drawT rfl (by decide +kernel) ?_ | refine Run.drawW rfl (by decide +kernel) ?_); conv => whnf) | fail)
      all_goals try (exfalso; omega)
      refine Run.hold (z := 39) 5 1000 (by rfl) (by rfl) (by rfl) ?_
      refine Run.to _ _ ?_ ?_ IH
      · exact ⟨Le.refl _, Le.refl _, Le.refl _, Le.refl _, Le.refl _, Le.int hw1, trivial⟩
      · exact ⟨MOle.refl _, tS.push 9 Y _ _ (one0 (Le.refl _)), trivial⟩
  · obtain rfl : k = L.length := by omega
    rw [List.take_length]
    have hD := decD_len e.col.toNat (by have := H.col1; omega)
    have hit := itoaN_fn e.col.toNat (by have := H.col1; omega)
    have hc0 := H.col0
    have hr0 := getD_mem (z := tRd.z) 0 (show 0 < e.rds.length by omega)
    have hf0 := form_any _ (H.text _ hr0)
    have hfs := formB_size _ (H.text _ hr0)
    have hJ := join_fit H
    rw [← hL] at hJ
    have hmm : (L.map (fun r => bs (rdB names r))).map (·.data.toList) = L.map (rdB names) := by rw [List.map_map]; rfl
    have hjn := join_fn (L.map (fun r => bs (rdB names r))) ⟨#[59, 32]⟩ (by rw [List.length_map]; omega) (by rw [hmm]; exact hJ)
    rw [hmm, show (ByteArray.mk #[59, 32]).data.toList = [59, 32] from rfl] at hjn
    have hDs := bs_size (Lib.decDigits e.col.toNat)
    have hJs := bs_size (Lib.join (L.map (rdB names)) [59, 32])
    unfold lnB
    rw [← hL]
    have hF : formB (e.rds.getD 0 tRd.z) = bs (blA (formB (e.rds.getD 0 rd0))) := (bs_blA _).symm
    rw [hF] at hf0 hfs
    generalize blA (formB (e.rds.getD 0 rd0)) = fl at *
    generalize Lib.decDigits e.col.toNat = D at *
    generalize Lib.join (L.map (rdB names)) [59, 32] = J at *
    have hA0 : (ByteArray.mk #[32]).size = 1 := rfl
    have hA00 : (ByteArray.mk #[32, 93, 32]).size = 3 := rfl
    have hA000 : (ByteArray.mk #[10]).size = 1 := rfl
    have hA1 : (bs D ++ ByteArray.mk #[32]).size = (bs D).size + 1 := ByteArray.size_append
    have hA2 : (bs D ++ ByteArray.mk #[32] ++ bs fl).size = (bs D).size + 1 + (bs fl).size := by rw [ByteArray.size_append, hA1]
    have hA3 : (bs D ++ ByteArray.mk #[32] ++ bs fl ++ ByteArray.mk #[32, 93, 32]).size = (bs D).size + 1 + (bs fl).size + 3 := by rw [ByteArray.size_append, hA2]; rfl
    have hA4 : (bs D ++ ByteArray.mk #[32] ++ bs fl ++ ByteArray.mk #[32, 93, 32] ++ bs J).size = (bs D).size + 1 + (bs fl).size + 3 + (bs J).size := by rw [ByteArray.size_append, hA3]
    refine Run.go ?_; (conv => whnf); repeat' (first | ((with_reducible refine Know.mk fun _ => ?_); conv => whnf) | ((with_reducible refine Need.mk ?_ ?_); exact nd; conv => whnf) | ((with_reducible first | refine Both.mk ?_ ?_ | refine Any.mk fun b hb => ?_ | refine AskB.dec (fun hb => ?_) (fun hb => ?_) | refine AskB.ndec (fun hb => ?_) (fun hb => ?_) | refine AskB.mk (fun hb => ?_) (fun hb => ?_)) <;> conv => whnf) | ((with_reducible first | refine Run.drawX rfl (by decide +kernel) ?_ | refine Run.drawT rfl (by decide +kernel) ?_ | refine Run.drawW rfl (by decide +kernel) ?_); conv => whnf) | fail)
    all_goals try (exfalso; omega)
    refine CallQ.flat hit rfl ⟨Le.int (by omega), trivial⟩ rfl ?_
    (conv => whnf); repeat' (first | ((with_reducible refine Know.mk fun _ => ?_); conv => whnf) | ((with_reducible refine Need.mk ?_ ?_); exact nd; conv => whnf) | ((with_reducible first | refine Both.mk ?_ ?_ | refine Any.mk fun b hb => ?_ | refine AskB.dec (fun hb => ?_) (fun hb => ?_) | refine AskB.ndec (fun hb => ?_) (fun hb => ?_) | refine AskB.mk (fun hb => ?_) (fun hb => ?_)) <;> conv => whnf) | ((with_reducible first | refine Run.drawX rfl (by decide +kernel) ?_ | refine Run.drawT rfl (by decide +kernel) ?_ | refine Run.drawW rfl (by decide +kernel) ?_); conv => whnf) | fail)
    refine CallQ.flat hf0 rfl ⟨rdA_le _ (Le.refl _) (Le.refl _) (Le.refl _), trivial⟩ rfl ?_
    (conv => whnf); repeat' (first | ((with_reducible refine Know.mk fun _ => ?_); conv => whnf) | ((with_reducible refine Need.mk ?_ ?_); exact nd; conv => whnf) | ((with_reducible first | refine Both.mk ?_ ?_ | refine Any.mk fun b hb => ?_ | refine AskB.dec (fun hb => ?_) (fun hb => ?_) | refine AskB.ndec (fun hb => ?_) (fun hb => ?_) | refine AskB.mk (fun hb => ?_) (fun hb => ?_)) <;> conv => whnf) | ((with_reducible first | refine Run.drawX rfl (by decide +kernel) ?_ | refine Run.drawT rfl (by decide +kernel) ?_ | refine Run.drawW rfl (by decide +kernel) ?_); conv => whnf) | fail)
    refine CallQ.flat hjn rfl ⟨Le.refl _, Le.refl _, trivial⟩ rfl ?_
    (conv => whnf); repeat' (first | ((with_reducible refine Know.mk fun _ => ?_); conv => whnf) | ((with_reducible refine Need.mk ?_ ?_); exact nd; conv => whnf) | ((with_reducible first | refine Both.mk ?_ ?_ | refine Any.mk fun b hb => ?_ | refine AskB.dec (fun hb => ?_) (fun hb => ?_) | refine AskB.ndec (fun hb => ?_) (fun hb => ?_) | refine AskB.mk (fun hb => ?_) (fun hb => ?_)) <;> conv => whnf) | ((with_reducible first | refine Run.drawX rfl (by decide +kernel) ?_ | refine Run.drawT rfl (by decide +kernel) ?_ | refine Run.drawW rfl (by decide +kernel) ?_); conv => whnf) | fail)
    refine Run.leave (ts := [4]) (.inr ⟨_, rfl⟩) rfl Tryd.func15 rfl (Le.str ?_)
    show bs D ++ bs [32] ++ bs fl ++ bs [32, 93, 32] ++ bs J ++ bs [10] = _
    rw [bsA, bsA, bsA, bsA, bsA]
    simp
end Go.Proofs.YteklnpgiloebcaaDoor.V

namespace Go.Proofs.YteklnpgiloebcaaDoor.V
set_option linter.unusedVariables false
set_option linter.unusedSimpArgs false
open Go Go.Proofs Go.RowKit
set_option maxRecDepth 100000
set_option maxHeartbeats 1000000
theorem ws9 {N : Nat} {w0 : World} {S : Nat → Prop} {gl : GlobOk S w0} {f : FuncId} {R : Ending → World → Prop} {kp : Kept} {ops : Array Oper} {i : Nat} {rest : List Nat} {k : List Item} {env : Env} {h : Heap} {o : Oper} {x y : Operand}
    (p : AV) (t s : ByteArray) (ho : ops.toList[i]? = some o) (hc : calls? o = some (14, [x, y])) (hd : okD ⟨Tryd.prog, TB, tbOk, N, w0, S, gl, f, R, kp⟩ o.dst = true) (hr : ready env ops o = true) (hx : ev (scrubE 900 env) x = .box 9 0) (hy : ev (scrubE 900 env) y = .str s)
    (hs : t.size + s.size ≤ 140737488355328) (hp : p = .nilp ∨ p = .box 9 0)
    (next : Run ⟨Tryd.prog, TB, tbOk, N, w0, S, gl, f, R, kp⟩ (.inRegion ops rest :: k) (putE (envW 90 env) o.dst .u) (bldr 50 5 9 90 (heapW 90 h) (.box 9 0) (t ++ s))) :
    Run ⟨Tryd.prog, TB, tbOk, N, w0, S, gl, f, R, kp⟩ (.inRegion ops (i :: rest) :: k) env (bldr 50 5 9 90 h p t) := by
  refine Run.inline 900 Tryd.f14 _ 19 ho hc Tryd.func14 rfl (by decide) rfl (by show 2 ≤ 19; decide) hd hr (fun a hsz hdf => ?_)
  simp only [List.map, hx, hy]
  have fin : ∀ (E : Env) (H : Heap) (X : AV), (∀ i, E i = scrub 14 (scrub 901 (scrub 900 (env i)))) → (∀ id, Nat.beq id 9 = false → Nat.beq id 90 = false → Nat.beq id 14 = false → Nat.beq id 901 = false → Nat.beq id 900 = false → H id = scrubM 90 (scrubM 14 (scrubM 901 (scrubM 900 (h id))))) →
      MOle (H 9) (.box 50 [.box 9 0, .row 90]) → MOle (H 90) (.row 5 1 (t ++ s).size (bytesG (t ++ s))) → Run ⟨Tryd.prog, TB, tbOk, N, w0, S, gl, f, R, kp⟩ (.inRegion ops rest :: k) (scrubE 90 (putE E o.dst X)) H := by
    intro E H X hE hH h5 h90
    refine Run.weaken (fun i => ?_) (fun id => ?_) next
    · cases hdst : o.dst with
      | none => show Le (scrub 90 (E i)) _; rw [hE]; exact Le.refl _
      | some d =>
        show Le (scrub 90 (upd E d X i)) (upd (envW 90 env) d .u i)
        by_cases e : i = d
        · subst e; rw [upd_same, upd_same]; exact Le.u _
        · rw [upd_other _ _ e, upd_other _ _ e, hE]; exact Le.refl _
    · unfold bldr heapW
      cases e5 : Nat.beq id 9 with
      | true => have := Nat.eq_of_beq_eq_true e5; subst this; exact h5
      | false =>
      cases e90 : Nat.beq id 90 with
      | true => have := Nat.eq_of_beq_eq_true e90; subst this; exact h90
      | false =>
      cases e900 : Nat.beq id 900 with
      | true => simp only [upd, e5, e90, e900, cond_true, cond_false]; exact mole_dead _
      | false =>
      cases e901 : Nat.beq id 901 with
      | true => simp only [upd, e5, e90, e900, e901, cond_true, cond_false]; exact mole_dead _
      | false =>
      cases e14 : Nat.beq id 14 with
      | true => simp only [upd, e5, e90, e900, e901, e14, cond_true, cond_false]; exact mole_dead _
      | false =>
        rw [hH id e5 e90 e14 e901 e900]
        simp only [upd, e5, e90, e900, e901, e14, cond_true, cond_false]
        exact MOle.refl _
  rcases hp with rfl | rfl
  · refine Run.go ?_; (conv => whnf); repeat' (first | ((with_reducible refine Know.mk fun _ => ?_); conv => whnf) | ((with_reducible refine Need.mk ?_ ?_); exact nd; conv => whnf) | ((with_reducible first | refine Both.mk ?_ ?_ | refine Any.mk fun b hb => ?_ | refine AskB.dec (fun hb => ?_) (fun hb => ?_) | refine AskB.ndec (fun hb => ?_) (fun hb => ?_) | refine AskB.mk (fun hb => ?_) (fun hb => ?_)) <;> conv => whnf) | ((with_reducible first | refine Run.drawX rfl (by decide +kernel) ?_ | refine Run.drawT rfl (by decide +kernel) ?_ | refine Run.drawW rfl (by decide +kernel) ?_); conv => whnf) | fail)
    refine Run.inline 901 Tryd.f26 _ 20 rfl rfl Tryd.func26 rfl (by decide) rfl (by decide) rfl rfl (fun a2 hsz2 hdf2 => ?_)
    refine Run.go ?_; (conv => whnf); repeat' (first | ((with_reducible refine Know.mk fun _ => ?_); conv => whnf) | ((with_reducible refine Need.mk ?_ ?_); exact nd; conv => whnf) | ((with_reducible first | refine Both.mk ?_ ?_ | refine Any.mk fun b hb => ?_ | refine AskB.dec (fun hb => ?_) (fun hb => ?_) | refine AskB.ndec (fun hb => ?_) (fun hb => ?_) | refine AskB.mk (fun hb => ?_) (fun hb => ?_)) <;> conv => whnf) | ((with_reducible first | refine Run.drawX rfl (by decide +kernel) ?_ | refine Run.drawT rfl (by decide +kernel) ?_ | refine Run.drawW rfl (by decide +kernel) ?_); conv => whnf) | fail)
    refine Run.toUnsafe (id := 9) (l := [.nilp, .row 90]) (e := 50) (t := 50) (src := 47) (dst := 86) (x := .tmp 8) rfl rfl rfl rfl rfl rfl (by decide) (by kernel_rfl) (by kernel_rfl) (j := (Tryd.prog.info? 50).get (by kernel_rfl)) (by kernel_rfl) (by decide +kernel) ?_
    refine Run.noEscape (f := 41) (x := .tmp 9) rfl rfl rfl rfl Tryd.func41 (by kernel_rfl) (by kernel_rfl) (by kernel_rfl) (by kernel_rfl) ?_
    refine Run.fromUnsafe (id := 9) (l := [.nilp, .row 90]) (e := 50) (u := 50) (src := 86) (dst := 47) (x := .tmp 10) rfl rfl rfl rfl rfl rfl (by kernel_rfl) (by kernel_rfl) (j := (Tryd.prog.info? 50).get (by kernel_rfl)) (by kernel_rfl) (by kernel_rfl) ?_
    refine Run.go ?_; (conv => whnf); repeat' (first | ((with_reducible refine Know.mk fun _ => ?_); conv => whnf) | ((with_reducible refine Need.mk ?_ ?_); exact nd; conv => whnf) | ((with_reducible first | refine Both.mk ?_ ?_ | refine Any.mk fun b hb => ?_ | refine AskB.dec (fun hb => ?_) (fun hb => ?_) | refine AskB.ndec (fun hb => ?_) (fun hb => ?_) | refine AskB.mk (fun hb => ?_) (fun hb => ?_)) <;> conv => whnf) | ((with_reducible first | refine Run.drawX rfl (by decide +kernel) ?_ | refine Run.drawT rfl (by decide +kernel) ?_ | refine Run.drawW rfl (by decide +kernel) ?_); conv => whnf) | fail)
    refine Run.back 901 (ts := []) hsz2 hdf2 (.inl rfl) (by rfl) Tryd.func26 rfl ?_
    refine Run.go ?_; (conv => whnf); repeat' (first | ((with_reducible refine Know.mk fun _ => ?_); conv => whnf) | ((with_reducible refine Need.mk ?_ ?_); exact nd; conv => whnf) | ((with_reducible first | refine Both.mk ?_ ?_ | refine Any.mk fun b hb => ?_ | refine AskB.dec (fun hb => ?_) (fun hb => ?_) | refine AskB.ndec (fun hb => ?_) (fun hb => ?_) | refine AskB.mk (fun hb => ?_) (fun hb => ?_)) <;> conv => whnf) | ((with_reducible first | refine Run.drawX rfl (by decide +kernel) ?_ | refine Run.drawT rfl (by decide +kernel) ?_ | refine Run.drawW rfl (by decide +kernel) ?_); conv => whnf) | fail)
    refine Run.back 900 (ts := [4, 5]) hsz hdf (.inr ⟨_, rfl⟩) (by rfl) Tryd.func14 rfl ?_
    refine Run.holdBoxRow 9 1 90 14 (by rfl) (by rfl) (by rfl) rfl rfl rfl ?_
    refine fin _ _ _ (fun i => rfl) (fun id e5 e90 e14 e901 e900 => ?_) (MOle.refl _) (bytesG_join 5 t s)
    simp only [upd, scrubH, scrubM, bldr, e5, e90, e14, e901, e900, cond_false]
  · refine Run.go ?_; (conv => whnf); repeat' (first | ((with_reducible refine Know.mk fun _ => ?_); conv => whnf) | ((with_reducible refine Need.mk ?_ ?_); exact nd; conv => whnf) | ((with_reducible first | refine Both.mk ?_ ?_ | refine Any.mk fun b hb => ?_ | refine AskB.dec (fun hb => ?_) (fun hb => ?_) | refine AskB.ndec (fun hb => ?_) (fun hb => ?_) | refine AskB.mk (fun hb => ?_) (fun hb => ?_)) <;> conv => whnf) | ((with_reducible first | refine Run.drawX rfl (by decide +kernel) ?_ | refine Run.drawT rfl (by decide +kernel) ?_ | refine Run.drawW rfl (by decide +kernel) ?_); conv => whnf) | fail)
    refine Run.inline 901 Tryd.f26 _ 20 rfl rfl Tryd.func26 rfl (by decide) rfl (by decide) rfl rfl (fun a2 hsz2 hdf2 => ?_)
    refine Run.go ?_; (conv => whnf); repeat' (first | ((with_reducible refine Know.mk fun _ => ?_); conv => whnf) | ((with_reducible refine Need.mk ?_ ?_); exact nd; conv => whnf) | ((with_reducible first | refine Both.mk ?_ ?_ | refine Any.mk fun b hb => ?_ | refine AskB.dec (fun hb => ?_) (fun hb => ?_) | refine AskB.ndec (fun hb => ?_) (fun hb => ?_) | refine AskB.mk (fun hb => ?_) (fun hb => ?_)) <;> conv => whnf) | ((with_reducible first | refine Run.drawX rfl (by decide +kernel) ?_ | refine Run.drawT rfl (by decide +kernel) ?_ | refine Run.drawW rfl (by decide +kernel) ?_); conv => whnf) | fail)
    refine Run.back 901 (ts := []) hsz2 hdf2 (.inl rfl) (by rfl) Tryd.func26 rfl ?_
    refine Run.go ?_; (conv => whnf); repeat' (first | ((with_reducible refine Know.mk fun _ => ?_); conv => whnf) | ((with_reducible refine Need.mk ?_ ?_); exact nd; conv => whnf) | ((with_reducible first | refine Both.mk ?_ ?_ | refine Any.mk fun b hb => ?_ | refine AskB.dec (fun hb => ?_) (fun hb => ?_) | refine AskB.ndec (fun hb => ?_) (fun hb => ?_) | refine AskB.mk (fun hb => ?_) (fun hb => ?_)) <;> conv => whnf) | ((with_reducible first | refine Run.drawX rfl (by decide +kernel) ?_ | refine Run.drawT rfl (by decide +kernel) ?_ | refine Run.drawW rfl (by decide +kernel) ?_); conv => whnf) | fail)
    refine Run.back 900 (ts := [4, 5]) hsz hdf (.inr ⟨_, rfl⟩) (by rfl) Tryd.func14 rfl ?_
    refine Run.holdBoxRow 9 1 90 14 (by rfl) (by rfl) (by rfl) rfl rfl rfl ?_
    refine fin _ _ _ (fun i => rfl) (fun id e5 e90 e14 e901 e900 => ?_) (MOle.refl _) (bytesG_join 5 t s)
    simp only [upd, scrubH, scrubM, bldr, e5, e90, e14, e901, e900, cond_false]

theorem bs9 {N : Nat} {w0 : World} {S : Nat → Prop} {gl : GlobOk S w0} {f : FuncId} {R : Ending → World → Prop} {kp : Kept} {ops : Array Oper} {i : Nat} {rest : List Nat} {k : List Item} {env : Env} {h : Heap} {o : Oper} {x : Operand}
    (p : AV) (t : ByteArray) (ho : ops.toList[i]? = some o) (hc : calls? o = some (17, [x])) (hd : okD ⟨Tryd.prog, TB, tbOk, N, w0, S, gl, f, R, kp⟩ o.dst = true) (hr : ready env ops o = true) (hx : ev (scrubE 900 env) x = .box 9 0)
    (next : Run ⟨Tryd.prog, TB, tbOk, N, w0, S, gl, f, R, kp⟩ (.inRegion ops rest :: k) (putE (scrubE 900 env) o.dst (.str t)) (upd (upd (upd (scrubH 900 h) 900 .dead) 9 .dead) 90 .dead)) :
    Run ⟨Tryd.prog, TB, tbOk, N, w0, S, gl, f, R, kp⟩ (.inRegion ops (i :: rest) :: k) env (bldr 50 5 9 90 h p t) := by
  refine Run.inline 900 Tryd.f17 _ 14 ho hc Tryd.func17 rfl (by decide) rfl (by show 1 ≤ 14; decide) hd hr (fun a hsz hdf => ?_)
  simp only [List.map, hx]
  have fin : ∀ (H : Heap), (∀ id, Nat.beq id 9 = false → Nat.beq id 90 = false → Nat.beq id 900 = false → H id = scrubM 900 (h id)) →
      Run ⟨Tryd.prog, TB, tbOk, N, w0, S, gl, f, R, kp⟩ (.inRegion ops rest :: k) (putE (scrubE 900 env) o.dst (.str t)) H := by
    intro H hH
    refine Run.weaken (fun i => Le.refl _) (fun id => ?_) next
    cases e5 : Nat.beq id 9 with
    | true => simp only [upd, e5, cond_true, cond_false]; cases Nat.beq id 90 <;> exact mole_dead _
    | false =>
    cases e90 : Nat.beq id 90 with
    | true => simp only [upd, e5, e90, cond_true, cond_false]; exact mole_dead _
    | false =>
    cases e900 : Nat.beq id 900 with
    | true => simp only [upd, e5, e90, e900, cond_true, cond_false]; exact mole_dead _
    | false =>
      rw [hH id e5 e90 e900]
      simp only [upd, e5, e90, e900, cond_true, cond_false]
      exact MOle.refl _
  refine Run.go ?_; (conv => whnf); repeat' (first | ((with_reducible refine Know.mk fun _ => ?_); conv => whnf) | ((with_reducible refine Need.mk ?_ ?_); exact nd; conv => whnf) | ((with_reducible first | refine Both.mk ?_ ?_ | refine Any.mk fun b hb => ?_ | refine AskB.dec (fun hb => ?_) (fun hb => ?_) | refine AskB.ndec (fun hb => ?_) (fun hb => ?_) | refine AskB.mk (fun hb => ?_) (fun hb => ?_)) <;> conv => whnf) | ((with_reducible first | refine Run.drawX rfl (by decide +kernel) ?_ | refine Run.drawT rfl (by decide +kernel) ?_ | refine Run.drawW rfl (by decide +kernel) ?_); conv => whnf) | fail)
  · refine Run.unsafeString0 (i := 10) (rest := [11]) (k := [.code .ret]) (x := .tmp 7) (y := .tmp 12) (c := ⟨.builtin .unsafeString, #[.tmp 7, .tmp 12], #[75, 3]⟩) rfl rfl rfl rfl rfl rfl rfl (.inl rfl) (by show AV.int .i64 (t.size : Int) = _; rw [hb]; rfl) ?_
    have ht : t = .empty := by simpa using hb
    refine Run.go ?_; (conv => whnf); repeat' (first | ((with_reducible refine Know.mk fun _ => ?_); conv => whnf) | ((with_reducible refine Need.mk ?_ ?_); exact nd; conv => whnf) | ((with_reducible first | refine Both.mk ?_ ?_ | refine Any.mk fun b hb => ?_ | refine AskB.dec (fun hb => ?_) (fun hb => ?_) | refine AskB.ndec (fun hb => ?_) (fun hb => ?_) | refine AskB.mk (fun hb => ?_) (fun hb => ?_)) <;> conv => whnf) | ((with_reducible first | refine Run.drawX rfl (by decide +kernel) ?_ | refine Run.drawT rfl (by decide +kernel) ?_ | refine Run.drawW rfl (by decide +kernel) ?_); conv => whnf) | fail)
    refine Run.back 900 (ts := [2]) hsz hdf (.inr ⟨_, rfl⟩) (by rfl) Tryd.func17 rfl ?_
    rw [ht] at fin next ⊢
    exact fin _ (fun id e5 e90 e900 => by simp only [upd, scrubH, bldr, e5, e90, e900, cond_false])
  · refine Run.unsafeString (i := 10) (rest := [11]) (k := [.code .ret]) (x := .tmp 7) (y := .tmp 12) (c := ⟨.builtin .unsafeString, #[.tmp 7, .tmp 12], #[75, 3]⟩) t rfl rfl rfl rfl rfl rfl rfl rfl rfl (e := 5) (n := t.size) (q := 90) (get := bytesG t) rfl rfl hb (fun _ _ => rfl) (by kernel_rfl) (by kernel_rfl) ?_
    refine Run.go ?_; (conv => whnf); repeat' (first | ((with_reducible refine Know.mk fun _ => ?_); conv => whnf) | ((with_reducible refine Need.mk ?_ ?_); exact nd; conv => whnf) | ((with_reducible first | refine Both.mk ?_ ?_ | refine Any.mk fun b hb => ?_ | refine AskB.dec (fun hb => ?_) (fun hb => ?_) | refine AskB.ndec (fun hb => ?_) (fun hb => ?_) | refine AskB.mk (fun hb => ?_) (fun hb => ?_)) <;> conv => whnf) | ((with_reducible first | refine Run.drawX rfl (by decide +kernel) ?_ | refine Run.drawT rfl (by decide +kernel) ?_ | refine Run.drawW rfl (by decide +kernel) ?_); conv => whnf) | fail)
    refine Run.back 900 (ts := [2]) hsz hdf (.inr ⟨_, rfl⟩) (by rfl) Tryd.func17 rfl ?_
    exact fin _ (fun id e5 e90 e900 => by simp only [upd, scrubH, bldr, e5, e90, e900, cond_false])
theorem print_aw : Fn Tryd.prog 7 [tEn.L [awEn], tS.L awNm, .int .i64 3] (tupL [.str awLn, .int .i64 0]) := by
  refine Fn.of Tryd.f7 _ Tryd.func7 rfl (by decide) (by show 3 ≤ _; decide) tbOk 37 rfl fun S w0 gl => ?_
  refine Run.go ?_; (conv => whnf); repeat' (first | ((with_reducible refine Know.mk fun _ => ?_); conv => whnf) | ((with_reducible refine Need.mk ?_ ?_); exact nd; conv => whnf) | ((with_reducible first | refine Both.mk ?_ ?_ | refine Any.mk fun b hb => ?_ | refine AskB.dec (fun hb => ?_) (fun hb => ?_) | refine AskB.ndec (fun hb => ?_) (fun hb => ?_) | refine AskB.mk (fun hb => ?_) (fun hb => ?_)) <;> conv => whnf) | ((with_reducible first | refine Run.drawX rfl (by decide +kernel) ?_ | refine Run.drawT rfl (by decide +kernel) ?_ | refine Run.drawW rfl (by decide +kernel) ?_); conv => whnf) | fail)
  refine Run.callBX (named17_fn awNm (by decide) (fun s hs => ?_)) rfl rfl ⟨Le.refl _, trivial⟩ rfl rfl rfl ?_
  · simp only [awNm, List.mem_cons, List.not_mem_nil, or_false] at hs
    rcases hs with rfl | rfl | rfl <;> decide
  rw [awNm_ok]
  (conv => whnf); repeat' (first | ((with_reducible refine Know.mk fun _ => ?_); conv => whnf) | ((with_reducible refine Need.mk ?_ ?_); exact nd; conv => whnf) | ((with_reducible first | refine Both.mk ?_ ?_ | refine Any.mk fun b hb => ?_ | refine AskB.dec (fun hb => ?_) (fun hb => ?_) | refine AskB.ndec (fun hb => ?_) (fun hb => ?_) | refine AskB.mk (fun hb => ?_) (fun hb => ?_)) <;> conv => whnf) | ((with_reducible first | refine Run.drawX rfl (by decide +kernel) ?_ | refine Run.drawT rfl (by decide +kernel) ?_ | refine Run.drawW rfl (by decide +kernel) ?_); conv => whnf) | fail)
  all_goals try (exact absurd hb (by decide))
  refine Run.callBX (appCheck_fn [awEn] 3 3) rfl rfl ⟨Le.refl _, Le.refl _, Le.refl _, trivial⟩ rfl rfl rfl ?_
  rw [awEn_chk]
  (conv => whnf); repeat' (first | ((with_reducible refine Know.mk fun _ => ?_); conv => whnf) | ((with_reducible refine Need.mk ?_ ?_); exact nd; conv => whnf) | ((with_reducible first | refine Both.mk ?_ ?_ | refine Any.mk fun b hb => ?_ | refine AskB.dec (fun hb => ?_) (fun hb => ?_) | refine AskB.ndec (fun hb => ?_) (fun hb => ?_) | refine AskB.mk (fun hb => ?_) (fun hb => ?_)) <;> conv => whnf) | ((with_reducible first | refine Run.drawX rfl (by decide +kernel) ?_ | refine Run.drawT rfl (by decide +kernel) ?_ | refine Run.drawW rfl (by decide +kernel) ?_); conv => whnf) | fail)
  all_goals try (exact absurd rfl hb)
  refine Run.holdBoxNil 9 1 90 5 1 (bytesG .empty) rfl rfl rfl rfl ?_
  refine Run.loop [1, 9, 23, 24] (fun (k : Nat) => [(25, .int .i64 (k : Int))]) (fun k => [(9, .box 50 [if k = 0 then .nilp else .box 9 0, .row 90]), (90, .row 5 1 (if k = 0 then ByteArray.empty else awLn).size (bytesG (if k = 0 then .empty else awLn)))]) (fun k => k ≤ 1) (fun k => 1 - k) 0 (Nat.zero_le _) ⟨Le.refl _, trivial⟩ ⟨MOle.refl _, MOle.refl _, trivial⟩ ?_
  intro k hk IH
  have hk01 : k = 0 ∨ k = 1 := by omega
  rcases hk01 with rfl | rfl
  · have IH := IH 1 (by omega) (by omega)
    show Run _ _ (lst (_ ++ [(25, .int .i64 ((0 : Nat) : Int))])) (lstH [(9, .box 50 [.nilp, .row 90]), (90, .row 5 1 ByteArray.empty.size (bytesG .empty))])
    refine Run.go ?_; (conv => whnf); repeat' (first | ((with_reducible refine Know.mk fun _ => ?_); conv => whnf) | ((with_reducible refine Need.mk ?_ ?_); exact nd; conv => whnf) | ((with_reducible first | refine Both.mk ?_ ?_ | refine Any.mk fun b hb => ?_ | refine AskB.dec (fun hb => ?_) (fun hb => ?_) | refine AskB.ndec (fun hb => ?_) (fun hb => ?_) | refine AskB.mk (fun hb => ?_) (fun hb => ?_)) <;> conv => whnf) | ((with_reducible first | refine Run.drawX rfl (by decide +kernel) ?_ | refine Run.drawT rfl (by decide +kernel) ?_ | refine Run.drawW rfl (by decide +kernel) ?_); conv => whnf) | fail)
    all_goals try (exact absurd (by decide) hb)
    refine Run.callBX line_aw rfl rfl ⟨?_, Le.refl _, trivial⟩ rfl rfl rfl ?_
    · exact Le.agg fun j hj => by
        match j, hj with
        | 0, _ => exact Le.refl _
        | 1, _ => exact Le.refl _
    (conv => whnf); repeat' (first | ((with_reducible refine Know.mk fun _ => ?_); conv => whnf) | ((with_reducible refine Need.mk ?_ ?_); exact nd; conv => whnf) | ((with_reducible first | refine Both.mk ?_ ?_ | refine Any.mk fun b hb => ?_ | refine AskB.dec (fun hb => ?_) (fun hb => ?_) | refine AskB.ndec (fun hb => ?_) (fun hb => ?_) | refine AskB.mk (fun hb => ?_) (fun hb => ?_)) <;> conv => whnf) | ((with_reducible first | refine Run.drawX rfl (by decide +kernel) ?_ | refine Run.drawT rfl (by decide +kernel) ?_ | refine Run.drawW rfl (by decide +kernel) ?_); conv => whnf) | fail)
    refine Run.bldr 50 5 9 90 .nilp .empty (MOle.refl _) (MOle.refl _) ?_
    refine ws9 .nilp .empty awLn rfl rfl rfl rfl rfl rfl (by decide) (.inl rfl) ?_
    refine Run.tidy [1, 9, 23, 24, 25] [9, 90] ?_; (conv => whnf)
    refine Run.go ?_; (conv => whnf); repeat' (first | ((with_reducible refine Know.mk fun _ => ?_); conv => whnf) | ((with_reducible refine Need.mk ?_ ?_); exact nd; conv => whnf) | ((with_reducible first | refine Both.mk ?_ ?_ | refine Any.mk fun b hb => ?_ | refine AskB.dec (fun hb => ?_) (fun hb => ?_) | refine AskB.ndec (fun hb => ?_) (fun hb => ?_) | refine AskB.mk (fun hb => ?_) (fun hb => ?_)) <;> conv => whnf) | ((with_reducible first | refine Run.drawX rfl (by decide +kernel) ?_ | refine Run.drawT rfl (by decide +kernel) ?_ | refine Run.drawW rfl (by decide +kernel) ?_); conv => whnf) | fail)
    refine Run.to _ _ ?_ ?_ IH
    · exact ⟨Le.refl _, Le.refl _, Le.refl _, Le.refl _, Le.int (by decide), trivial⟩
    · exact ⟨MOle.refl _, MOle.refl _, trivial⟩
  · show Run _ _ (lst (_ ++ [(25, .int .i64 ((1 : Nat) : Int))])) (lstH [(9, .box 50 [.box 9 0, .row 90]), (90, .row 5 1 awLn.size (bytesG awLn))])
    refine Run.go ?_; (conv => whnf); repeat' (first | ((with_reducible refine Know.mk fun _ => ?_); conv => whnf) | ((with_reducible refine Need.mk ?_ ?_); exact nd; conv => whnf) | ((with_reducible first | refine Both.mk ?_ ?_ | refine Any.mk fun b hb => ?_ | refine AskB.dec (fun hb => ?_) (fun hb => ?_) | refine AskB.ndec (fun hb => ?_) (fun hb => ?_) | refine AskB.mk (fun hb => ?_) (fun hb => ?_)) <;> conv => whnf) | ((with_reducible first | refine Run.drawX rfl (by decide +kernel) ?_ | refine Run.drawT rfl (by decide +kernel) ?_ | refine Run.drawW rfl (by decide +kernel) ?_); conv => whnf) | fail)
    all_goals try (exact absurd hb (by decide))
    refine Run.inline 900 Tryd.f16 _ 8 rfl rfl Tryd.func16 rfl (by decide) rfl (by show 1 ≤ 8; decide) rfl rfl (fun a hsz hdf => ?_)
    refine Run.go ?_; (conv => whnf); repeat' (first | ((with_reducible refine Know.mk fun _ => ?_); conv => whnf) | ((with_reducible refine Need.mk ?_ ?_); exact nd; conv => whnf) | ((with_reducible first | refine Both.mk ?_ ?_ | refine Any.mk fun b hb => ?_ | refine AskB.dec (fun hb => ?_) (fun hb => ?_) | refine AskB.ndec (fun hb => ?_) (fun hb => ?_) | refine AskB.mk (fun hb => ?_) (fun hb => ?_)) <;> conv => whnf) | ((with_reducible first | refine Run.drawX rfl (by decide +kernel) ?_ | refine Run.drawT rfl (by decide +kernel) ?_ | refine Run.drawW rfl (by decide +kernel) ?_); conv => whnf) | fail)
    refine Run.back 900 (ts := [2]) hsz hdf (.inr ⟨_, rfl⟩) (by rfl) Tryd.func16 rfl ?_
    have hlz : awLn.size = 12 := rfl
    refine Run.go ?_; (conv => whnf); repeat' (first | ((with_reducible refine Know.mk fun _ => ?_); conv => whnf) | ((with_reducible refine Need.mk ?_ ?_); exact nd; conv => whnf) | ((with_reducible first | refine Both.mk ?_ ?_ | refine Any.mk fun b hb => ?_ | refine AskB.dec (fun hb => ?_) (fun hb => ?_) | refine AskB.ndec (fun hb => ?_) (fun hb => ?_) | refine AskB.mk (fun hb => ?_) (fun hb => ?_)) <;> conv => whnf) | ((with_reducible first | refine Run.drawX rfl (by decide +kernel) ?_ | refine Run.drawT rfl (by decide +kernel) ?_ | refine Run.drawW rfl (by decide +kernel) ?_); conv => whnf) | fail)
    all_goals try (exfalso; omega)
    refine Run.bldr 50 5 9 90 (.box 9 0) awLn (MOle.refl _) (MOle.refl _) ?_
    refine bs9 (.box 9 0) _ rfl rfl rfl rfl rfl ?_
    refine Run.go ?_; (conv => whnf); repeat' (first | ((with_reducible refine Know.mk fun _ => ?_); conv => whnf) | ((with_reducible refine Need.mk ?_ ?_); exact nd; conv => whnf) | ((with_reducible first | refine Both.mk ?_ ?_ | refine Any.mk fun b hb => ?_ | refine AskB.dec (fun hb => ?_) (fun hb => ?_) | refine AskB.ndec (fun hb => ?_) (fun hb => ?_) | refine AskB.mk (fun hb => ?_) (fun hb => ?_)) <;> conv => whnf) | ((with_reducible first | refine Run.drawX rfl (by decide +kernel) ?_ | refine Run.drawT rfl (by decide +kernel) ?_ | refine Run.drawW rfl (by decide +kernel) ?_); conv => whnf) | fail)
    exact Run.leave (ts := [6,7]) (.inr ⟨_, rfl⟩) rfl Tryd.func7 rfl (resT ⟨Le.refl _, Le.refl _, trivial⟩)
end Go.Proofs.YteklnpgiloebcaaDoor.V

namespace Go.Proofs.YteklnpgiloebcaaDoor.V
set_option linter.unusedVariables false
set_option linter.unusedSimpArgs false
open Go Go.Proofs Go.RowKit
set_option maxRecDepth 100000
set_option maxHeartbeats 1000000
theorem ln9 {N : Nat} {w0 : World} {S : Nat → Prop} {gl : GlobOk S w0} {f : FuncId} {R : Ending → World → Prop} {kp : Kept} {ops : Array Oper} {i : Nat} {rest : List Nat} {k : List Item} {env : Env} {h : Heap} {o : Oper} {x : Operand}
    (p : AV) (t : ByteArray) (ho : ops.toList[i]? = some o) (hc : calls? o = some (16, [x])) (hd : okD ⟨Tryd.prog, TB, tbOk, N, w0, S, gl, f, R, kp⟩ o.dst = true) (hr : ready env ops o = true) (hx : ev (scrubE 900 env) x = .box 9 0)
    (hs : t.size ≤ 140737488355328) (hp : p = .nilp ∨ p = .box 9 0)
    (next : Run ⟨Tryd.prog, TB, tbOk, N, w0, S, gl, f, R, kp⟩ (.inRegion ops rest :: k) (putE (scrubE 900 env) o.dst (.int .i64 (t.size : Int))) (upd (bldr 50 5 9 90 (upd (scrubH 900 h) 900 .dead) p t) 900 .dead)) :
    Run ⟨Tryd.prog, TB, tbOk, N, w0, S, gl, f, R, kp⟩ (.inRegion ops (i :: rest) :: k) env (bldr 50 5 9 90 h p t) := by
  have hpp : scrub 900 p = p := by rcases hp with rfl | rfl <;> rfl
  rw [← hpp] at next
  refine Run.inline 900 Tryd.f16 _ 8 ho hc Tryd.func16 rfl (by decide) rfl (by show 1 ≤ 8; decide) hd hr (fun a hsz hdf => ?_)
  simp only [List.map, hx]
  refine Run.go ?_; (conv => whnf); repeat' (first | ((with_reducible refine Know.mk fun _ => ?_); conv => whnf) | ((with_reducible refine Need.mk ?_ ?_); exact nd; conv => whnf) | ((with_reducible first | refine Both.mk ?_ ?_ | refine Any.mk fun b hb => ?_ | refine AskB.dec (fun hb => ?_) (fun hb => ?_) | refine AskB.ndec (fun hb => ?_) (fun hb => ?_) | refine AskB.mk (fun hb => ?_) (fun hb => ?_)) <;> conv => whnf) | ((with_reducible first | refine Run.drawX rfl (by decide +kernel) ?_ | refine Run.drawT rfl (by decide +kernel) ?_ | refine Run.drawW rfl (by decide +kernel) ?_); conv => whnf) | fail)
  refine Run.back 900 (ts := [2]) hsz hdf (.inr ⟨_, rfl⟩) (by rfl) Tryd.func16 rfl ?_
  refine Run.weaken (fun i => Le.refl _) (fun id => ?_) next
  unfold bldr
  cases e5 : Nat.beq id 9 with
  | true => have := Nat.eq_of_beq_eq_true e5; subst this; exact MOle.refl _
  | false =>
  cases e90 : Nat.beq id 90 with
  | true => have := Nat.eq_of_beq_eq_true e90; subst this; exact MOle.refl _
  | false =>
  cases e900 : Nat.beq id 900 with
  | true => simp only [upd, e5, e90, e900, cond_true, cond_false]; exact mole_dead _
  | false =>
    simp only [upd, scrubH, bldr, e5, e90, e900, cond_true, cond_false]
    exact MOle.refl _
theorem en_le {g : Nat → AV} {e : En} (h0 : Le (g 0) (.int .i64 e.col)) (h1 : Le (g 1) (tRd.L e.rds)) : Le (.agg 2 g) (.agg 2 (tEn.enc e)) := Le.agg fun j hj => by
  match j, hj with
  | 0, _ => exact h0
  | 1, _ => exact h1
theorem chk_zero {es : List En} {n c : Int} (h : chk es n c = 0) : c ≤ 4096 ∧ Good n c es := by
  unfold chk at h
  split at h
  · cases h
  · split at h
    · exact ⟨by omega, by assumption⟩
    · cases h
theorem print17_fn (es : List En) (names : List ByteArray) (c : Int) (hl : es.length ≤ 2000000) (hn : names.length ≤ 2000000) (hns : ∀ s ∈ names, s.size ≤ 2000000) (htx : ∀ e ∈ es, ∀ r ∈ e.rds, r.text.size ≤ 2000000) (htot : (∀ e ∈ es, EnFit names e) → (prT names es).length ≤ 20000000000) :
    Fn Tryd.prog 7 [tEn.L es, tS.L names, .int .i64 c] (prA es names c) := by
  have hnf := named17_fn names hn hns
  have hcf := appCheck_fn es names.length c
  unfold prA prB
  cases hnm : nmOk names with
  | false =>
    rw [hnm] at hnf
    rw [if_neg (show ¬ (false = true) by decide)]
    refine Fn.of Tryd.f7 _ Tryd.func7 rfl (by decide) (by show 3 ≤ _; decide) tbOk 37 rfl fun S w0 gl => ?_
    refine Run.go ?_; (conv => whnf); repeat' (first | ((with_reducible refine Know.mk fun _ => ?_); conv => whnf) | ((with_reducible refine Need.mk ?_ ?_); exact nd; conv => whnf) | ((with_reducible first | refine Both.mk ?_ ?_ | refine Any.mk fun b hb => ?_ | refine AskB.dec (fun hb => ?_) (fun hb => ?_) | refine AskB.ndec (fun hb => ?_) (fun hb => ?_) | refine AskB.mk (fun hb => ?_) (fun hb => ?_)) <;> conv => whnf) | ((with_reducible first | refine Run.drawX rfl (by decide +kernel) ?_ | refine Run.drawT rfl (by decide +kernel) ?_ | refine Run.drawW rfl (by decide +kernel) ?_); conv => whnf) | fail)
    refine Run.callBX hnf rfl rfl ⟨Le.refl _, trivial⟩ rfl rfl rfl ?_
    (conv => whnf); repeat' (first | ((with_reducible refine Know.mk fun _ => ?_); conv => whnf) | ((with_reducible refine Need.mk ?_ ?_); exact nd; conv => whnf) | ((with_reducible first | refine Both.mk ?_ ?_ | refine Any.mk fun b hb => ?_ | refine AskB.dec (fun hb => ?_) (fun hb => ?_) | refine AskB.ndec (fun hb => ?_) (fun hb => ?_) | refine AskB.mk (fun hb => ?_) (fun hb => ?_)) <;> conv => whnf) | ((with_reducible first | refine Run.drawX rfl (by decide +kernel) ?_ | refine Run.drawT rfl (by decide +kernel) ?_ | refine Run.drawW rfl (by decide +kernel) ?_); conv => whnf) | fail)
    · exact Run.leave (ts := [6,7]) (.inr ⟨_, rfl⟩) rfl Tryd.func7 rfl (resT ⟨Le.refl _, Le.refl _, trivial⟩)
    all_goals exact absurd (by assumption : (!false) = false) (by decide)
  | true =>
    rw [hnm] at hnf
    rw [if_pos rfl]
    by_cases hck : chk es names.length c = 0
    · rw [hck] at hcf
      rw [if_pos hck]
      obtain ⟨hc4, hgood⟩ := chk_zero hck
      have hfit : ∀ e ∈ es, EnFit names e := fun e he => enFit hnm hc4 hgood htx he
      have htot := htot hfit
      refine Fn.of Tryd.f7 _ Tryd.func7 rfl (by decide) (by show 3 ≤ _; decide) tbOk 37 rfl fun S w0 gl => ?_
      refine Run.go ?_; (conv => whnf); repeat' (first | ((with_reducible refine Know.mk fun _ => ?_); conv => whnf) | ((with_reducible refine Need.mk ?_ ?_); exact nd; conv => whnf) | ((with_reducible first | refine Both.mk ?_ ?_ | refine Any.mk fun b hb => ?_ | refine AskB.dec (fun hb => ?_) (fun hb => ?_) | refine AskB.ndec (fun hb => ?_) (fun hb => ?_) | refine AskB.mk (fun hb => ?_) (fun hb => ?_)) <;> conv => whnf) | ((with_reducible first | refine Run.drawX rfl (by decide +kernel) ?_ | refine Run.drawT rfl (by decide +kernel) ?_ | refine Run.drawW rfl (by decide +kernel) ?_); conv => whnf) | fail)
      refine Run.callBX hnf rfl rfl ⟨Le.refl _, trivial⟩ rfl rfl rfl ?_
      (conv => whnf); repeat' (first | ((with_reducible refine Know.mk fun _ => ?_); conv => whnf) | ((with_reducible refine Need.mk ?_ ?_); exact nd; conv => whnf) | ((with_reducible first | refine Both.mk ?_ ?_ | refine Any.mk fun b hb => ?_ | refine AskB.dec (fun hb => ?_) (fun hb => ?_) | refine AskB.ndec (fun hb => ?_) (fun hb => ?_) | refine AskB.mk (fun hb => ?_) (fun hb => ?_)) <;> conv => whnf) | ((with_reducible first | refine Run.drawX rfl (by decide +kernel) ?_ | refine Run.drawT rfl (by decide +kernel) ?_ | refine Run.drawW rfl (by decide +kernel) ?_); conv => whnf) | fail)
      · exact absurd (by assumption : (!true) = true) (by decide)
      refine Run.callBX hcf rfl rfl ⟨Le.refl _, Le.refl _, Le.refl _, trivial⟩ rfl rfl rfl ?_
      (conv => whnf); repeat' (first | ((with_reducible refine Know.mk fun _ => ?_); conv => whnf) | ((with_reducible refine Need.mk ?_ ?_); exact nd; conv => whnf) | ((with_reducible first | refine Both.mk ?_ ?_ | refine Any.mk fun b hb => ?_ | refine AskB.dec (fun hb => ?_) (fun hb => ?_) | refine AskB.ndec (fun hb => ?_) (fun hb => ?_) | refine AskB.mk (fun hb => ?_) (fun hb => ?_)) <;> conv => whnf) | ((with_reducible first | refine Run.drawX rfl (by decide +kernel) ?_ | refine Run.drawT rfl (by decide +kernel) ?_ | refine Run.drawW rfl (by decide +kernel) ?_); conv => whnf) | fail)
      rotate_left
      · exact absurd rfl (by assumption)
      refine Run.holdBoxNil 9 1 90 5 1 (bytesG .empty) rfl rfl rfl rfl ?_
      refine Run.loop [1, 9, 23, 24] (fun (a : Nat × AV) => [(25, .int .i64 (a.1 : Int))]) (fun a => [(9, .box 50 [a.2, .row 90]), (90, .row 5 1 (bs (prT names (es.take a.1))).size (bytesG (bs (prT names (es.take a.1)))))]) (fun a => a.1 ≤ es.length ∧ (a.2 = .nilp ∨ a.2 = .box 9 0)) (fun a => es.length - a.1) (0, .nilp) ⟨Nat.zero_le _, .inl rfl⟩ ⟨Le.refl _, trivial⟩ ⟨MOle.refl _, MOle.refl _, trivial⟩ ?_
      intro ⟨i, q⟩ ⟨hi, hq⟩ IH
      simp only [] at hi hq ⊢
      have hw1 : IntKind.i64.wrap ((i : Int) + 1) = ((i + 1 : Nat) : Int) := wrap64 (by omega) (by omega)
      have hpr := prT_pre names es i
      have hXs := bs_size (prT names (es.take i))
      by_cases hil : i < es.length
      · have hem := getD_mem (z := tEn.z) i hil
        have hln := line_fn names _ (hfit _ hem)
        have hpr2 := prT_pre names es (i + 1)
        have IH := fun z h => IH (i + 1, z) (by simp only []; omega) h
        simp only [] at IH
        rw [prT_take names es i hil] at IH hpr2
        have hLs := bs_size (lnB names (es.getD i tEn.z))
        rw [List.length_append] at hpr2
        generalize prT names (es.take i) = X at *
        refine Run.go ?_; (conv => whnf); repeat' (first | ((with_reducible refine Know.mk fun _ => ?_); conv => whnf) | ((with_reducible refine Need.mk ?_ ?_); exact nd; conv => whnf) | ((with_reducible first | refine Both.mk ?_ ?_ | refine Any.mk fun b hb => ?_ | refine AskB.dec (fun hb => ?_) (fun hb => ?_) | refine AskB.ndec (fun hb => ?_) (fun hb => ?_) | refine AskB.mk (fun hb => ?_) (fun hb => ?_)) <;> conv => whnf) | ((with_reducible first | refine Run.drawX rfl (by decide +kernel) ?_ | refine Run.drawT rfl (by decide +kernel) ?_ | refine Run.drawW rfl (by decide +kernel) ?_); conv => whnf) | fail)
        all_goals try (exfalso; omega)
        refine Run.callBX hln rfl rfl ⟨en_le (Le.refl _) (Le.refl _), Le.refl _, trivial⟩ rfl rfl rfl ?_
        (conv => whnf); repeat' (first | ((with_reducible refine Know.mk fun _ => ?_); conv => whnf) | ((with_reducible refine Need.mk ?_ ?_); exact nd; conv => whnf) | ((with_reducible first | refine Both.mk ?_ ?_ | refine Any.mk fun b hb => ?_ | refine AskB.dec (fun hb => ?_) (fun hb => ?_) | refine AskB.ndec (fun hb => ?_) (fun hb => ?_) | refine AskB.mk (fun hb => ?_) (fun hb => ?_)) <;> conv => whnf) | ((with_reducible first | refine Run.drawX rfl (by decide +kernel) ?_ | refine Run.drawT rfl (by decide +kernel) ?_ | refine Run.drawW rfl (by decide +kernel) ?_); conv => whnf) | fail)
        refine Run.bldr 50 5 9 90 q (bs X) (by rcases hq with rfl | rfl <;> exact MOle.refl _) (MOle.refl _) ?_
        refine ws9 q _ (bs (lnB names (es.getD i tEn.z))) rfl rfl rfl rfl rfl rfl (by omega) hq ?_
        refine Run.tidy [1, 9, 23, 24, 25] [9, 90] ?_; (conv => whnf)
        refine Run.go ?_; (conv => whnf); repeat' (first | ((with_reducible refine Know.mk fun _ => ?_); conv => whnf) | ((with_reducible refine Need.mk ?_ ?_); exact nd; conv => whnf) | ((with_reducible first | refine Both.mk ?_ ?_ | refine Any.mk fun b hb => ?_ | refine AskB.dec (fun hb => ?_) (fun hb => ?_) | refine AskB.ndec (fun hb => ?_) (fun hb => ?_) | refine AskB.mk (fun hb => ?_) (fun hb => ?_)) <;> conv => whnf) | ((with_reducible first | refine Run.drawX rfl (by decide +kernel) ?_ | refine Run.drawT rfl (by decide +kernel) ?_ | refine Run.drawW rfl (by decide +kernel) ?_); conv => whnf) | fail)
        refine Run.to _ _ ?_ ?_ (IH (.box 9 0) ⟨by omega, .inr rfl⟩)
        · exact ⟨Le.refl _, Le.refl _, Le.refl _, Le.refl _, Le.int hw1, trivial⟩
        · refine ⟨MOle.refl _, ?_, trivial⟩
          rw [bsA]
          exact MOle.refl _
      · obtain rfl : i = es.length := by omega
        rw [List.take_length] at *
        refine Run.go ?_; (conv => whnf); repeat' (first | ((with_reducible refine Know.mk fun _ => ?_); conv => whnf) | ((with_reducible refine Need.mk ?_ ?_); exact nd; conv => whnf) | ((with_reducible first | refine Both.mk ?_ ?_ | refine Any.mk fun b hb => ?_ | refine AskB.dec (fun hb => ?_) (fun hb => ?_) | refine AskB.ndec (fun hb => ?_) (fun hb => ?_) | refine AskB.mk (fun hb => ?_) (fun hb => ?_)) <;> conv => whnf) | ((with_reducible first | refine Run.drawX rfl (by decide +kernel) ?_ | refine Run.drawT rfl (by decide +kernel) ?_ | refine Run.drawW rfl (by decide +kernel) ?_); conv => whnf) | fail)
        all_goals try (exfalso; omega)
        refine Run.bldr 50 5 9 90 q (bs (prT names es)) (MOle.refl _) (MOle.refl _) ?_
        refine ln9 q _ rfl rfl rfl rfl rfl (by omega) hq ?_
        refine Run.go ?_; (conv => whnf); repeat' (first | ((with_reducible refine Know.mk fun _ => ?_); conv => whnf) | ((with_reducible refine Need.mk ?_ ?_); exact nd; conv => whnf) | ((with_reducible first | refine Both.mk ?_ ?_ | refine Any.mk fun b hb => ?_ | refine AskB.dec (fun hb => ?_) (fun hb => ?_) | refine AskB.ndec (fun hb => ?_) (fun hb => ?_) | refine AskB.mk (fun hb => ?_) (fun hb => ?_)) <;> conv => whnf) | ((with_reducible first | refine Run.drawX rfl (by decide +kernel) ?_ | refine Run.drawT rfl (by decide +kernel) ?_ | refine Run.drawW rfl (by decide +kernel) ?_); conv => whnf) | fail)
        · rw [if_pos (by omega)]
          exact Run.leave (ts := [6,7]) (.inr ⟨_, rfl⟩) rfl Tryd.func7 rfl (resT ⟨Le.refl _, Le.refl _, trivial⟩)
        · rw [if_neg (by omega)]
          refine Run.bldr 50 5 9 90 q (bs (prT names es)) (MOle.refl _) (MOle.refl _) ?_
          refine bs9 q _ rfl rfl rfl rfl rfl ?_
          refine Run.go ?_; (conv => whnf); repeat' (first | ((with_reducible refine Know.mk fun _ => ?_); conv => whnf) | ((with_reducible refine Need.mk ?_ ?_); exact nd; conv => whnf) | ((with_reducible first | refine Both.mk ?_ ?_ | refine Any.mk fun b hb => ?_ | refine AskB.dec (fun hb => ?_) (fun hb => ?_) | refine AskB.ndec (fun hb => ?_) (fun hb => ?_) | refine AskB.mk (fun hb => ?_) (fun hb => ?_)) <;> conv => whnf) | ((with_reducible first | refine Run.drawX rfl (by decide +kernel) ?_ | refine Run.drawT rfl (by decide +kernel) ?_ | refine Run.drawW rfl (by decide +kernel) ?_); conv => whnf) | fail)
          exact Run.leave (ts := [6,7]) (.inr ⟨_, rfl⟩) rfl Tryd.func7 rfl (resT ⟨Le.refl _, Le.refl _, trivial⟩)
    · rw [if_neg hck]
      generalize chk es names.length c = k at *
      refine Fn.of Tryd.f7 _ Tryd.func7 rfl (by decide) (by show 3 ≤ _; decide) tbOk 37 rfl fun S w0 gl => ?_
      refine Run.go ?_; (conv => whnf); repeat' (first | ((with_reducible refine Know.mk fun _ => ?_); conv => whnf) | ((with_reducible refine Need.mk ?_ ?_); exact nd; conv => whnf) | ((with_reducible first | refine Both.mk ?_ ?_ | refine Any.mk fun b hb => ?_ | refine AskB.dec (fun hb => ?_) (fun hb => ?_) | refine AskB.ndec (fun hb => ?_) (fun hb => ?_) | refine AskB.mk (fun hb => ?_) (fun hb => ?_)) <;> conv => whnf) | ((with_reducible first | refine Run.drawX rfl (by decide +kernel) ?_ | refine Run.drawT rfl (by decide +kernel) ?_ | refine Run.drawW rfl (by decide +kernel) ?_); conv => whnf) | fail)
      refine Run.callBX hnf rfl rfl ⟨Le.refl _, trivial⟩ rfl rfl rfl ?_
      (conv => whnf); repeat' (first | ((with_reducible refine Know.mk fun _ => ?_); conv => whnf) | ((with_reducible refine Need.mk ?_ ?_); exact nd; conv => whnf) | ((with_reducible first | refine Both.mk ?_ ?_ | refine Any.mk fun b hb => ?_ | refine AskB.dec (fun hb => ?_) (fun hb => ?_) | refine AskB.ndec (fun hb => ?_) (fun hb => ?_) | refine AskB.mk (fun hb => ?_) (fun hb => ?_)) <;> conv => whnf) | ((with_reducible first | refine Run.drawX rfl (by decide +kernel) ?_ | refine Run.drawT rfl (by decide +kernel) ?_ | refine Run.drawW rfl (by decide +kernel) ?_); conv => whnf) | fail)
      · exact absurd (by assumption : (!true) = true) (by decide)
      refine Run.callBX hcf rfl rfl ⟨Le.refl _, Le.refl _, Le.refl _, trivial⟩ rfl rfl rfl ?_
      (conv => whnf); repeat' (first | ((with_reducible refine Know.mk fun _ => ?_); conv => whnf) | ((with_reducible refine Need.mk ?_ ?_); exact nd; conv => whnf) | ((with_reducible first | refine Both.mk ?_ ?_ | refine Any.mk fun b hb => ?_ | refine AskB.dec (fun hb => ?_) (fun hb => ?_) | refine AskB.ndec (fun hb => ?_) (fun hb => ?_) | refine AskB.mk (fun hb => ?_) (fun hb => ?_)) <;> conv => whnf) | ((with_reducible first | refine Run.drawX rfl (by decide +kernel) ?_ | refine Run.drawT rfl (by decide +kernel) ?_ | refine Run.drawW rfl (by decide +kernel) ?_); conv => whnf) | fail)
      all_goals try exact absurd (by assumption) hck
      exact Run.leave (ts := [6,7]) (.inr ⟨_, rfl⟩) rfl Tryd.func7 rfl (resT ⟨Le.refl _, Le.refl _, trivial⟩)
end Go.Proofs.YteklnpgiloebcaaDoor.V

namespace Go.Proofs.YteklnpgiloebcaaDoor.V
set_option linter.unusedVariables false
set_option linter.unusedSimpArgs false
open Go Go.Proofs Go.RowKit
section
variable {C : Ctx} {h : Heap}
/-- Among draws: a row built anew that nobody will change: it reads as a slice like any other. -/
theorem quiet_fresh {o : Oper} {d t n : Nat} {ps : Array (Nat × Operand)} {ρ : Operand → AV} {e sz : Nat} {get : Nat → Nat → AV} (hop : o.op = .buildSlice t n ps) (himm : ∀ p ∈ ps.toList, imm (ρ p.2) = true)
    (hq : ∀ (K : Env → Heap → AV → Prop) stop, K (scrubE d (fun _ => .u)) (upd (upd (scrubH d noObjs) d .dead) d (.row e sz n get)) (.row d) → abuildSlice C.T t d n (ps.toList.map fun p => (p.1, ρ p.2)) (fun _ => .u) noObjs K stop) : Quiet C h o ρ (.sl n sz get) := by
  intro env ι a w R hρ b k cs ops i rest ho hw
  let C2 : Ctx := { C with w0 := w, S := okB C h ι w, glob := R.globOk, N := a.tmps.size, kp := ⟨a.defers, [], .normal⟩ }
  have R2 : Rel C2 (fun _ => .u) noObjs (fun _ _ => .nilIface) a w := ⟨Below.refl _ _, ⟨rfl, fun _ h => nomatch h⟩, rfl, fun _ => trivial, fun _ => trivial, fun _ _ => rfl, fun id hl => absurd rfl hl, fun id id' hl => absurd rfl hl⟩
  have hvs : ∀ (k : Nat) p q, (ps.toList.map fun p => (p.1, ρ p.2))[k]? = some p → (ps.map fun (i, x) => (i, a.eval x))[k]? = some q → p.1 = q.1 ∧ VR w (okB C2 noObjs (fun _ _ => .nilIface) w) p.2 (rf noObjs (fun _ _ => .nilIface)) q.2 := by
    intro k p q hp hqq
    rw [List.getElem?_map] at hp
    rw [Array.getElem?_map, ← Array.getElem?_toList] at hqq
    cases hk : ps.toList[k]? with
    | none => rw [hk] at hp; cases hp
    | some y =>
      rw [hk] at hp hqq
      cases hp; cases hqq
      have hm := List.mem_of_getElem? hk
      refine ⟨rfl, ?_⟩
      have hv := hρ y.2 (by rw [hop]; simp only [Op.operands]; rw [List.mem_toArray]; exact List.mem_map.mpr ⟨y, hm, rfl⟩)
      exact VR.mono (fun b hb => ⟨hb.1, .inl hb, fun id hl => absurd rfl hl⟩) (fun _ _ => rfl) _ _ _ _ (fun _ _ h => False.elim h) (imm_ok _ _ noref _ (himm y hm) hv)
  rcases abuildSlice_ok (K := fun env' h' x => h' = upd (upd (scrubH d noObjs) d .dead) d (.row e sz n get) ∧ x = .row d) R2 (by simp) hvs (hq _ False ⟨rfl, rfl⟩) with hf | ⟨v, w', ι', env', h', x, hr, R', hv, rfl, rfl⟩
  · exact hf.elim
  have hb : Below w.heap.size w w' := R'.below
  have hst := step_op_ok (P := C.P) (b := b) (a := a) (k := k) (cs := cs) (rest := rest) (nx := .value v) (v := v) ho hw (show (execOp a.eval o).run C.P w = .ok (.value v) w' by
    have hr' : (Instr.buildSlice t n (ps.map fun (i, x) => (i, a.eval x))).run C.P w = .ok v w' := hr
    simp only [execOp, hop, Sem.run_bind, hr', Result.andThen_ok]; rfl) (.inl rfl)
  refine ⟨v, w', ι, .one hst, R.grow hb, ?_⟩
  have hvv : v = ι' d 0 := hv
  rw [hvv]
  have hnew : ∀ g, w.heap.size ≤ g → g < w'.heap.size → okB C h ι w' g := fun g h1 h2 => ⟨h2, .inr (Nat.le_trans R.below.size h1), fun id hl ho => by have := (R.base id hl g ho).2; omega⟩
  refine row_sl R' (id := d) (upd_same _ _ _) (fun g hg => ?_) (fun g hg => ?_) _
  · rcases hg.2.1 with h1 | h1
    · exact ⟨hg.1, h1.2.1, h1.2.2⟩
    · exact hnew g h1 hg.1
  · have := R'.base d (by rw [upd_same]; simp) g hg
    exact hnew g this.1 this.2
end
/-- Among draws: a text made of bytes that nobody changes. -/
theorem quiet_str {C : Ctx} {h : Heap} {o : Oper} {ρ : Operand → AV} {src dst e : TypeId} {x : Operand} {n : Nat} {get : Nat → Nat → AV} (s : ByteArray) (hop : o.op = .convert src dst x) (hx : ρ x = .sl n 1 get) (hs : s.size = n) (hn : 0 < n) (hget : ∀ i, i < n → get i 0 = .int .u8 (bt s i))
    (hsrc : C.P.underlying src = some (.slice e)) (he : C.P.underlying e = some (.int .u8)) (hdst : C.P.underlying dst = some .string) : Quiet C h o ρ (.str s) :=
  Quiet.of fun env ι a w R hρ => .inr (by
    have hv := hρ x (by rw [hop]; simp [Op.operands])
    rw [hx] at hv
    obtain ⟨A, c, hv0, hnc, hcm, _, hcells⟩ := hv
    obtain ⟨ad, rfl, hok, hcs⟩ := hcells hn
    refine OpOut.of (s := convert src dst (a.eval x)) (by simp [execOp, hop]) (Out.same R ⟨rfl, rfl, rfl⟩ (v := .string s) ?_ ⟨rfl, by omega⟩)
    rw [hv0]
    have hs' : (⟨s.data.toList.toArray⟩ : ByteArray) = s := by simp
    have hlen : s.data.toList.length = n := by rw [← hs]; rfl
    have := run_convert_bytes_back (P := C.P) w src dst e ad c s.data.toList hsrc he hdst (fun j hj => by
      have hjn : j < n := by omega
      obtain ⟨cv, c1, c0, c2⟩ := hcs j 0 hjn (by omega)
      rw [hget j hjn] at c2
      have c2' : cv = .int .u8 (bt s j) := c2
      rw [Nat.mul_one, Nat.add_zero] at c1
      rw [c1, c2']
      unfold bt
      rw [List.getD, List.getElem?_eq_getElem hj]; rfl)
    rw [hlen, hs'] at this
    exact this)
end Go.Proofs.YteklnpgiloebcaaDoor.V

