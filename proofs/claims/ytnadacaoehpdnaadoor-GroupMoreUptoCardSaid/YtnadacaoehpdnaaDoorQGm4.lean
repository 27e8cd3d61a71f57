/-
The texts BTc, BGb, BGc, BGd, BGe, BGf, BGh, BGj, BTe, of each what the law needs.
-/
import Derived.Test.YtnadacaoehpdnaaDoorQGm3
namespace Go.Proofs.YtnadacaoehpdnaaDoor.V
set_option linter.unusedVariables false
set_option linter.unusedSimpArgs false
open Go Go.Proofs Go.RowKit
set_option maxRecDepth 100000
set_option maxHeartbeats 4000000
theorem tot_le {t : Tab} (hf : FitT t) : ∀ n, n ≤ t.wits.length → sumR (lens t) n ≤ n * 2000000
  | 0, _ => by simp [sumR]
  | n + 1, h => by
    have h1 := tot_le hf n (by omega)
    have h2 := (hf.wit (t.wits.getD n wit0) (getD_mem' n (by omega))).2.1
    simp only [sumR, lens, witAt] at *
    rw [Nat.add_mul]; omega
theorem ins_mem {α : Type} [DecidableEq α] (k : α) : ∀ (l : List α) (x : α), x ∈ ins k l ↔ x = k ∨ x ∈ l
  | [], x => by simp [ins]
  | p :: l, x => by
    unfold ins
    split
    · rename_i e; subst e; simp
    · rw [List.mem_cons, ins_mem k l x, List.mem_cons]
      constructor
      · rintro (h | h | h)
        · exact .inr (.inl h)
        · exact .inl h
        · exact .inr (.inr h)
      · rintro (h | h | h)
        · exact .inr (.inl h)
        · exact .inl h
        · exact .inr (.inr h)
theorem check_fn (t : Tab) (hf : FitT t) : Fn Tryd.prog 18 [tbA t] (.int .i64 (chkT t)) := by
  refine Fn.of Tryd.f18 _ Tryd.func18 rfl (by decide) (by show 1 ≤ _; decide) tbOk 124 rfl fun S w0 gl => ?_
  have hno : ∀ {P : Prop}, (OkT t → ¬ P) → P → chkT t = 121 := fun h p => chk_no (fun o => h o p)
  have hfw := hf.wits
  have hfc := hf.cols
  refine Run.go ?_; (conv => whnf); repeat' (first | ((with_reducible refine Know.mk fun _ => ?_); conv => whnf) | ((with_reducible refine Need.mk ?_ ?_); (first | omega | (dsimp only; omega) | decide | exact bytes_le (by rfl) (by omega) | exact ⟨rfl, by omega, bytes_le (by rfl) (by omega), by omega⟩ | (refine ⟨?_, ?_⟩ <;> (rw [wrap64 (by omega) (by omega)]; omega))); conv => whnf) | ((with_reducible first | refine Both.mk ?_ ?_ | refine Any.mk fun b hb => ?_ | refine AskB.dec (fun hb => ?_) (fun hb => ?_) | refine AskB.ndec (fun hb => ?_) (fun hb => ?_) | refine AskB.mk (fun hb => ?_) (fun hb => ?_)) <;> conv => whnf) | ((with_reducible first | refine Run.drawX rfl (by decide +kernel) ?_ | refine Run.drawT rfl (by decide +kernel) ?_ | refine Run.drawW rfl (by decide +kernel) ?_); conv => whnf) | fail)
  · exact Run.leave (ts := [2]) (.inr ⟨_, rfl⟩) rfl Tryd.func18 rfl (Le.int (hno (fun o h => by have := o.n1; omega) hb).symm)
  · exact Run.leave (ts := [2]) (.inr ⟨_, rfl⟩) rfl Tryd.func18 rfl (Le.int (hno (fun o h => by have := o.n12; omega) hb).symm)
  · exact Run.leave (ts := [2]) (.inr ⟨_, rfl⟩) rfl Tryd.func18 rfl (Le.int (hno (fun o h => by have := o.nc; omega) hb).symm)
  have hn1 : 1 ≤ t.wits.length := by omega
  have hn12 : t.wits.length ≤ 12 := by omega
  have hnc : t.cols.length ≤ 4096 := by omega
  have htl := tot_le hf
  refine Run.loop [3, 31, 32] (fun (a : Nat × List ByteArray) => [(1, .box 1 0), (4, .int .i64 ((sumR (lens t) a.1 : Nat) : Int)), (33, .int .i64 (a.1 : Int))]) (fun a => [(1, .box 25 [tWit.L t.wits, tIL.L t.cols]), (29, .mp (.sb a.2))])
    (fun a => a.1 ≤ t.wits.length ∧ (∀ i, i < a.1 → WitOk t i) ∧ ∀ s, s ∈ a.2 ↔ ∃ k, k < a.1 ∧ (witAt t k).name = s) (fun a => t.wits.length - a.1) (0, []) ⟨Nat.zero_le _, fun i hi => absurd hi (Nat.not_lt_zero _), fun s => ⟨fun h => (by cases h), fun ⟨k, hk, _⟩ => absurd hk (Nat.not_lt_zero _)⟩⟩
    ⟨Le.refl _, Le.refl _, Le.refl _, trivial⟩ ⟨MOle.refl _, MOle.refl _, trivial⟩ ?_
  intro ⟨i, l⟩ ⟨hi, hwk, hl⟩ IH
  simp only [] at hi hwk hl ⊢
  have hwi : IntKind.i64.wrap ((i : Int) + 1) = ((i + 1 : Nat) : Int) := wrap64 (by omega) (by omega)
  have hti := htl i hi
  refine Run.go ?_; (conv => whnf); repeat' (first | ((with_reducible refine Know.mk fun _ => ?_); conv => whnf) | ((with_reducible refine Need.mk ?_ ?_); (first | omega | (dsimp only; omega) | decide | exact bytes_le (by rfl) (by omega) | exact ⟨rfl, by omega, bytes_le (by rfl) (by omega), by omega⟩ | (refine ⟨?_, ?_⟩ <;> (rw [wrap64 (by omega) (by omega)]; omega))); conv => whnf) | ((with_reducible first | refine Both.mk ?_ ?_ | refine Any.mk fun b hb => ?_ | refine AskB.dec (fun hb => ?_) (fun hb => ?_) | refine AskB.ndec (fun hb => ?_) (fun hb => ?_) | refine AskB.mk (fun hb => ?_) (fun hb => ?_)) <;> conv => whnf) | ((with_reducible first | refine Run.drawX rfl (by decide +kernel) ?_ | refine Run.drawT rfl (by decide +kernel) ?_ | refine Run.drawW rfl (by decide +kernel) ?_); conv => whnf) | fail)
  · have hil : i < t.wits.length := by omega
    have hwt := hf.wit (witAt t i) (getD_mem' i hil)
    refine Run.callBX (named_fn (witAt t i).name) rfl rfl ⟨Le.refl _, trivial⟩ rfl rfl rfl ?_
    (conv => whnf); repeat' (first | ((with_reducible refine Know.mk fun _ => ?_); conv => whnf) | ((with_reducible refine Need.mk ?_ ?_); (first | omega | (dsimp only; omega) | decide | exact bytes_le (by rfl) (by omega) | exact ⟨rfl, by omega, bytes_le (by rfl) (by omega), by omega⟩ | (refine ⟨?_, ?_⟩ <;> (rw [wrap64 (by omega) (by omega)]; omega))); conv => whnf) | ((with_reducible first | refine Both.mk ?_ ?_ | refine Any.mk fun b hb => ?_ | refine AskB.dec (fun hb => ?_) (fun hb => ?_) | refine AskB.ndec (fun hb => ?_) (fun hb => ?_) | refine AskB.mk (fun hb => ?_) (fun hb => ?_)) <;> conv => whnf) | ((with_reducible first | refine Run.drawX rfl (by decide +kernel) ?_ | refine Run.drawT rfl (by decide +kernel) ?_ | refine Run.drawW rfl (by decide +kernel) ?_); conv => whnf) | fail)
    · have hk : ¬ WitOk t i := fun h => by
        have hd := (hasK_iff _ _).mp hb
        obtain ⟨k, hk1, hk2⟩ := (hl _).mp hd
        exact h.2.2 k hk1 hk2
      exact Run.leave (ts := [2]) (.inr ⟨_, rfl⟩) rfl Tryd.func18 rfl (Le.int (hno (fun o h => h (o.wit i hil)) hk).symm)
    · refine Run.callBX (right19_fn (witAt t i).head (witAt t i).words hwt.1) rfl rfl ⟨Le.refl _, Le.refl _, trivial⟩ rfl rfl rfl ?_
      (conv => whnf); repeat' (first | ((with_reducible refine Know.mk fun _ => ?_); conv => whnf) | ((with_reducible refine Need.mk ?_ ?_); (first | omega | (dsimp only; omega) | decide | exact bytes_le (by rfl) (by omega) | exact ⟨rfl, by omega, bytes_le (by rfl) (by omega), by omega⟩ | (refine ⟨?_, ?_⟩ <;> (rw [wrap64 (by omega) (by omega)]; omega))); conv => whnf) | ((with_reducible first | refine Both.mk ?_ ?_ | refine Any.mk fun b hb => ?_ | refine AskB.dec (fun hb => ?_) (fun hb => ?_) | refine AskB.ndec (fun hb => ?_) (fun hb => ?_) | refine AskB.mk (fun hb => ?_) (fun hb => ?_)) <;> conv => whnf) | ((with_reducible first | refine Run.drawX rfl (by decide +kernel) ?_ | refine Run.drawT rfl (by decide +kernel) ?_ | refine Run.drawW rfl (by decide +kernel) ?_); conv => whnf) | fail)
      · have hk : ¬ WitOk t i := fun h => by rw [h.2.1] at hb; cases hb
        exact Run.leave (ts := [2]) (.inr ⟨_, rfl⟩) rfl Tryd.func18 rfl (Le.int (hno (fun o h => h (o.wit i hil)) hk).symm)
      · have hwt2 := hwt.2.1
        have hok : WitOk t i := ⟨by assumption, by simpa using hb, fun k hk e => (hasK_not _ _).mp (by assumption) ((hl _).mpr ⟨k, hk, e⟩)⟩
        refine Run.to _ _ ?_ ?_ (IH (i + 1, ins (witAt t i).name l) (by simp only []; omega) ⟨by simp only []; omega, fun k hk => ?_, fun s => ?_⟩)
        · refine ⟨Le.refl _, Le.refl _, Le.refl _, Le.refl _, Le.int ?_, Le.int hwi, trivial⟩
          show IntKind.i64.wrap ((sumR (lens t) i : Nat) + ((witAt t i).words.length : Int)) = _
          rw [wrap64 (by omega) (by omega)]
          simp only [sumR, lens]; omega
        · exact ⟨MOle.refl _, MOle.refl _, trivial⟩
        · by_cases e : k = i
          · subst e; exact hok
          · exact hwk k (by omega)
        · rw [ins_mem, hl]
          constructor
          · rintro (rfl | ⟨k, hk, rfl⟩)
            · exact ⟨i, Nat.lt_succ_self i, rfl⟩
            · exact ⟨k, Nat.lt_succ_of_lt hk, rfl⟩
          · rintro ⟨k, hk, rfl⟩
            by_cases e : k = i
            · subst e; exact .inl rfl
            · exact .inr ⟨k, by omega, rfl⟩
    · have hk : ¬ WitOk t i := fun h => hb h.1
      exact Run.leave (ts := [2]) (.inr ⟨_, rfl⟩) rfl Tryd.func18 rfl (Le.int (hno (fun o h => h (o.wit i hil)) hk).symm)
  obtain rfl : i = t.wits.length := by omega
  clear IH
  have htot : tot t ≤ 24000000 := by
    have := htl t.wits.length (Nat.le_refl _)
    unfold tot; omega
  refine Run.loop [1, 69, 70] (fun (c : Nat) => [(4, .int .i64 ((tot t - sumN t c 0 : Nat) : Int)), (7, .row 67), (71, .int .i64 (c : Int))]) (fun c => [(1, .box 25 [tWit.L t.wits, tIL.L t.cols]), (67, tI.R 3 (nextL t c 0))])
    (fun c => c ≤ t.cols.length ∧ (∀ k, k < c → ColOk t k) ∧ LeT t c 0) (fun c => t.cols.length - c) 0 ⟨Nat.zero_le _, fun i hi => absurd hi (Nat.not_lt_zero _), fun j hj => by simp [nx, cnt]⟩
    ⟨Le.int ?_, Le.refl _, Le.refl _, trivial⟩ ⟨MOle.refl _, ?_, trivial⟩ ?_
  · have : sumN t 0 0 = 0 := by
      unfold sumN
      have h0 : ∀ n, sumR (nx t 0 0) n = 0 := fun n => by
        induction n with
        | zero => rfl
        | succ n ih => simp only [sumR, ih]; simp [nx, cnt]
      exact h0 _
    rw [this, Nat.sub_zero]; rfl
  · rw [nextL_zero]
    refine ⟨rfl, rfl, by simp, fun i j hi hj => ?_⟩
    obtain rfl : j = 0 := by have : j < 1 := hj; omega
    refine Le.int ?_
    have hi' : i < t.wits.length := by simpa using hi
    rw [List.getD, List.getElem?_replicate, if_pos hi']; rfl
  intro c ⟨hc, hck, hle⟩ IH
  have hwc : IntKind.i64.wrap ((c : Int) + 1) = ((c + 1 : Nat) : Int) := wrap64 (by omega) (by omega)
  have hs0 := le_sum hle
  have hnl := nextL_len t c 0
  show Run _ _ (lst (_ ++ [(4, .int .i64 ((tot t - sumN t c 0 : Nat) : Int)), (7, .row 67), (71, .int .i64 (c : Int))])) (lstH [(1, .box 25 [tWit.L t.wits, tIL.L t.cols]), (67, tI.R 3 (nextL t c 0))])
  have hcl : c < t.cols.length → (t.cols.getD (c : Int).toNat tIL.z).length ≤ 2000000 := fun h => hf.col _ (getD_mem' c h)
  refine Run.go ?_; (conv => whnf); repeat' (first | ((with_reducible refine Know.mk fun _ => ?_); conv => whnf) | ((with_reducible refine Need.mk ?_ ?_); (first | omega | (dsimp only; omega) | decide | exact bytes_le (by rfl) (by omega) | exact ⟨rfl, by omega, bytes_le (by rfl) (by omega), by omega⟩ | (refine ⟨?_, ?_⟩ <;> (rw [wrap64 (by omega) (by omega)]; omega))); conv => whnf) | ((with_reducible refine Both.mk ?_ ?_) <;> conv => whnf) | ((with_reducible refine Any.mk fun b hb => ?_); conv => whnf) | ((with_reducible first | refine AskB.dec (fun hb => ?_) (fun hb => ?_) | refine AskB.ndec (fun hb => ?_) (fun hb => ?_) | refine AskB.mk (fun hb => ?_) (fun hb => ?_)) <;> first | (exfalso; omega) | (conv => whnf)) | ((with_reducible first | refine Run.drawX rfl (by decide +kernel) ?_ | refine Run.drawT rfl (by decide +kernel) ?_ | refine Run.drawW rfl (by decide +kernel) ?_); conv => whnf) | fail)
  all_goals try (exfalso; omega)
  · have hcc : c < t.cols.length := by omega
    have hlen : (t.cols.getD c []).length = t.wits.length := by
      have h2 : (t.cols.getD (c : Int).toNat tIL.z).length = t.wits.length := by omega
      exact h2
    refine Run.loop [1, 10, 69, 70, 71, 81, 82] (fun (i : Nat) => [(4, .int .i64 ((tot t - sumN t c i : Nat) : Int)), (7, .row 67), (83, .int .i64 (i : Int))]) (fun i => [(1, .box 25 [tWit.L t.wits, tIL.L t.cols]), (67, tI.R 3 (nextL t c i))])
      (fun i => i ≤ t.wits.length ∧ LeT t c i ∧ (∀ k, k < i → atC t c k = -1 ∨ (atC t c k = (cnt (t.cols.take c) k : Nat) ∧ cnt (t.cols.take c) k < (witAt t k).words.length)) ∧ (sumN t c i = sumN t c 0 → ∀ k, k < i → atC t c k = -1)) (fun i => t.wits.length - i) 0 ⟨Nat.zero_le _, hle, fun i hi => absurd hi (Nat.not_lt_zero _), fun _ i hi => absurd hi (Nat.not_lt_zero _)⟩
      ⟨Le.refl _, Le.refl _, Le.refl _, trivial⟩ ⟨MOle.refl _, MOle.refl _, trivial⟩ ?_
    intro i ⟨hi, hlei, hcells, hsame⟩ IHi
    have hwi : IntKind.i64.wrap ((i : Int) + 1) = ((i + 1 : Nat) : Int) := wrap64 (by omega) (by omega)
    have hsi := le_sum hlei
    have hnli := nextL_len t c i
    have hge : sumN t c 0 ≤ sumN t c i := sumR_le _ (fun j hj => by
      unfold nx
      rw [if_neg (Nat.not_lt_zero _)]
      split
      · rw [cnt_take _ _ _ hcc]; omega
      · exact Nat.le_refl _)
    show Run _ _ (lst (_ ++ [(4, .int .i64 ((tot t - sumN t c i : Nat) : Int)), (7, .row 67), (83, .int .i64 (i : Int))])) (lstH [(1, .box 25 [tWit.L t.wits, tIL.L t.cols]), (67, tI.R 3 (nextL t c i))])
    by_cases hil : i < t.wits.length
    · have hx : (t.cols.getD (c : Int).toNat tIL.z).getD (i : Int).toNat tI.z = atC t c i := rfl
      have hn : (nextL t c i).getD (i : Int).toNat tI.z = ((cnt (t.cols.take c) i : Nat) : Int) := by
        have := nextL_at t c i i hil
        rw [nx_same] at this; exact this
      have hlw : lens t i ≤ 2000000 := (hf.wit (witAt t i) (getD_mem' i hil)).2.1
      have hcnt : cnt (t.cols.take c) i ≤ lens t i := by
        have := hlei i hil
        rw [nx_same] at this; exact this
      have hlw2 : (t.wits.getD (i : Int).toNat tWit.z).words.length = lens t i := rfl
      refine Run.go ?_; (conv => whnf); repeat' (first | ((with_reducible refine Know.mk fun _ => ?_); conv => whnf) | ((with_reducible refine Need.mk ?_ ?_); (first | omega | (dsimp only; omega) | decide | exact bytes_le (by rfl) (by omega) | exact ⟨rfl, by omega, bytes_le (by rfl) (by omega), by omega⟩ | (refine ⟨?_, ?_⟩ <;> (rw [wrap64 (by omega) (by omega)]; omega))); conv => whnf) | ((with_reducible refine Both.mk ?_ ?_) <;> conv => whnf) | ((with_reducible refine Any.mk fun b hb => ?_); conv => whnf) | ((with_reducible first | refine AskB.dec (fun hb => ?_) (fun hb => ?_) | refine AskB.ndec (fun hb => ?_) (fun hb => ?_) | refine AskB.mk (fun hb => ?_) (fun hb => ?_)) <;> first | (exfalso; omega) | (conv => whnf)) | ((with_reducible first | refine Run.drawX rfl (by decide +kernel) ?_ | refine Run.drawT rfl (by decide +kernel) ?_ | refine Run.drawW rfl (by decide +kernel) ?_); conv => whnf) | fail)
      all_goals try (exfalso; omega)
      · have hm : atC t c i = -1 := by omega
        refine Run.to _ _ ?_ ?_ (IHi (i + 1) (by omega) ⟨by omega, le_none hcc hlei hm, fun k hk => ?_, fun he k hk => ?_⟩)
        · refine ⟨Le.refl _, Le.refl _, Le.refl _, Le.refl _, Le.refl _, Le.refl _, Le.refl _, ?_, Le.refl _, Le.int hwi, trivial⟩
          rw [sumN_none hcc hm]; exact Le.refl _
        · refine ⟨MOle.refl _, ?_, trivial⟩
          rw [nextL_none hcc hm]; exact MOle.refl _
        · by_cases e : k = i
          · subst e; exact .inl hm
          · exact hcells k (by omega)
        · rw [sumN_none hcc hm] at he
          by_cases e : k = i
          · subst e; exact hm
          · exact hsame he k (by omega)
      · have hxe : atC t c i = ((cnt (t.cols.take c) i : Nat) : Int) := by omega
        have hne : atC t c i ≠ -1 := by omega
        have hlt : cnt (t.cols.take c) i < lens t i := by omega
        have hle2 := le_some hcc hlei hne (by rw [nx_same]; exact hlt)
        have hs2 := le_sum hle2
        have hsm := sumN_some hcc hil hne
        refine Run.to _ _ ?_ ?_ (IHi (i + 1) (by omega) ⟨by omega, hle2, fun k hk => ?_, fun he => ?_⟩)
        · refine ⟨Le.refl _, Le.refl _, Le.refl _, Le.refl _, Le.refl _, Le.refl _, Le.refl _, Le.int ?_, Le.refl _, Le.int hwi, trivial⟩
          rw [wrap64 (by omega) (by omega)]; omega
        · refine ⟨MOle.refl _, ?_, trivial⟩
          rw [nextL_some hcc hil hne]
          refine tI.set 3 (nextL t c i) i _ (by omega) _ rfl (Le.one (Le.int ?_))
          rw [hn, nx_same, wrap64 (by omega) (by omega)]
        · by_cases e : k = i
          · subst e; exact .inr ⟨hxe, hlt⟩
          · exact hcells k (by omega)
        · omega
      all_goals
        have hk : ¬ ColOk t c := fun h => by
          rcases h.2.1 i hil with h1 | ⟨h1, h2⟩
          · omega
          · have h3 : cnt (t.cols.take c) i < lens t i := h2
            omega
        exact Run.leave (ts := [2]) (.inr ⟨_, rfl⟩) rfl Tryd.func18 rfl (Le.int (hno (fun o h => h (o.col c hcc)) hk).symm)
    · obtain rfl : i = t.wits.length := by omega
      refine Run.go ?_; (conv => whnf); repeat' (first | ((with_reducible refine Know.mk fun _ => ?_); conv => whnf) | ((with_reducible refine Need.mk ?_ ?_); (first | omega | (dsimp only; omega) | decide | exact bytes_le (by rfl) (by omega) | exact ⟨rfl, by omega, bytes_le (by rfl) (by omega), by omega⟩ | (refine ⟨?_, ?_⟩ <;> (rw [wrap64 (by omega) (by omega)]; omega))); conv => whnf) | ((with_reducible refine Both.mk ?_ ?_) <;> conv => whnf) | ((with_reducible refine Any.mk fun b hb => ?_); conv => whnf) | ((with_reducible first | refine AskB.dec (fun hb => ?_) (fun hb => ?_) | refine AskB.ndec (fun hb => ?_) (fun hb => ?_) | refine AskB.mk (fun hb => ?_) (fun hb => ?_)) <;> first | (exfalso; omega) | (conv => whnf)) | ((with_reducible first | refine Run.drawX rfl (by decide +kernel) ?_ | refine Run.drawT rfl (by decide +kernel) ?_ | refine Run.drawW rfl (by decide +kernel) ?_); conv => whnf) | fail)
      all_goals try (exfalso; omega)
      · have hk : ¬ ColOk t c := fun h => by
          obtain ⟨k, hk1, hk2⟩ := h.2.2
          exact hk2 (hsame (by omega) k hk1)
        exact Run.leave (ts := [2]) (.inr ⟨_, rfl⟩) rfl Tryd.func18 rfl (Le.int (hno (fun o h => h (o.col c hcc)) hk).symm)
      · have hok : ColOk t c := ⟨hlen, hcells, by
          refine Classical.byContradiction fun hno' => ?_
          have hall : ∀ k, k < t.wits.length → atC t c k = -1 := fun k hk => Classical.byContradiction fun h => hno' ⟨k, hk, h⟩
          have hz : ∀ n, n ≤ t.wits.length → sumN t c n = sumN t c 0 := fun n => by
            induction n with
            | zero => intro _; rfl
            | succ n ih => intro h; rw [sumN_none hcc (hall n (by omega)), ih (by omega)]
          have := hz _ (Nat.le_refl _)
          omega⟩
        refine Run.to _ _ ?_ ?_ (IH (c + 1) (by omega) ⟨by omega, fun k hk => ?_, le_end hlei⟩)
        · refine ⟨Le.refl _, Le.refl _, Le.refl _, ?_, Le.refl _, Le.int hwc, trivial⟩
          rw [← sumN_end]; exact Le.refl _
        · refine ⟨MOle.refl _, ?_, trivial⟩
          rw [← nextL_end]; exact MOle.refl _
        · by_cases e : k = c
          · subst e; exact hok
          · exact hck k (by omega)
  · have hcc : c < t.cols.length := by omega
    have hk : ¬ ColOk t c := fun h => by
      have h1 := h.1
      have h2 : (t.cols.getD (c : Int).toNat tIL.z).length = t.wits.length := h1
      omega
    exact Run.leave (ts := [2]) (.inr ⟨_, rfl⟩) rfl Tryd.func18 rfl (Le.int (hno (fun o h => h (o.col c hcc)) hk).symm)
  all_goals obtain rfl : c = t.cols.length := by omega
  · refine Run.leave (ts := [2]) (.inr ⟨_, rfl⟩) rfl Tryd.func18 rfl (Le.int (hno (fun o h => ?_) hb).symm)
    have := sum_of o.all
    omega
  · refine Run.leave (ts := [2]) (.inr ⟨_, rfl⟩) rfl Tryd.func18 rfl (Le.int (chk_ok ⟨hn1, hn12, hnc, hwk, hck, all_of hle (by omega)⟩).symm)
end Go.Proofs.YtnadacaoehpdnaaDoor.V

namespace Go.Proofs.YtnadacaoehpdnaaDoor.V
set_option linter.unusedVariables false
set_option linter.unusedSimpArgs false
open Go Go.Proofs Go.RowKit
set_option maxRecDepth 100000
set_option maxHeartbeats 4000000
theorem textF_empty (o : Int) : textF .empty o = .empty := by
  unfold textF
  rw [cells_out (by decide)]; rfl
/-- What a table's cells are. -/
theorem at_ok {t : Tab} (h : OkT t) {c i : Nat} (hc : c < t.cols.length) (hi : i < t.wits.length) : (t.cols.getD c []).length = t.wits.length ∧ (atC t c i = -1 ∨ (0 ≤ atC t c i ∧ (atC t c i).toNat < (witAt t i).words.length)) := by
  obtain ⟨h1, h2, h3⟩ := h.col c hc
  refine ⟨h1, ?_⟩
  rcases h2 i hi with h4 | ⟨h4, h5⟩
  · exact .inl h4
  · exact .inr ⟨by omega, by omega⟩
theorem text_small {t : Tab} (hf : FitT t) (hok : OkT t) {c : Nat} (hc : c < t.cols.length) (j : Nat) (hj : j < t.wits.length) : (textAt t c j).size ≤ 134217728 := by
  obtain ⟨_, h⟩ := at_ok hok hc hj
  unfold textAt
  split
  · exact Nat.zero_le _
  · rcases h with h | ⟨h1, h2⟩
    · omega
    · exact (hf.wit (witAt t j) (getD_mem' j hj)).2.2 _ (getD_mem' _ h2)
end Go.Proofs.YtnadacaoehpdnaaDoor.V

namespace Go.Proofs.YtnadacaoehpdnaaDoor.V
set_option linter.unusedVariables false
set_option linter.unusedSimpArgs false
open Go Go.Proofs Go.RowKit
set_option maxRecDepth 100000
set_option maxHeartbeats 4000000
theorem mget_mset' {α β : Type} [DecidableEq α] (k k' : α) (v : β) : ∀ l : List (α × β), mget k' (mset k v l) = if k' = k then some v else mget k' l
  | [] => by
    unfold mset mget
    by_cases h : k' = k
    · rw [if_pos h, if_pos h]
    · rw [if_neg h, if_neg h]; rfl
  | p :: l => by
    unfold mset
    by_cases h1 : k = p.1
    · rw [if_pos h1]
      unfold mget
      by_cases h : k' = k
      · rw [if_pos h, if_pos h]
      · rw [if_neg h, if_neg h, if_neg (fun e => h (e.trans h1.symm))]
    · rw [if_neg h1]
      unfold mget
      by_cases h2 : k' = p.1
      · rw [if_pos h2, if_pos h2, if_neg (fun e => h1 (e.symm.trans h2))]
      · rw [if_neg h2, if_neg h2, mget_mset' k k' v l]
theorem fidx_none {α : Type} {p : α → Bool} {z : α} : ∀ {l : List α}, (∀ k, k < l.length → p (l.getD k z) = false) → l.findIdx p = l.length
  | [], _ => rfl
  | x :: l, h => by
    have h0 := h 0 (by simp)
    rw [List.getD_cons_zero] at h0
    rw [List.findIdx_cons, h0, cond_false, fidx_none (z := z) (l := l) (fun k hk => by have := h (k + 1) (by simpa using hk); rw [List.getD_cons_succ] at this; exact this)]; rfl
theorem fidx_at {α : Type} {p : α → Bool} {z : α} {l : List α} {k : Nat} (hk : k < l.length) (h : p (l.getD k z) = true) (hj : ∀ j, j < k → p (l.getD j z) = false) : l.findIdx p = k := by
  refine fidx_hit (z := z) ?_ hk h
  have : ∀ m, m ≤ k → m ≤ l.findIdx p := fun m => by
    induction m with
    | zero => intro _; exact Nat.zero_le _
    | succ m ih => intro hm; exact fidx_miss (z := z) (ih (by omega)) (by omega) (hj m (by omega))
  exact this k (Nat.le_refl _)
theorem push_same (l : List Rd) (k : Nat) (i : Int) (j : Nat) : ((pushW l k i).getD j rd0).none = (l.getD j rd0).none ∧ ((pushW l k i).getD j rd0).text = (l.getD j rd0).text := by
  unfold pushW
  by_cases e : j = k
  · subst e
    by_cases hj : j < l.length
    · rw [List.getD, List.getElem?_set_self hj]; exact ⟨rfl, rfl⟩
    · rw [List.set_eq_of_length_le (by omega)]; exact ⟨rfl, rfl⟩
  · rw [List.getD, List.getElem?_set_ne (Ne.symm e)]; exact ⟨rfl, rfl⟩
/-- What the walk knows of its readings: where the one without words is, under which number each key is. -/
structure ColI (o : Int) (l : List Rd) (none : Int) (at' : List (ByteArray × Int)) : Prop where
  nn : (none = -1 ∧ ∀ k, k < l.length → (l.getD k rd0).none = false) ∨ (∃ k, k < l.length ∧ none = (k : Nat) ∧ (l.getD k rd0).none = true ∧ ∀ j, j < l.length → (l.getD j rd0).none = true → j = k)
  key : ∀ (s : ByteArray) (v : Int), mget s at' = some v ↔ ∃ k, k < l.length ∧ v = (k : Nat) ∧ (l.getD k rd0).none = false ∧ textF (l.getD k rd0).text o = s
  text : ∀ k, k < l.length → (l.getD k rd0).none = true → (l.getD k rd0).text = .empty
theorem ColI.push {o : Int} {l : List Rd} {none : Int} {at' : List (ByteArray × Int)} (h : ColI o l none at') (k : Nat) (i : Int) : ColI o (pushW l k i) none at' := by
  have hl := push_len l k i
  have hs := push_same l k i
  constructor
  · rcases h.nn with ⟨h1, h2⟩ | ⟨j, h1, h2, h3, h4⟩
    · exact .inl ⟨h1, fun m hm => by rw [(hs m).1]; exact h2 m (by omega)⟩
    · exact .inr ⟨j, by omega, h2, by rw [(hs j).1]; exact h3, fun m hm hn => h4 m (by omega) (by rw [← (hs m).1]; exact hn)⟩
  · intro s v
    rw [h.key s v]
    constructor
    · rintro ⟨m, h1, h2, h3, h4⟩; exact ⟨m, by omega, h2, by rw [(hs m).1]; exact h3, by rw [(hs m).2]; exact h4⟩
    · rintro ⟨m, h1, h2, h3, h4⟩; exact ⟨m, by omega, h2, by rw [← (hs m).1]; exact h3, by rw [← (hs m).2]; exact h4⟩
  · intro m hm hn
    rw [(hs m).2]
    exact h.text m (by omega) (by rw [← (hs m).1]; exact hn)
theorem ColI.start (o : Int) : ColI o [] (-1) [] := ⟨.inl ⟨rfl, fun k hk => absurd hk (Nat.not_lt_zero _)⟩, fun s v => ⟨fun h => (by cases h), fun ⟨k, hk, _⟩ => absurd hk (Nat.not_lt_zero _)⟩, fun k hk => absurd hk (Nat.not_lt_zero _)⟩
theorem app_at {l : List Rd} {r : Rd} {k : Nat} (hk : k < (l ++ [r]).length) : (k < l.length ∧ (l ++ [r]).getD k rd0 = l.getD k rd0) ∨ (k = l.length ∧ (l ++ [r]).getD k rd0 = r) := by
  rw [List.length_append, List.length_singleton] at hk
  by_cases h : k < l.length
  · exact .inl ⟨h, getD_app1 h⟩
  · obtain rfl : k = l.length := by omega
    exact .inr ⟨rfl, getD_app2⟩
theorem ColI.addNone {o : Int} {l : List Rd} {at' : List (ByteArray × Int)} (h : ColI o l (-1) at') : ColI o (l ++ [⟨true, .empty, []⟩]) (l.length : Nat) at' := by
  have hno : ∀ k, k < l.length → (l.getD k rd0).none = false := by
    rcases h.nn with ⟨_, h2⟩ | ⟨j, _, h2, _⟩
    · exact h2
    · omega
  have hlen : (l ++ [(⟨true, .empty, []⟩ : Rd)]).length = l.length + 1 := by simp
  constructor
  · refine .inr ⟨l.length, by omega, rfl, by rw [getD_app2], fun j hj hn => ?_⟩
    rcases app_at hj with ⟨h1, h2⟩ | ⟨h1, _⟩
    · rw [h2, hno j h1] at hn; cases hn
    · exact h1
  · intro s v
    rw [h.key s v]
    constructor
    · rintro ⟨m, h1, h2, h3, h4⟩; exact ⟨m, by omega, h2, by rw [getD_app1 h1]; exact h3, by rw [getD_app1 h1]; exact h4⟩
    · rintro ⟨m, h1, h2, h3, h4⟩
      rcases app_at h1 with ⟨e1, e2⟩ | ⟨e1, e2⟩
      · rw [e2] at h3 h4; exact ⟨m, e1, h2, h3, h4⟩
      · rw [e2] at h3; cases h3
  · intro m hm hn
    rcases app_at hm with ⟨e1, e2⟩ | ⟨e1, e2⟩
    · rw [e2] at hn ⊢; exact h.text m e1 hn
    · rw [e2]
theorem ColI.addKey {o : Int} {l : List Rd} {none : Int} {at' : List (ByteArray × Int)} (h : ColI o l none at') (text : ByteArray) (hno : mget (textF text o) at' = .none) : ColI o (l ++ [⟨false, text, []⟩]) none (mset (textF text o) ((l.length : Nat) : Int) at') := by
  have hlen : (l ++ [(⟨false, text, []⟩ : Rd)]).length = l.length + 1 := by simp
  constructor
  · rcases h.nn with ⟨h1, h2⟩ | ⟨j, h1, h2, h3, h4⟩
    · refine .inl ⟨h1, fun k hk => ?_⟩
      rcases app_at hk with ⟨e1, e2⟩ | ⟨e1, e2⟩
      · rw [e2]; exact h2 k e1
      · rw [e2]
    · refine .inr ⟨j, by omega, h2, by rw [getD_app1 h1]; exact h3, fun m hm hn => ?_⟩
      rcases app_at hm with ⟨e1, e2⟩ | ⟨e1, e2⟩
      · rw [e2] at hn; exact h4 m e1 hn
      · rw [e2] at hn; cases hn
  · intro s v
    rw [mget_mset']
    by_cases e : s = textF text o
    · subst e
      rw [if_pos rfl]
      constructor
      · intro hv; cases hv; exact ⟨l.length, by omega, rfl, by rw [getD_app2], by rw [getD_app2]⟩
      · rintro ⟨m, h1, h2, h3, h4⟩
        rcases app_at h1 with ⟨e1, e2⟩ | ⟨e1, e2⟩
        · rw [e2] at h3 h4
          have := (h.key _ ((m : Nat) : Int)).mpr ⟨m, e1, rfl, h3, h4⟩
          rw [hno] at this; cases this
        · rw [h2, e1]
    · rw [if_neg e, h.key s v]
      constructor
      · rintro ⟨m, h1, h2, h3, h4⟩; exact ⟨m, by omega, h2, by rw [getD_app1 h1]; exact h3, by rw [getD_app1 h1]; exact h4⟩
      · rintro ⟨m, h1, h2, h3, h4⟩
        rcases app_at h1 with ⟨e1, e2⟩ | ⟨e1, e2⟩
        · rw [e2] at h3 h4; exact ⟨m, e1, h2, h3, h4⟩
        · rw [e2] at h4; exact absurd h4.symm e
  · intro m hm hn
    rcases app_at hm with ⟨e1, e2⟩ | ⟨e1, e2⟩
    · rw [e2] at hn ⊢; exact h.text m e1 hn
    · rw [e2] at hn; cases hn
theorem ColI.findNone {o : Int} {l : List Rd} {none : Int} {at' : List (ByteArray × Int)} (h : ColI o l none at') : (none = -1 ∧ l.findIdx (sameR o true .empty) = l.length) ∨ (none = (l.findIdx (sameR o true .empty) : Nat) ∧ l.findIdx (sameR o true .empty) < l.length) := by
  rcases h.nn with ⟨h1, h2⟩ | ⟨k, h1, h2, h3, h4⟩
  · exact .inl ⟨h1, fidx_none (z := rd0) (fun k hk => by unfold sameR; rw [h2 k hk]; rfl)⟩
  · have := fidx_at (z := rd0) (p := sameR o true .empty) h1 (by unfold sameR; rw [h3, h.text k h1 h3, textF_empty]; rfl) (fun j hj => by
      unfold sameR
      cases hn : (l.getD j rd0).none with
      | false => rfl
      | true => exact absurd (h4 j (by omega) hn) (by omega))
    rw [this]
    exact .inr ⟨h2, h1⟩
theorem ColI.findKey {o : Int} {l : List Rd} {none : Int} {at' : List (ByteArray × Int)} (h : ColI o l none at') (s : ByteArray) : (mget s at' = .none ∧ l.findIdx (sameR o false s) = l.length) ∨ (mget s at' = some ((l.findIdx (sameR o false s) : Nat) : Int) ∧ l.findIdx (sameR o false s) < l.length) := by
  have hp : ∀ k, sameR o false s (l.getD k rd0) = true ↔ ((l.getD k rd0).none = false ∧ textF (l.getD k rd0).text o = s) := fun k => by
    unfold sameR
    rw [Bool.and_eq_true, decide_eq_true_iff]
    simp
  cases hg : mget s at' with
  | none =>
    refine .inl ⟨rfl, fidx_none (z := rd0) (fun k hk => ?_)⟩
    cases hq : sameR o false s (l.getD k rd0) with
    | false => rfl
    | true =>
      obtain ⟨h1, h2⟩ := (hp k).mp hq
      have := (h.key s ((k : Nat) : Int)).mpr ⟨k, hk, rfl, h1, h2⟩
      rw [hg] at this; cases this
  | some v =>
    obtain ⟨k, hk, hv, h1, h2⟩ := (h.key s v).mp hg
    have := fidx_at (z := rd0) (p := sameR o false s) hk ((hp k).mpr ⟨h1, h2⟩) (fun j hj => by
      cases hq : sameR o false s (l.getD j rd0) with
      | false => rfl
      | true =>
        obtain ⟨e1, e2⟩ := (hp j).mp hq
        have := (h.key s ((j : Nat) : Int)).mpr ⟨j, by omega, rfl, e1, e2⟩
        rw [hg] at this
        injection this with e
        omega)
    rw [this, hv]
    exact .inr ⟨rfl, hk⟩
theorem column_fn (t : Tab) (c : Nat) (o : Int) (hf : FitT t) (hok : OkT t) (hc : c < t.cols.length) (ho : ¬ badO o) : Fn Tryd.prog 39 [tbA t, .int .i64 c, .int .i64 o] (tRd.L (readE t c o t.wits.length)) := by
  refine Fn.of Tryd.f39 _ Tryd.func39 rfl (by decide) (by show 3 ≤ _; decide) tbOk 99 rfl fun S w0 gl => ?_
  have hn12 := hok.n12
  have hfc := hf.cols
  have hlen : (t.cols.getD (c : Int).toNat tIL.z).length = t.wits.length := (hok.col c hc).1
  refine Run.go ?_; (conv => whnf); repeat' (first | ((with_reducible refine Know.mk fun _ => ?_); conv => whnf) | ((with_reducible refine Need.mk ?_ ?_); (first | omega | (dsimp only; omega) | decide | exact bytes_le (by rfl) (by omega) | exact ⟨rfl, by omega, bytes_le (by rfl) (by omega), by omega⟩ | (refine ⟨?_, ?_⟩ <;> (rw [wrap64 (by omega) (by omega)]; omega))); conv => whnf) | ((with_reducible first | refine Both.mk ?_ ?_ | refine Any.mk fun b hb => ?_ | refine AskB.dec (fun hb => ?_) (fun hb => ?_) | refine AskB.ndec (fun hb => ?_) (fun hb => ?_) | refine AskB.mk (fun hb => ?_) (fun hb => ?_)) <;> conv => whnf) | ((with_reducible first | refine Run.drawX rfl (by decide +kernel) ?_ | refine Run.drawT rfl (by decide +kernel) ?_ | refine Run.drawW rfl (by decide +kernel) ?_); conv => whnf) | fail)
  refine Run.holdNil 7 1000 47 3 (fun _ _ => .nils) rfl ?_
  refine Run.asMat 1000 2 3 1 (e := 47) (sz := 3) (n := 0) (get := fun _ _ => .nils) rfl (by decide) (fun i hi => absurd hi (Nat.not_lt_zero _)) ?_
  refine Run.loop [2, 22, 23] (fun (a : Nat × Int × List (ByteArray × Int)) => [(3, .box 3 0), (7, .row 1000), (8, .obj 17), (9, .int .i64 a.2.1), (24, .int .i64 (a.1 : Int))]) (fun a => [(3, .box 25 [tWit.L t.wits, tIL.L t.cols]), (1000, rdM (readE t c o a.1)), (17, .mp (.si a.2.2))])
    (fun a => a.1 ≤ t.wits.length ∧ ColI o (readE t c o a.1) a.2.1 a.2.2) (fun a => t.wits.length - a.1) (0, -1, []) ⟨Nat.zero_le _, ColI.start o⟩ ⟨Le.refl _, Le.refl _, Le.refl _, Le.refl _, Le.refl _, trivial⟩ ⟨MOle.refl _, rdM_nil _ _ _, MOle.refl _, trivial⟩ ?_
  intro ⟨i, no, at'⟩ ⟨hi, hI⟩ IH
  simp only [] at hi hI ⊢
  have hwi : IntKind.i64.wrap ((i : Int) + 1) = ((i + 1 : Nat) : Int) := wrap64 (by omega) (by omega)
  have hrl := read_len t c o i
  have hwl := wits_le t c o i
  show Run _ _ (lst (_ ++ [(3, .box 3 0), (7, .row 1000), (8, .obj 17), (9, .int .i64 no), (24, .int .i64 (i : Int))])) (lstH [(3, .box 25 [tWit.L t.wits, tIL.L t.cols]), (1000, rdM (readE t c o i)), (17, .mp (.si at'))])
  by_cases hil : i < t.wits.length
  · obtain ⟨_, hat⟩ := at_ok hok hc hil
    have hx : (t.cols.getD (c : Int).toNat tIL.z).getD (i : Int).toNat tI.z = atC t c i := rfl
    have hlw2 : (t.wits.getD (i : Int).toNat tWit.z).words.length = (witAt t i).words.length := rfl
    have hts := text_small hf hok hc i hil
    have hnx : readE t c o (i + 1) = addR o (readE t c o i) i (decide (atC t c i < 0)) (textAt t c i) (keyAt t c o i) := rfl
    generalize readE t c o i = l at hrl hwl hnx hI ⊢
    have hewl : ∀ k nn text, ∀ r ∈ ensR l k nn text, r.wits.length ≤ i := fun k nn text r hr => by
      unfold ensR at hr
      split at hr
      · rcases List.mem_append.mp hr with h1 | h1
        · exact hwl r h1
        · rw [List.mem_singleton] at h1; subst h1; exact Nat.zero_le _
      · exact hwl r hr
    refine Run.goS true 0 ?_; (conv => whnf); repeat' (first | ((with_reducible refine Know.mk fun _ => ?_); conv => whnf) | ((with_reducible refine Need.mk ?_ ?_); (first | omega | (dsimp only; omega) | decide | exact bytes_le (by rfl) (by omega) | exact ⟨rfl, by omega, bytes_le (by rfl) (by omega), by omega⟩ | (refine ⟨?_, ?_⟩ <;> (rw [wrap64 (by omega) (by omega)]; omega))); conv => whnf) | ((with_reducible first | refine Both.mk ?_ ?_ | refine Any.mk fun b hb => ?_ | refine AskB.dec (fun hb => ?_) (fun hb => ?_) | refine AskB.ndec (fun hb => ?_) (fun hb => ?_) | refine AskB.mk (fun hb => ?_) (fun hb => ?_)) <;> conv => whnf) | ((with_reducible first | refine Run.drawX rfl (by decide +kernel) ?_ | refine Run.drawT rfl (by decide +kernel) ?_ | refine Run.drawW rfl (by decide +kernel) ?_); conv => whnf) | fail)
    refine Run.cond2 rfl (fun hb => ?_) (fun hb => absurd (of_decide_eq_false hb) (by omega))
    refine Run.goS true 0 ?_; (conv => whnf); repeat' (first | ((with_reducible refine Know.mk fun _ => ?_); conv => whnf) | ((with_reducible refine Need.mk ?_ ?_); (first | omega | (dsimp only; omega) | decide | exact bytes_le (by rfl) (by omega) | exact ⟨rfl, by omega, bytes_le (by rfl) (by omega), by omega⟩ | (refine ⟨?_, ?_⟩ <;> (rw [wrap64 (by omega) (by omega)]; omega))); conv => whnf) | ((with_reducible first | refine Both.mk ?_ ?_ | refine Any.mk fun b hb => ?_ | refine AskB.dec (fun hb => ?_) (fun hb => ?_) | refine AskB.ndec (fun hb => ?_) (fun hb => ?_) | refine AskB.mk (fun hb => ?_) (fun hb => ?_)) <;> conv => whnf) | ((with_reducible first | refine Run.drawX rfl (by decide +kernel) ?_ | refine Run.drawT rfl (by decide +kernel) ?_ | refine Run.drawW rfl (by decide +kernel) ?_); conv => whnf) | fail)
    refine Run.cond2 rfl (fun hb => ?_) (fun hb => ?_)
    · have hx0 : atC t c i < 0 := of_decide_eq_true hb
      have hte : textAt t c i = .empty := by unfold textAt; rw [if_pos hx0]
      have hke : keyAt t c o i = .empty := by unfold keyAt; rw [if_pos hx0]
      rw [hte, hke, decide_eq_true hx0] at hnx
      obtain ⟨k, hkd⟩ : ∃ k, l.findIdx (sameR o true .empty) = k := ⟨_, rfl⟩
      have hfn := hI.findNone
      rw [hkd] at hfn
      have hkl : k ≤ l.length := by rw [← hkd]; exact List.findIdx_le_length
      have hens := ens_len l k true .empty hkl
      have hadd : readE t c o (i + 1) = pushW (ensR l k true .empty) k i := by rw [hnx]; unfold addR; rw [hkd]
      have hI2 : ColI o (ensR l k true .empty) (k : Nat) at' := by
        unfold ensR
        rcases hfn with ⟨h1, h2⟩ | ⟨h1, h2⟩
        · rw [if_pos h2, h2]
          rw [h1] at hI
          exact hI.addNone
        · rw [if_neg (by omega), ← h1]; exact hI
      refine Run.goS true 0 ?_; (conv => whnf); repeat' (first | ((with_reducible refine Know.mk fun _ => ?_); conv => whnf) | ((with_reducible refine Need.mk ?_ ?_); (first | omega | (dsimp only; omega) | decide | exact bytes_le (by rfl) (by omega) | exact ⟨rfl, by omega, bytes_le (by rfl) (by omega), by omega⟩ | (refine ⟨?_, ?_⟩ <;> (rw [wrap64 (by omega) (by omega)]; omega))); conv => whnf) | ((with_reducible first | refine Both.mk ?_ ?_ | refine Any.mk fun b hb => ?_ | refine AskB.dec (fun hb => ?_) (fun hb => ?_) | refine AskB.ndec (fun hb => ?_) (fun hb => ?_) | refine AskB.mk (fun hb => ?_) (fun hb => ?_)) <;> conv => whnf) | ((with_reducible first | refine Run.drawX rfl (by decide +kernel) ?_ | refine Run.drawT rfl (by decide +kernel) ?_ | refine Run.drawW rfl (by decide +kernel) ?_); conv => whnf) | fail)
      refine Run.ifk [2, 3, 8, 10, 22, 23, 24] (fun (_ : Unit) => [(7, .row 1000), (9, .int .i64 (k : Int))]) (fun _ => [(3, .box 25 [tWit.L t.wits, tIL.L t.cols]), (1000, rdM (ensR l k true .empty)), (17, .mp (.si at'))]) (fun _ => True) rfl ⟨fun next => ⟨fun hb => ?_, fun hb => ?_⟩, fun _ _ => ?_⟩
      · have hb := of_decide_eq_true hb
        have hke : k = l.length := by omega
        have hee : ensR l k true .empty = l ++ [⟨true, .empty, []⟩] := if_pos hke
        refine Run.goS false 7 ?_; (conv => whnf); repeat' (first | ((with_reducible refine Know.mk fun _ => ?_); conv => whnf) | ((with_reducible refine Need.mk ?_ ?_); (first | omega | (dsimp only; omega) | decide | exact bytes_le (by rfl) (by omega) | exact ⟨rfl, by omega, bytes_le (by rfl) (by omega), by omega⟩ | (refine ⟨?_, ?_⟩ <;> (rw [wrap64 (by omega) (by omega)]; omega))); conv => whnf) | ((with_reducible first | refine Both.mk ?_ ?_ | refine Any.mk fun b hb => ?_ | refine AskB.dec (fun hb => ?_) (fun hb => ?_) | refine AskB.ndec (fun hb => ?_) (fun hb => ?_) | refine AskB.mk (fun hb => ?_) (fun hb => ?_)) <;> conv => whnf) | ((with_reducible first | refine Run.drawX rfl (by decide +kernel) ?_ | refine Run.drawT rfl (by decide +kernel) ?_ | refine Run.drawW rfl (by decide +kernel) ?_); conv => whnf) | fail)
        refine Run.appendM (d := 38) (id := 1000) (z := 37) (t := 42) (t2 := 42) (e := 47) (sz := 3) (om := 2) (s := .tmp 35) (x := .tmp 37) rfl rfl rfl rfl rfl rfl rfl rfl rfl rfl rfl rfl rfl rfl rfl rfl (by decide) (Nat.le_of_ble_eq_true rfl) ⟨_, rfl, rfl⟩ ?_ ?_
        · show (l.length + 1) * 48 ≤ _
          omega
        refine Run.goS false 7 ?_; (conv => whnf); repeat' (first | ((with_reducible refine Know.mk fun _ => ?_); conv => whnf) | ((with_reducible refine Need.mk ?_ ?_); (first | omega | (dsimp only; omega) | decide | exact bytes_le (by rfl) (by omega) | exact ⟨rfl, by omega, bytes_le (by rfl) (by omega), by omega⟩ | (refine ⟨?_, ?_⟩ <;> (rw [wrap64 (by omega) (by omega)]; omega))); conv => whnf) | ((with_reducible first | refine Both.mk ?_ ?_ | refine Any.mk fun b hb => ?_ | refine AskB.dec (fun hb => ?_) (fun hb => ?_) | refine AskB.ndec (fun hb => ?_) (fun hb => ?_) | refine AskB.mk (fun hb => ?_) (fun hb => ?_)) <;> conv => whnf) | ((with_reducible first | refine Run.drawX rfl (by decide +kernel) ?_ | refine Run.drawT rfl (by decide +kernel) ?_ | refine Run.drawW rfl (by decide +kernel) ?_); conv => whnf) | fail)
        refine Run.holdM 7 1000 (z := 38) rfl rfl rfl ?_
        refine Run.to _ _ ?_ ?_ (next () trivial)
        · exact ⟨Le.refl _, Le.refl _, Le.refl _, Le.refl _, Le.refl _, Le.refl _, Le.refl _, Le.refl _, Le.int (by show (l.length : Int) = k; omega), trivial⟩
        · refine ⟨MOle.refl _, ?_, MOle.refl _, trivial⟩
          rw [hee]
          exact rdM_app l _ _ _ (Le.tt.trans (Le.refl _)) (Le.refl _)
      · have hb := of_decide_eq_false hb
        have hke : ¬ k = l.length := by omega
        have hee : ensR l k true .empty = l := if_neg hke
        refine Run.goS false 7 ?_; (conv => whnf); repeat' (first | ((with_reducible refine Know.mk fun _ => ?_); conv => whnf) | ((with_reducible refine Need.mk ?_ ?_); (first | omega | (dsimp only; omega) | decide | exact bytes_le (by rfl) (by omega) | exact ⟨rfl, by omega, bytes_le (by rfl) (by omega), by omega⟩ | (refine ⟨?_, ?_⟩ <;> (rw [wrap64 (by omega) (by omega)]; omega))); conv => whnf) | ((with_reducible first | refine Both.mk ?_ ?_ | refine Any.mk fun b hb => ?_ | refine AskB.dec (fun hb => ?_) (fun hb => ?_) | refine AskB.ndec (fun hb => ?_) (fun hb => ?_) | refine AskB.mk (fun hb => ?_) (fun hb => ?_)) <;> conv => whnf) | ((with_reducible first | refine Run.drawX rfl (by decide +kernel) ?_ | refine Run.drawT rfl (by decide +kernel) ?_ | refine Run.drawW rfl (by decide +kernel) ?_); conv => whnf) | fail)
        refine Run.to _ _ ?_ ?_ (next () trivial)
        · exact ⟨Le.refl _, Le.refl _, Le.refl _, Le.refl _, Le.refl _, Le.refl _, Le.refl _, Le.refl _, Le.int (by omega), trivial⟩
        · refine ⟨MOle.refl _, ?_, MOle.refl _, trivial⟩
          rw [hee]; exact MOle.refl _
      · have hwn : rdN (ensR l k true .empty) k ≤ i := hewl _ _ _ _ (getD_mem' k hens.1)
        generalize ensR l k true .empty = L at hens hadd hwn hI2 ⊢
        have hkL := hens.1
        have hwn2 : rdN L (k : Int).toNat ≤ i := hwn
        refine Run.go ?_; (conv => whnf); repeat' (first | ((with_reducible refine Know.mk fun _ => ?_); conv => whnf) | ((with_reducible refine Need.mk ?_ ?_); (first | omega | (dsimp only; omega) | decide | exact bytes_le (by rfl) (by omega) | exact ⟨rfl, by omega, bytes_le (by rfl) (by omega), by omega⟩ | (refine ⟨?_, ?_⟩ <;> (rw [wrap64 (by omega) (by omega)]; omega))); conv => whnf) | ((with_reducible first | refine Both.mk ?_ ?_ | refine Any.mk fun b hb => ?_ | refine AskB.dec (fun hb => ?_) (fun hb => ?_) | refine AskB.ndec (fun hb => ?_) (fun hb => ?_) | refine AskB.mk (fun hb => ?_) (fun hb => ?_)) <;> conv => whnf) | ((with_reducible first | refine Run.drawX rfl (by decide +kernel) ?_ | refine Run.drawT rfl (by decide +kernel) ?_ | refine Run.drawW rfl (by decide +kernel) ?_); conv => whnf) | fail)
        refine Run.takeM 45 2000 rfl rfl rfl ?_
        refine Run.go ?_; (conv => whnf); repeat' (first | ((with_reducible refine Know.mk fun _ => ?_); conv => whnf) | ((with_reducible refine Need.mk ?_ ?_); (first | omega | (dsimp only; omega) | decide | exact bytes_le (by rfl) (by omega) | exact ⟨rfl, by omega, bytes_le (by rfl) (by omega), by omega⟩ | (refine ⟨?_, ?_⟩ <;> (rw [wrap64 (by omega) (by omega)]; omega))); conv => whnf) | ((with_reducible first | refine Both.mk ?_ ?_ | refine Any.mk fun b hb => ?_ | refine AskB.dec (fun hb => ?_) (fun hb => ?_) | refine AskB.ndec (fun hb => ?_) (fun hb => ?_) | refine AskB.mk (fun hb => ?_) (fun hb => ?_)) <;> conv => whnf) | ((with_reducible first | refine Run.drawX rfl (by decide +kernel) ?_ | refine Run.drawT rfl (by decide +kernel) ?_ | refine Run.drawW rfl (by decide +kernel) ?_); conv => whnf) | fail)
        refine Run.to _ _ ?_ ?_ (IH (i + 1, k, at') (by simp only []; omega) ⟨by simp only []; omega, by simp only []; rw [hadd]; exact hI2.push k i⟩)
        · exact ⟨Le.refl _, Le.refl _, Le.refl _, Le.refl _, Le.refl _, Le.refl _, Le.refl _, Le.int hwi, trivial⟩
        · refine ⟨MOle.refl _, ?_, MOle.refl _, trivial⟩
          simp only []
          rw [hadd]
          exact rdM_push L k i hkL _ rfl
    · have hx0 : ¬ atC t c i < 0 := of_decide_eq_false hb
      have hxl : (atC t c i).toNat < (witAt t i).words.length := by omega
      have hte : textAt t c i = ((witAt t i).words.getD (atC t c i).toNat tWrd.z).text := by unfold textAt; rw [if_neg hx0]
      have hke : keyAt t c o i = textF (textAt t c i) o := by unfold keyAt; rw [if_neg hx0]
      have ht := text26_fn (textAt t c i) o hts
      unfold textL at ht
      rw [if_neg ho, if_neg ho] at ht
      rw [hke, decide_eq_false hx0] at hnx
      generalize hT : textAt t c i = T at hte hke ht hnx hts
      obtain ⟨k, hkd⟩ : ∃ k, l.findIdx (sameR o false (textF T o)) = k := ⟨_, rfl⟩
      have hfk := hI.findKey (textF T o)
      rw [hkd] at hfk
      have hkl : k ≤ l.length := by rw [← hkd]; exact List.findIdx_le_length
      have hens := ens_len l k false T hkl
      have hadd : readE t c o (i + 1) = pushW (ensR l k false T) k i := by rw [hnx]; unfold addR; rw [hkd]
      have hwn : rdN (ensR l k false T) k ≤ i := hewl _ _ _ _ (getD_mem' k hens.1)
      refine Run.go ?_; (conv => whnf); repeat' (first | ((with_reducible refine Know.mk fun _ => ?_); conv => whnf) | ((with_reducible refine Need.mk ?_ ?_); (first | omega | (dsimp only; omega) | decide | exact bytes_le (by rfl) (by omega) | exact ⟨rfl, by omega, bytes_le (by rfl) (by omega), by omega⟩ | (refine ⟨?_, ?_⟩ <;> (rw [wrap64 (by omega) (by omega)]; omega))); conv => whnf) | ((with_reducible first | refine Both.mk ?_ ?_ | refine Any.mk fun b hb => ?_ | refine AskB.dec (fun hb => ?_) (fun hb => ?_) | refine AskB.ndec (fun hb => ?_) (fun hb => ?_) | refine AskB.mk (fun hb => ?_) (fun hb => ?_)) <;> conv => whnf) | ((with_reducible first | refine Run.drawX rfl (by decide +kernel) ?_ | refine Run.drawT rfl (by decide +kernel) ?_ | refine Run.drawW rfl (by decide +kernel) ?_); conv => whnf) | fail)
      refine Run.callBX ht rfl rfl ⟨Le.str hte.symm, Le.refl _, trivial⟩ rfl rfl rfl ?_
      rcases hfk with ⟨hg, hk⟩ | ⟨hg, hk⟩
      · have hs1 : (mget (textF T o) at').isSome = false := by rw [hg]; rfl
        have hee : ensR l k false T = l ++ [⟨false, T, []⟩] := if_pos hk
        have hI2 : ColI o (ensR l k false T) no (mset (textF T o) ((l.length : Nat) : Int) at') := by
          rw [hee]; exact hI.addKey T hg
        (conv => whnf); repeat' (first | ((with_reducible refine Know.mk fun _ => ?_); conv => whnf) | ((with_reducible refine Need.mk ?_ ?_); (first | omega | (dsimp only; omega) | decide | exact bytes_le (by rfl) (by omega) | exact ⟨rfl, by omega, bytes_le (by rfl) (by omega), by omega⟩ | (refine ⟨?_, ?_⟩ <;> (rw [wrap64 (by omega) (by omega)]; omega))); conv => whnf) | ((with_reducible first | refine Both.mk ?_ ?_ | refine Any.mk fun b hb => ?_ | refine AskB.dec (fun hb => ?_) (fun hb => ?_) | refine AskB.ndec (fun hb => ?_) (fun hb => ?_) | refine AskB.mk (fun hb => ?_) (fun hb => ?_)) <;> conv => whnf) | ((with_reducible first | refine Run.drawX rfl (by decide +kernel) ?_ | refine Run.drawT rfl (by decide +kernel) ?_ | refine Run.drawW rfl (by decide +kernel) ?_); conv => whnf) | fail)
        all_goals try (rw [hs1] at hb; cases hb; done)
        refine Run.appendM (d := 84) (id := 1000) (z := 83) (t := 42) (t2 := 42) (e := 47) (sz := 3) (om := 2) (s := .tmp 80) (x := .tmp 83) rfl rfl rfl rfl rfl rfl rfl rfl rfl rfl rfl rfl rfl rfl rfl rfl (by decide) (Nat.le_of_ble_eq_true rfl) ⟨_, rfl, rfl⟩ ?_ ?_
        · show (l.length + 1) * 48 ≤ _
          omega
        refine aexec_ok 1 ?_; (conv => whnf); repeat' (first | ((with_reducible refine Know.mk fun _ => ?_); conv => whnf) | ((with_reducible refine Need.mk ?_ ?_); (first | omega | (dsimp only; omega) | decide | exact bytes_le (by rfl) (by omega) | exact ⟨rfl, by omega, bytes_le (by rfl) (by omega), by omega⟩ | (refine ⟨?_, ?_⟩ <;> (rw [wrap64 (by omega) (by omega)]; omega))); conv => whnf) | ((with_reducible first | refine Both.mk ?_ ?_ | refine Any.mk fun b hb => ?_ | refine AskB.dec (fun hb => ?_) (fun hb => ?_) | refine AskB.ndec (fun hb => ?_) (fun hb => ?_) | refine AskB.mk (fun hb => ?_) (fun hb => ?_)) <;> conv => whnf) | ((with_reducible first | refine Run.drawX rfl (by decide +kernel) ?_ | refine Run.drawT rfl (by decide +kernel) ?_ | refine Run.drawW rfl (by decide +kernel) ?_); conv => whnf) | fail)
        refine Run.holdM 7 1000 (z := 84) rfl rfl rfl ?_
        refine Run.to [(2, .int .i64 o), (3, .box 3 0), (7, .row 1000), (8, .obj 17), (9, .int .i64 no), (10, .int .i64 i), (15, .int .i64 (k : Int)), (22, .sl (t.cols.getD (c : Int).toNat tIL.z).length tI.sz (tI.G (t.cols.getD (c : Int).toNat tIL.z))), (23, .int .i64 (t.cols.getD (c : Int).toNat tIL.z).length), (24, .int .i64 i)] [(3, .box 25 [tWit.L t.wits, tIL.L t.cols]), (1000, rdM (ensR l k false T)), (17, .mp (.si (mset (textF T o) ((l.length : Nat) : Int) at')))] ?_ ?_ ?_
        · exact ⟨Le.refl _, Le.refl _, Le.refl _, Le.refl _, Le.refl _, Le.refl _, Le.int (by show (l.length : Int) = k; omega), Le.refl _, Le.refl _, Le.refl _, trivial⟩
        · refine ⟨MOle.refl _, ?_, MOle.refl _, trivial⟩
          rw [hee]
          exact rdM_app l _ _ _ (Le.ff.trans (Le.refl _)) (Le.str hte.symm)
        generalize ensR l k false T = L at hens hadd hwn hI2 ⊢
        have hkL := hens.1
        have hwn2 : rdN L (k : Int).toNat ≤ i := hwn
        refine Run.go ?_; (conv => whnf); repeat' (first | ((with_reducible refine Know.mk fun _ => ?_); conv => whnf) | ((with_reducible refine Need.mk ?_ ?_); (first | omega | (dsimp only; omega) | decide | exact bytes_le (by rfl) (by omega) | exact ⟨rfl, by omega, bytes_le (by rfl) (by omega), by omega⟩ | (refine ⟨?_, ?_⟩ <;> (rw [wrap64 (by omega) (by omega)]; omega))); conv => whnf) | ((with_reducible first | refine Both.mk ?_ ?_ | refine Any.mk fun b hb => ?_ | refine AskB.dec (fun hb => ?_) (fun hb => ?_) | refine AskB.ndec (fun hb => ?_) (fun hb => ?_) | refine AskB.mk (fun hb => ?_) (fun hb => ?_)) <;> conv => whnf) | ((with_reducible first | refine Run.drawX rfl (by decide +kernel) ?_ | refine Run.drawT rfl (by decide +kernel) ?_ | refine Run.drawW rfl (by decide +kernel) ?_); conv => whnf) | fail)
        refine Run.takeM 91 2000 rfl rfl rfl ?_
        refine Run.go ?_; (conv => whnf); repeat' (first | ((with_reducible refine Know.mk fun _ => ?_); conv => whnf) | ((with_reducible refine Need.mk ?_ ?_); (first | omega | (dsimp only; omega) | decide | exact bytes_le (by rfl) (by omega) | exact ⟨rfl, by omega, bytes_le (by rfl) (by omega), by omega⟩ | (refine ⟨?_, ?_⟩ <;> (rw [wrap64 (by omega) (by omega)]; omega))); conv => whnf) | ((with_reducible first | refine Both.mk ?_ ?_ | refine Any.mk fun b hb => ?_ | refine AskB.dec (fun hb => ?_) (fun hb => ?_) | refine AskB.ndec (fun hb => ?_) (fun hb => ?_) | refine AskB.mk (fun hb => ?_) (fun hb => ?_)) <;> conv => whnf) | ((with_reducible first | refine Run.drawX rfl (by decide +kernel) ?_ | refine Run.drawT rfl (by decide +kernel) ?_ | refine Run.drawW rfl (by decide +kernel) ?_); conv => whnf) | fail)
        refine Run.to _ _ ?_ ?_ (IH (i + 1, no, mset (textF T o) ((l.length : Nat) : Int) at') (by simp only []; omega) ⟨by simp only []; omega, by simp only []; rw [hadd]; exact hI2.push k i⟩)
        · exact ⟨Le.refl _, Le.refl _, Le.refl _, Le.refl _, Le.refl _, Le.refl _, Le.refl _, Le.int hwi, trivial⟩
        · refine ⟨MOle.refl _, ?_, MOle.refl _, trivial⟩
          simp only []
          rw [hadd]
          exact rdM_push L k i hkL _ rfl
      · have hs1 : (mget (textF T o) at').isSome = true := by rw [hg]; rfl
        have hs2 : (mget (textF T o) at').getD 0 = (k : Nat) := by rw [hg]; rfl
        have hee : ensR l k false T = l := if_neg (by omega)
        rw [hee] at hadd hwn
        have hwn2 : rdN l ((mget (textF T o) at').getD 0).toNat ≤ i := by rw [hs2]; exact hwn
        (conv => whnf); repeat' (first | ((with_reducible refine Know.mk fun _ => ?_); conv => whnf) | ((with_reducible refine Need.mk ?_ ?_); (first | omega | (dsimp only; omega) | decide | exact bytes_le (by rfl) (by omega) | exact ⟨rfl, by omega, bytes_le (by rfl) (by omega), by omega⟩ | (refine ⟨?_, ?_⟩ <;> (rw [wrap64 (by omega) (by omega)]; omega))); conv => whnf) | ((with_reducible first | refine Both.mk ?_ ?_ | refine Any.mk fun b hb => ?_ | refine AskB.dec (fun hb => ?_) (fun hb => ?_) | refine AskB.ndec (fun hb => ?_) (fun hb => ?_) | refine AskB.mk (fun hb => ?_) (fun hb => ?_)) <;> conv => whnf) | ((with_reducible first | refine Run.drawX rfl (by decide +kernel) ?_ | refine Run.drawT rfl (by decide +kernel) ?_ | refine Run.drawW rfl (by decide +kernel) ?_); conv => whnf) | fail)
        all_goals try (rw [hs1] at hb; cases hb; done)
        refine Run.takeM 91 2000 rfl rfl rfl ?_
        rw [hs2]
        have hwn3 : rdN l (k : Int).toNat ≤ i := hwn
        refine Run.go ?_; (conv => whnf); repeat' (first | ((with_reducible refine Know.mk fun _ => ?_); conv => whnf) | ((with_reducible refine Need.mk ?_ ?_); (first | omega | (dsimp only; omega) | decide | exact bytes_le (by rfl) (by omega) | exact ⟨rfl, by omega, bytes_le (by rfl) (by omega), by omega⟩ | (refine ⟨?_, ?_⟩ <;> (rw [wrap64 (by omega) (by omega)]; omega))); conv => whnf) | ((with_reducible first | refine Both.mk ?_ ?_ | refine Any.mk fun b hb => ?_ | refine AskB.dec (fun hb => ?_) (fun hb => ?_) | refine AskB.ndec (fun hb => ?_) (fun hb => ?_) | refine AskB.mk (fun hb => ?_) (fun hb => ?_)) <;> conv => whnf) | ((with_reducible first | refine Run.drawX rfl (by decide +kernel) ?_ | refine Run.drawT rfl (by decide +kernel) ?_ | refine Run.drawW rfl (by decide +kernel) ?_); conv => whnf) | fail)
        refine Run.to _ _ ?_ ?_ (IH (i + 1, no, at') (by simp only []; omega) ⟨by simp only []; omega, by simp only []; rw [hadd]; exact hI.push k i⟩)
        · exact ⟨Le.refl _, Le.refl _, Le.refl _, Le.refl _, Le.refl _, Le.refl _, Le.refl _, Le.int hwi, trivial⟩
        · refine ⟨MOle.refl _, ?_, MOle.refl _, trivial⟩
          simp only []
          rw [hadd]
          exact rdM_push l k i hk _ rfl
  · obtain rfl : i = t.wits.length := by omega
    refine Run.go ?_; (conv => whnf); repeat' (first | ((with_reducible refine Know.mk fun _ => ?_); conv => whnf) | ((with_reducible refine Need.mk ?_ ?_); (first | omega | (dsimp only; omega) | decide | exact bytes_le (by rfl) (by omega) | exact ⟨rfl, by omega, bytes_le (by rfl) (by omega), by omega⟩ | (refine ⟨?_, ?_⟩ <;> (rw [wrap64 (by omega) (by omega)]; omega))); conv => whnf) | ((with_reducible first | refine Both.mk ?_ ?_ | refine Any.mk fun b hb => ?_ | refine AskB.dec (fun hb => ?_) (fun hb => ?_) | refine AskB.ndec (fun hb => ?_) (fun hb => ?_) | refine AskB.mk (fun hb => ?_) (fun hb => ?_)) <;> conv => whnf) | ((with_reducible first | refine Run.drawX rfl (by decide +kernel) ?_ | refine Run.drawT rfl (by decide +kernel) ?_ | refine Run.drawW rfl (by decide +kernel) ?_); conv => whnf) | fail)
    all_goals try (exfalso; omega)
    refine Run.leave (ts := [6]) (.inr ⟨_, rfl⟩) rfl Tryd.func39 rfl (rdM_out _)
end Go.Proofs.YtnadacaoehpdnaaDoor.V

namespace Go.Proofs.YtnadacaoehpdnaaDoor.V
set_option linter.unusedVariables false
set_option linter.unusedSimpArgs false
open Go Go.Proofs Go.RowKit
set_option maxRecDepth 100000
set_option maxHeartbeats 4000000
theorem tb_le (t : Tab) {g : Nat → AV} (h0 : Le (g 0) (tWit.L t.wits)) (h1 : Le (g 1) (tIL.L t.cols)) : Le (.agg 2 g) (tbA t) := Le.agg fun j hj => by
  match j, hj with
  | 0, _ => exact h0
  | 1, _ => exact h1
def sitesE (t : Tab) (o : Int) : Nat → List Int
  | 0 => []
  | c + 1 => if 1 < (readE t c o t.wits.length).length then sitesE t o c ++ [(c : Int)] else sitesE t o c
theorem sites_len (t : Tab) (o : Int) : ∀ c, (sitesE t o c).length ≤ c
  | 0 => Nat.le_refl _
  | c + 1 => by
    have := sites_len t o c
    unfold sitesE
    split
    · rw [List.length_append, List.length_singleton]; omega
    · omega
open Classical in
noncomputable def siteCode (t : Tab) (o : Int) : Int := if ¬ OkT t then 121 else if badO o then 2 else 0
noncomputable def sitesL (t : Tab) (o : Int) : AV := tupL [tI.L (if siteCode t o = 0 then sitesE t o t.cols.length else []), .int .i64 (siteCode t o)]
theorem sitesL_no {t : Tab} (o : Int) (h : ¬ OkT t) : sitesL t o = tupL [tI.L [], .int .i64 121] := by
  unfold sitesL siteCode
  rw [if_pos h, if_neg (by decide)]
theorem sitesL_bad {t : Tab} {o : Int} (h : OkT t) (hb : badO o) : sitesL t o = tupL [tI.L [], .int .i64 2] := by
  have hc : siteCode t o = 2 := by unfold siteCode; rw [if_neg (not_not_intro h), if_pos hb]
  unfold sitesL
  rw [hc, if_neg (by decide)]
theorem sitesL_ok {t : Tab} {o : Int} (h : OkT t) (hb : ¬ badO o) : sitesL t o = tupL [tI.L (sitesE t o t.cols.length), .int .i64 0] := by
  have hc : siteCode t o = 0 := by unfold siteCode; rw [if_neg (not_not_intro h), if_neg hb]
  unfold sitesL
  rw [hc, if_pos rfl]
theorem sites_fn (t : Tab) (o : Int) (hf : FitT t) : Fn Tryd.prog 15 [tbA t, .int .i64 o] (sitesL t o) := by
  refine Fn.of Tryd.f15 _ Tryd.func15 rfl (by decide) (by show 2 ≤ _; decide) tbOk 38 rfl fun S w0 gl => ?_
  refine Run.go ?_; (conv => whnf); repeat' (first | ((with_reducible refine Know.mk fun _ => ?_); conv => whnf) | ((with_reducible refine Need.mk ?_ ?_); (first | omega | (dsimp only; omega) | decide | exact bytes_le (by rfl) (by omega) | exact ⟨rfl, by omega, bytes_le (by rfl) (by omega), by omega⟩ | (refine ⟨?_, ?_⟩ <;> (rw [wrap64 (by omega) (by omega)]; omega))); conv => whnf) | ((with_reducible first | refine Both.mk ?_ ?_ | refine Any.mk fun b hb => ?_ | refine AskB.dec (fun hb => ?_) (fun hb => ?_) | refine AskB.ndec (fun hb => ?_) (fun hb => ?_) | refine AskB.mk (fun hb => ?_) (fun hb => ?_)) <;> conv => whnf) | ((with_reducible first | refine Run.drawX rfl (by decide +kernel) ?_ | refine Run.drawT rfl (by decide +kernel) ?_ | refine Run.drawW rfl (by decide +kernel) ?_); conv => whnf) | fail)
  refine Run.callBX (check_fn t hf) rfl rfl ⟨tb_le t (Le.refl _) (Le.refl _), trivial⟩ rfl rfl rfl ?_
  rcases chk_01 t with ⟨hok, he⟩ | ⟨hok, he⟩
  · rw [he]
    (conv => whnf); repeat' (first | ((with_reducible refine Know.mk fun _ => ?_); conv => whnf) | ((with_reducible refine Need.mk ?_ ?_); (first | omega | (dsimp only; omega) | decide | exact bytes_le (by rfl) (by omega) | exact ⟨rfl, by omega, bytes_le (by rfl) (by omega), by omega⟩ | (refine ⟨?_, ?_⟩ <;> (rw [wrap64 (by omega) (by omega)]; omega))); conv => whnf) | ((with_reducible refine Both.mk ?_ ?_) <;> conv => whnf) | ((with_reducible refine Any.mk fun b hb => ?_); conv => whnf) | ((with_reducible first | refine AskB.dec (fun hb => ?_) (fun hb => ?_) | refine AskB.ndec (fun hb => ?_) (fun hb => ?_) | refine AskB.mk (fun hb => ?_) (fun hb => ?_)) <;> first | (exfalso; omega) | (conv => whnf)) | ((with_reducible first | refine Run.drawX rfl (by decide +kernel) ?_ | refine Run.drawT rfl (by decide +kernel) ?_ | refine Run.drawW rfl (by decide +kernel) ?_); conv => whnf) | fail)
    all_goals try (exfalso; omega)
    · rw [sitesL_bad hok (.inl (by omega))]
      exact Run.leave (ts := [4,5]) (.inr ⟨_, rfl⟩) rfl Tryd.func15 rfl (resT ⟨tI.nil, Le.refl _, trivial⟩)
    · rw [sitesL_bad hok (.inr (by omega))]
      exact Run.leave (ts := [4,5]) (.inr ⟨_, rfl⟩) rfl Tryd.func15 rfl (resT ⟨tI.nil, Le.refl _, trivial⟩)
    have hob : ¬ badO o := fun h => by unfold badO at h; omega
    rw [sitesL_ok hok hob]
    have hnc := hok.nc
    refine Run.holdNil 7 1000 3 1 (fun _ _ => .u) rfl ?_
    refine Run.loop [1, 22] (fun (c : Nat) => [(2, .box 2 0), (7, .row 1000), (23, .int .i64 (c : Int))]) (fun c => [(2, .box 25 [tWit.L t.wits, tIL.L t.cols]), (1000, tI.R 3 (sitesE t o c))]) (fun c => c ≤ t.cols.length) (fun c => t.cols.length - c) 0 (Nat.zero_le _) ⟨Le.refl _, Le.refl _, Le.refl _, trivial⟩ ⟨MOle.refl _, ⟨rfl, rfl, rfl, fun i j hi => absurd hi (Nat.not_lt_zero _)⟩, trivial⟩ ?_
    intro c hc IH
    have hwc : IntKind.i64.wrap ((c : Int) + 1) = ((c + 1 : Nat) : Int) := wrap64 (by omega) (by omega)
    have hsl := sites_len t o c
    have hnx : sitesE t o (c + 1) = if 1 < (readE t c o t.wits.length).length then sitesE t o c ++ [(c : Int)] else sitesE t o c := rfl
    show Run _ _ (lst (_ ++ [(2, .box 2 0), (7, .row 1000), (23, .int .i64 (c : Int))])) (lstH [(2, .box 25 [tWit.L t.wits, tIL.L t.cols]), (1000, tI.R 3 (sitesE t o c))])
    refine Run.go ?_; (conv => whnf); repeat' (first | ((with_reducible refine Know.mk fun _ => ?_); conv => whnf) | ((with_reducible refine Need.mk ?_ ?_); (first | omega | (dsimp only; omega) | decide | exact bytes_le (by rfl) (by omega) | exact ⟨rfl, by omega, bytes_le (by rfl) (by omega), by omega⟩ | (refine ⟨?_, ?_⟩ <;> (rw [wrap64 (by omega) (by omega)]; omega))); conv => whnf) | ((with_reducible first | refine Both.mk ?_ ?_ | refine Any.mk fun b hb => ?_ | refine AskB.dec (fun hb => ?_) (fun hb => ?_) | refine AskB.ndec (fun hb => ?_) (fun hb => ?_) | refine AskB.mk (fun hb => ?_) (fun hb => ?_)) <;> conv => whnf) | ((with_reducible first | refine Run.drawX rfl (by decide +kernel) ?_ | refine Run.drawT rfl (by decide +kernel) ?_ | refine Run.drawW rfl (by decide +kernel) ?_); conv => whnf) | fail)
    · have hcl : c < t.cols.length := by omega
      refine Run.callBX (column_fn t c o hf hok hcl hob) rfl rfl ⟨tb_le t (Le.refl _) (Le.refl _), Le.refl _, Le.refl _, trivial⟩ rfl rfl rfl ?_
      generalize readE t c o t.wits.length = rs at hnx ⊢
      generalize sitesE t o c = L at hsl hnx ⊢
      (conv => whnf); repeat' (first | ((with_reducible refine Know.mk fun _ => ?_); conv => whnf) | ((with_reducible refine Need.mk ?_ ?_); (first | omega | (dsimp only; omega) | decide | exact bytes_le (by rfl) (by omega) | exact ⟨rfl, by omega, bytes_le (by rfl) (by omega), by omega⟩ | (refine ⟨?_, ?_⟩ <;> (rw [wrap64 (by omega) (by omega)]; omega))); conv => whnf) | ((with_reducible first | refine Both.mk ?_ ?_ | refine Any.mk fun b hb => ?_ | refine AskB.dec (fun hb => ?_) (fun hb => ?_) | refine AskB.ndec (fun hb => ?_) (fun hb => ?_) | refine AskB.mk (fun hb => ?_) (fun hb => ?_)) <;> conv => whnf) | ((with_reducible first | refine Run.drawX rfl (by decide +kernel) ?_ | refine Run.drawT rfl (by decide +kernel) ?_ | refine Run.drawW rfl (by decide +kernel) ?_); conv => whnf) | fail)
      · rw [if_pos (by omega)] at hnx
        refine Run.hold (z := 35) 7 1000 (by rfl) (by rfl) (by rfl) ?_
        refine Run.to _ _ ?_ ?_ (IH (c + 1) (by omega) (by omega))
        · exact ⟨Le.refl _, Le.refl _, Le.refl _, Le.refl _, Le.int hwc, trivial⟩
        · refine ⟨MOle.refl _, ?_, trivial⟩
          rw [hnx]
          exact tI.push 3 L (c : Int) _ (one0 (Le.refl _))
      · rw [if_neg (by omega)] at hnx
        refine Run.to _ _ ?_ ?_ (IH (c + 1) (by omega) (by omega))
        · exact ⟨Le.refl _, Le.refl _, Le.refl _, Le.refl _, Le.int hwc, trivial⟩
        · refine ⟨MOle.refl _, ?_, trivial⟩
          rw [hnx]; exact MOle.refl _
    · obtain rfl : c = t.cols.length := by omega
      exact Run.leave (ts := [4,5]) (.inr ⟨_, rfl⟩) rfl Tryd.func15 rfl (resT ⟨Le.refl _, Le.refl _, trivial⟩)
  · rw [he, sitesL_no o hok]
    (conv => whnf); repeat' (first | ((with_reducible refine Know.mk fun _ => ?_); conv => whnf) | ((with_reducible refine Need.mk ?_ ?_); (first | omega | (dsimp only; omega) | decide | exact bytes_le (by rfl) (by omega) | exact ⟨rfl, by omega, bytes_le (by rfl) (by omega), by omega⟩ | (refine ⟨?_, ?_⟩ <;> (rw [wrap64 (by omega) (by omega)]; omega))); conv => whnf) | ((with_reducible refine Both.mk ?_ ?_) <;> conv => whnf) | ((with_reducible refine Any.mk fun b hb => ?_); conv => whnf) | ((with_reducible first | refine AskB.dec (fun hb => ?_) (fun hb => ?_) | refine AskB.ndec (fun hb => ?_) (fun hb => ?_) | refine AskB.mk (fun hb => ?_) (fun hb => ?_)) <;> first | (exfalso; omega) | (conv => whnf)) | ((with_reducible first | refine Run.drawX rfl (by decide +kernel) ?_ | refine Run.drawT rfl (by decide +kernel) ?_ | refine Run.drawW rfl (by decide +kernel) ?_); conv => whnf) | fail)
    all_goals try (exfalso; omega)
    exact Run.leave (ts := [4,5]) (.inr ⟨_, rfl⟩) rfl Tryd.func15 rfl (resT ⟨tI.nil, Le.refl _, trivial⟩)
end Go.Proofs.YtnadacaoehpdnaaDoor.V

namespace Go.Proofs.YtnadacaoehpdnaaDoor.V
set_option linter.unusedVariables false
set_option linter.unusedSimpArgs false
open Go Go.Proofs Go.RowKit
set_option maxRecDepth 100000
set_option maxHeartbeats 4000000
def badC (t : Tab) (c : Int) : Prop := c < 0 ∨ (t.cols.length : Int) ≤ c
open Classical in
noncomputable def readCode (t : Tab) (c o : Int) : Int := if ¬ OkT t then 121 else if badO o ∨ badC t c then 2 else 0
noncomputable def readR (t : Tab) (c o : Int) : List Rd := if readCode t c o = 0 then readE t c.toNat o t.wits.length else []
noncomputable def readL (t : Tab) (c o : Int) : AV := tupL [tRd.L (readR t c o), .int .i64 (readCode t c o)]
theorem rc_no {t : Tab} (c o : Int) (h : ¬ OkT t) : readCode t c o = 121 ∧ readR t c o = [] := by
  have hc : readCode t c o = 121 := if_pos h
  exact ⟨hc, if_neg (by rw [hc]; decide)⟩
theorem rc_bad {t : Tab} {c o : Int} (h : OkT t) (hb : badO o ∨ badC t c) : readCode t c o = 2 ∧ readR t c o = [] := by
  have hc : readCode t c o = 2 := by unfold readCode; rw [if_neg (not_not_intro h), if_pos hb]
  exact ⟨hc, if_neg (by rw [hc]; decide)⟩
theorem rc_ok {t : Tab} {c o : Int} (h : OkT t) (hb : ¬ badO o) (hc : ¬ badC t c) : readCode t c o = 0 ∧ readR t c o = readE t c.toNat o t.wits.length := by
  have hd : readCode t c o = 0 := by unfold readCode; rw [if_neg (not_not_intro h), if_neg (fun g => g.elim hb hc)]
  exact ⟨hd, if_pos hd⟩
theorem readings_fn (t : Tab) (c o : Int) (hf : FitT t) : Fn Tryd.prog 20 [tbA t, .int .i64 c, .int .i64 o] (readL t c o) := by
  refine Fn.of Tryd.f20 _ Tryd.func20 rfl (by decide) (by show 3 ≤ _; decide) tbOk 35 rfl fun S w0 gl => ?_
  refine Run.go ?_; (conv => whnf); repeat' (first | ((with_reducible refine Know.mk fun _ => ?_); conv => whnf) | ((with_reducible refine Need.mk ?_ ?_); (first | omega | (dsimp only; omega) | decide | exact bytes_le (by rfl) (by omega) | exact ⟨rfl, by omega, bytes_le (by rfl) (by omega), by omega⟩ | (refine ⟨?_, ?_⟩ <;> (rw [wrap64 (by omega) (by omega)]; omega))); conv => whnf) | ((with_reducible first | refine Both.mk ?_ ?_ | refine Any.mk fun b hb => ?_ | refine AskB.dec (fun hb => ?_) (fun hb => ?_) | refine AskB.ndec (fun hb => ?_) (fun hb => ?_) | refine AskB.mk (fun hb => ?_) (fun hb => ?_)) <;> conv => whnf) | ((with_reducible first | refine Run.drawX rfl (by decide +kernel) ?_ | refine Run.drawT rfl (by decide +kernel) ?_ | refine Run.drawW rfl (by decide +kernel) ?_); conv => whnf) | fail)
  refine Run.callBX (check_fn t hf) rfl rfl ⟨tb_le t (Le.refl _) (Le.refl _), trivial⟩ rfl rfl rfl ?_
  have hfc := hf.cols
  unfold readL
  rcases chk_01 t with ⟨hok, he⟩ | ⟨hok, he⟩
  · rw [he]
    (conv => whnf); repeat' (first | ((with_reducible refine Know.mk fun _ => ?_); conv => whnf) | ((with_reducible refine Need.mk ?_ ?_); (first | omega | (dsimp only; omega) | decide | exact bytes_le (by rfl) (by omega) | exact ⟨rfl, by omega, bytes_le (by rfl) (by omega), by omega⟩ | (refine ⟨?_, ?_⟩ <;> (rw [wrap64 (by omega) (by omega)]; omega))); conv => whnf) | ((with_reducible refine Both.mk ?_ ?_) <;> conv => whnf) | ((with_reducible refine Any.mk fun b hb => ?_); conv => whnf) | ((with_reducible first | refine AskB.dec (fun hb => ?_) (fun hb => ?_) | refine AskB.ndec (fun hb => ?_) (fun hb => ?_) | refine AskB.mk (fun hb => ?_) (fun hb => ?_)) <;> first | (exfalso; omega) | (conv => whnf)) | ((with_reducible first | refine Run.drawX rfl (by decide +kernel) ?_ | refine Run.drawT rfl (by decide +kernel) ?_ | refine Run.drawW rfl (by decide +kernel) ?_); conv => whnf) | fail)
    all_goals try (exfalso; omega)
    all_goals try (
      have hbad : badO o ∨ badC t c := by unfold badO badC; omega
      rw [(rc_bad hok hbad).1, (rc_bad hok hbad).2]
      exact Run.leave (ts := [6,7]) (.inr ⟨_, rfl⟩) rfl Tryd.func20 rfl (resT ⟨tRd.nil, Le.refl _, trivial⟩))
    have hbo : ¬ badO o := by unfold badO; omega
    have hbc : ¬ badC t c := by unfold badC; omega
    have hcc : c.toNat < t.cols.length := by omega
    rw [(rc_ok hok hbo hbc).1, (rc_ok hok hbo hbc).2]
    refine Run.callBX (column_fn t c.toNat o hf hok hcc hbo) rfl rfl ⟨tb_le t (Le.refl _) (Le.refl _), Le.int (by omega), Le.refl _, trivial⟩ rfl rfl rfl ?_
    (conv => whnf); repeat' (first | ((with_reducible refine Know.mk fun _ => ?_); conv => whnf) | ((with_reducible refine Need.mk ?_ ?_); (first | omega | (dsimp only; omega) | decide | exact bytes_le (by rfl) (by omega) | exact ⟨rfl, by omega, bytes_le (by rfl) (by omega), by omega⟩ | (refine ⟨?_, ?_⟩ <;> (rw [wrap64 (by omega) (by omega)]; omega))); conv => whnf) | ((with_reducible first | refine Both.mk ?_ ?_ | refine Any.mk fun b hb => ?_ | refine AskB.dec (fun hb => ?_) (fun hb => ?_) | refine AskB.ndec (fun hb => ?_) (fun hb => ?_) | refine AskB.mk (fun hb => ?_) (fun hb => ?_)) <;> conv => whnf) | ((with_reducible first | refine Run.drawX rfl (by decide +kernel) ?_ | refine Run.drawT rfl (by decide +kernel) ?_ | refine Run.drawW rfl (by decide +kernel) ?_); conv => whnf) | fail)
    exact Run.leave (ts := [6,7]) (.inr ⟨_, rfl⟩) rfl Tryd.func20 rfl (resT ⟨Le.refl _, Le.refl _, trivial⟩)
  · rw [he, (rc_no c o hok).1, (rc_no c o hok).2]
    (conv => whnf); repeat' (first | ((with_reducible refine Know.mk fun _ => ?_); conv => whnf) | ((with_reducible refine Need.mk ?_ ?_); (first | omega | (dsimp only; omega) | decide | exact bytes_le (by rfl) (by omega) | exact ⟨rfl, by omega, bytes_le (by rfl) (by omega), by omega⟩ | (refine ⟨?_, ?_⟩ <;> (rw [wrap64 (by omega) (by omega)]; omega))); conv => whnf) | ((with_reducible refine Both.mk ?_ ?_) <;> conv => whnf) | ((with_reducible refine Any.mk fun b hb => ?_); conv => whnf) | ((with_reducible first | refine AskB.dec (fun hb => ?_) (fun hb => ?_) | refine AskB.ndec (fun hb => ?_) (fun hb => ?_) | refine AskB.mk (fun hb => ?_) (fun hb => ?_)) <;> first | (exfalso; omega) | (conv => whnf)) | ((with_reducible first | refine Run.drawX rfl (by decide +kernel) ?_ | refine Run.drawT rfl (by decide +kernel) ?_ | refine Run.drawW rfl (by decide +kernel) ?_); conv => whnf) | fail)
    all_goals try (exfalso; omega)
    exact Run.leave (ts := [6,7]) (.inr ⟨_, rfl⟩) rfl Tryd.func20 rfl (resT ⟨tRd.nil, Le.refl _, trivial⟩)
theorem add_pos (o : Int) (l : List Rd) (i : Int) (nn : Bool) (text key : ByteArray) : l.length ≤ (addR o l i nn text key).length ∧ 0 < (addR o l i nn text key).length := by
  unfold addR
  rw [push_len]
  have h := ens_len l (l.findIdx (sameR o nn key)) nn text List.findIdx_le_length
  refine ⟨?_, by omega⟩
  unfold ensR
  split
  · rw [List.length_append]; omega
  · exact Nat.le_refl _
end Go.Proofs.YtnadacaoehpdnaaDoor.V

namespace Go.Proofs.YtnadacaoehpdnaaDoor.V
set_option linter.unusedVariables false
set_option linter.unusedSimpArgs false
open Go Go.Proofs Go.RowKit
set_option maxRecDepth 100000
set_option maxHeartbeats 4000000
theorem noCells : wordsOf .empty = ((.empty, []), 0) := by
  have ht : toksOf .empty = [] := by
    unfold toksOf
    rw [if_neg (by decide), cells_out (by decide), toks_out (by decide)]
  rw [wordsOf_fit (by decide) (by rw [ht]; decide), ht]; rfl
def awA : ByteArray := ⟨#[97]⟩
theorem awAcells : cells awA 0 = [⟨0, 1, 97, false, 0⟩] := by
  rw [cells_in (show 0 < awA.size by decide), cellAt_good awA 0 97 1 (by decide +kernel) (by decide), show Utf8.decode awA 0 = (97, 1) by decide +kernel, cells_out (by decide)]; rfl
theorem awAwords : wordsOf awA = ((.empty, [⟨awA, .empty⟩]), 0) := by
  have ht : toksOf awA = [⟨1, 0, awA⟩] := by
    unfold toksOf
    have hw : wordE [⟨0, 1, 97, false, 0⟩] 0 = 1 := by rw [wordE, dif_pos (by decide), if_pos (by decide), wordE, dif_neg (by decide)]
    have t0 : tokE [⟨0, 1, 97, false, 0⟩] 0 = (1, 1) := by unfold tokE; rw [if_pos (by decide), hw]
    rw [if_neg (by decide), awAcells, toks_in (by decide), t0, toks_out (by decide)]
    decide +kernel
  have hs : specW (toksOf awA) = (.empty, [⟨awA, .empty⟩]) := by
    rw [ht]
    decide +kernel
  rw [wordsOf_fit (by decide) (by rw [hs]; decide), hs]
def awTb : Tab := ⟨[⟨⟨#[65]⟩, .empty, []⟩, ⟨⟨#[66]⟩, .empty, [⟨awA, .empty⟩]⟩], [[-1, 0]]⟩
theorem awRight0 : rightB .empty [] = true := by
  unfold rightB
  rw [show ByteArray.empty ++ catW [] = .empty by decide +kernel, noCells]
  exact decide_eq_true rfl
theorem awRight1 : rightB .empty [⟨awA, .empty⟩] = true := by
  unfold rightB
  rw [show ByteArray.empty ++ catW [⟨awA, .empty⟩] = awA by decide +kernel, awAwords]
  exact decide_eq_true rfl
theorem two {P : Nat → Prop} (h0 : P 0) (h1 : P 1) : ∀ i, i < 2 → P i
  | 0, _ => h0
  | 1, _ => h1
  | i + 2, h => absurd h (by omega)
theorem awOk : OkT awTb where
  n1 := by decide
  n12 := by decide
  nc := by decide
  wit := two ⟨by decide +kernel, awRight0, fun k h => absurd h (Nat.not_lt_zero _)⟩ ⟨by decide +kernel, awRight1, one0 (by decide +kernel)⟩
  col := one0 ⟨rfl, two (.inl rfl) (.inr ⟨rfl, by decide⟩), 1, by decide, by decide⟩
  all := two rfl rfl
theorem awFit : FitT awTb where
  wits := by decide
  cols := by decide
  col := fun l h => by obtain rfl := List.mem_singleton.mp h; decide
  name := by decide
  wit := fun w h => by
    rcases List.mem_cons.mp h with rfl | h
    · exact ⟨⟨by decide, by decide⟩, by decide, fun v h => absurd h List.not_mem_nil⟩
    · obtain rfl := List.mem_singleton.mp h
      exact ⟨⟨by decide, by decide⟩, by decide, fun v h => by obtain rfl := List.mem_singleton.mp h; decide⟩
theorem awRead : readE awTb 0 0 2 = [⟨true, .empty, [0]⟩, ⟨false, awA, [1]⟩] := by decide +kernel
theorem awSites : sitesE awTb 0 1 = [0] := by unfold sitesE; rw [show awTb.wits.length = 2 from rfl, awRead]; rfl
theorem MOle.two {t : TypeId} {x y a b : AV} (h1 : Le x a) (h2 : Le y b) : MOle (.box t [x, y]) (.box t [a, b]) := ⟨rfl, rfl, fun j p q hp hq => by
  match j with
  | 0 => cases hp; cases hq; exact h1
  | 1 => cases hp; cases hq; exact h2
  | j + 2 => cases hp⟩
theorem awLe0 {g : Nat → Nat → AV} {g' : Nat → Nat → AV} (h1 : Le (g 0 0) (.str ⟨#[65]⟩)) (h2 : Le (g 0 1) (.str .empty)) (h3 : Le (g 0 2) .nils) (h4 : Le (g 1 0) (.str ⟨#[66]⟩)) (h5 : Le (g 1 1) (.str .empty)) (h6 : Le (g 1 2) (.sl 1 2 g')) (h7 : Le (g' 0 0) (.str awA)) (h8 : Le (g' 0 1) (.str .empty)) : Le (.sl 2 3 g) (tWit.L awTb.wits) :=
  Le.sl fun i j hi hj => by
    match i, j, hi, hj with
    | 0, 0, _, _ => exact h1
    | 0, 1, _, _ => exact h2
    | 0, 2, _, _ => exact h3.trans tWrd.nil
    | 1, 0, _, _ => exact h4
    | 1, 1, _, _ => exact h5
    | 1, 2, _, _ =>
      refine h6.trans (Le.sl fun a b ha hb => ?_)
      match a, b, ha, hb with
      | 0, 0, _, _ => exact h7
      | 0, 1, _, _ => exact h8
theorem awLe1 {g : Nat → Nat → AV} {g' : Nat → Nat → AV} (h : Le (g 0 0) (.sl 2 1 g')) (h1 : Le (g' 0 0) (.int .i64 (-1))) (h2 : Le (g' 1 0) (.int .i64 0)) : Le (.sl 1 1 g) (tIL.L awTb.cols) :=
  Le.sl fun i j hi hj => by
    match i, j, hi, hj with
    | 0, 0, _, _ =>
      refine h.trans (Le.sl fun a b ha hb => ?_)
      match a, b, ha, hb with
      | 0, 0, _, _ => exact h1
      | 1, 0, _, _ => exact h2
theorem awakeG_fn : Fn Tryd.prog 14 [] .tt := by
  refine Fn.of Tryd.f14 _ Tryd.func14 rfl (by decide) (by show 0 ≤ _; decide) tbOk 60 rfl fun S w0 gl => ?_
  refine Run.go ?_; (conv => whnf); repeat' (first | ((with_reducible refine Know.mk fun _ => ?_); conv => whnf) | ((with_reducible refine Need.mk ?_ ?_); (first | omega | (dsimp only; omega) | decide | exact bytes_le (by rfl) (by omega) | exact ⟨rfl, by omega, bytes_le (by rfl) (by omega), by omega⟩ | (refine ⟨?_, ?_⟩ <;> (rw [wrap64 (by omega) (by omega)]; omega))); conv => whnf) | ((with_reducible first | refine Both.mk ?_ ?_ | refine Any.mk fun b hb => ?_ | refine AskB.dec (fun hb => ?_) (fun hb => ?_) | refine AskB.ndec (fun hb => ?_) (fun hb => ?_) | refine AskB.mk (fun hb => ?_) (fun hb => ?_)) <;> conv => whnf) | ((with_reducible first | refine Run.drawX rfl (by decide +kernel) ?_ | refine Run.drawT rfl (by decide +kernel) ?_ | refine Run.drawW rfl (by decide +kernel) ?_); conv => whnf) | fail)
  refine Run.freeze 8 (by rfl) ?_
  refine Run.go ?_; (conv => whnf); repeat' (first | ((with_reducible refine Know.mk fun _ => ?_); conv => whnf) | ((with_reducible refine Need.mk ?_ ?_); (first | omega | (dsimp only; omega) | decide | exact bytes_le (by rfl) (by omega) | exact ⟨rfl, by omega, bytes_le (by rfl) (by omega), by omega⟩ | (refine ⟨?_, ?_⟩ <;> (rw [wrap64 (by omega) (by omega)]; omega))); conv => whnf) | ((with_reducible first | refine Both.mk ?_ ?_ | refine Any.mk fun b hb => ?_ | refine AskB.dec (fun hb => ?_) (fun hb => ?_) | refine AskB.ndec (fun hb => ?_) (fun hb => ?_) | refine AskB.mk (fun hb => ?_) (fun hb => ?_)) <;> conv => whnf) | ((with_reducible first | refine Run.drawX rfl (by decide +kernel) ?_ | refine Run.drawT rfl (by decide +kernel) ?_ | refine Run.drawW rfl (by decide +kernel) ?_); conv => whnf) | fail)
  refine Run.freeze 11 (by rfl) ?_
  refine Run.go ?_; (conv => whnf); repeat' (first | ((with_reducible refine Know.mk fun _ => ?_); conv => whnf) | ((with_reducible refine Need.mk ?_ ?_); (first | omega | (dsimp only; omega) | decide | exact bytes_le (by rfl) (by omega) | exact ⟨rfl, by omega, bytes_le (by rfl) (by omega), by omega⟩ | (refine ⟨?_, ?_⟩ <;> (rw [wrap64 (by omega) (by omega)]; omega))); conv => whnf) | ((with_reducible first | refine Both.mk ?_ ?_ | refine Any.mk fun b hb => ?_ | refine AskB.dec (fun hb => ?_) (fun hb => ?_) | refine AskB.ndec (fun hb => ?_) (fun hb => ?_) | refine AskB.mk (fun hb => ?_) (fun hb => ?_)) <;> conv => whnf) | ((with_reducible first | refine Run.drawX rfl (by decide +kernel) ?_ | refine Run.drawT rfl (by decide +kernel) ?_ | refine Run.drawW rfl (by decide +kernel) ?_); conv => whnf) | fail)
  refine Run.freeze 10 (by rfl) ?_
  refine Run.freeze 12 (by rfl) ?_
  refine Run.to [(1, .box 1 0), (15, tbA awTb)] [(1, .box 25 [tWit.L awTb.wits, tIL.L awTb.cols])] ⟨Le.refl _, ?_, trivial⟩ ⟨MOle.two ?_ ?_, trivial⟩ ?_
  · exact tb_le awTb (awLe0 (Le.refl _) (Le.refl _) (Le.refl _) (Le.refl _) (Le.refl _) (Le.refl _) (Le.refl _) (Le.refl _)) (awLe1 (Le.refl _) (Le.refl _) (Le.refl _))
  · exact awLe0 (Le.refl _) (Le.refl _) (Le.refl _) (Le.refl _) (Le.refl _) (Le.refl _) (Le.refl _) (Le.refl _)
  · exact awLe1 (Le.refl _) (Le.refl _) (Le.refl _)
  have hr : readL awTb 0 0 = tupL [tRd.L [⟨true, .empty, [0]⟩, ⟨false, awA, [1]⟩], .int .i64 0] := by
    unfold readL
    obtain ⟨e1, e2⟩ := rc_ok (c := 0) (o := 0) awOk (fun h => by unfold badO at h; omega) (fun h => by unfold badC at h; exact absurd h (by decide))
    rw [e1, e2]
    exact congrArg (fun l => tupL [tRd.L l, .int .i64 0]) awRead
  have hs : sitesL awTb 0 = tupL [tI.L [0], .int .i64 0] := by
    rw [sitesL_ok awOk (fun h => by unfold badO at h; omega)]
    exact congrArg (fun l => tupL [tI.L l, .int .i64 0]) awSites
  refine Run.go ?_; (conv => whnf); repeat' (first | ((with_reducible refine Know.mk fun _ => ?_); conv => whnf) | ((with_reducible refine Need.mk ?_ ?_); (first | omega | (dsimp only; omega) | decide | exact bytes_le (by rfl) (by omega) | exact ⟨rfl, by omega, bytes_le (by rfl) (by omega), by omega⟩ | (refine ⟨?_, ?_⟩ <;> (rw [wrap64 (by omega) (by omega)]; omega))); conv => whnf) | ((with_reducible first | refine Both.mk ?_ ?_ | refine Any.mk fun b hb => ?_ | refine AskB.dec (fun hb => ?_) (fun hb => ?_) | refine AskB.ndec (fun hb => ?_) (fun hb => ?_) | refine AskB.mk (fun hb => ?_) (fun hb => ?_)) <;> conv => whnf) | ((with_reducible first | refine Run.drawX rfl (by decide +kernel) ?_ | refine Run.drawT rfl (by decide +kernel) ?_ | refine Run.drawW rfl (by decide +kernel) ?_); conv => whnf) | fail)
  refine Run.callBX (readings_fn awTb 0 0 awFit) rfl rfl ⟨tb_le awTb (Le.refl _) (Le.refl _), Le.refl _, Le.refl _, trivial⟩ rfl rfl rfl ?_
  rw [hr]
  (conv => whnf); repeat' (first | ((with_reducible refine Know.mk fun _ => ?_); conv => whnf) | ((with_reducible refine Need.mk ?_ ?_); (first | omega | (dsimp only; omega) | decide | exact bytes_le (by rfl) (by omega) | exact ⟨rfl, by omega, bytes_le (by rfl) (by omega), by omega⟩ | (refine ⟨?_, ?_⟩ <;> (rw [wrap64 (by omega) (by omega)]; omega))); conv => whnf) | ((with_reducible first | refine Both.mk ?_ ?_ | refine Any.mk fun b hb => ?_ | refine AskB.dec (fun hb => ?_) (fun hb => ?_) | refine AskB.ndec (fun hb => ?_) (fun hb => ?_) | refine AskB.mk (fun hb => ?_) (fun hb => ?_)) <;> conv => whnf) | ((with_reducible first | refine Run.drawX rfl (by decide +kernel) ?_ | refine Run.drawT rfl (by decide +kernel) ?_ | refine Run.drawW rfl (by decide +kernel) ?_); conv => whnf) | fail)
  refine Run.callBX (sites_fn awTb 0 awFit) rfl rfl ⟨tb_le awTb (Le.refl _) (Le.refl _), Le.refl _, trivial⟩ rfl rfl rfl ?_
  rw [hs]
  (conv => whnf); repeat' (first | ((with_reducible refine Know.mk fun _ => ?_); conv => whnf) | ((with_reducible refine Need.mk ?_ ?_); (first | omega | (dsimp only; omega) | decide | exact bytes_le (by rfl) (by omega) | exact ⟨rfl, by omega, bytes_le (by rfl) (by omega), by omega⟩ | (refine ⟨?_, ?_⟩ <;> (rw [wrap64 (by omega) (by omega)]; omega))); conv => whnf) | ((with_reducible first | refine Both.mk ?_ ?_ | refine Any.mk fun b hb => ?_ | refine AskB.dec (fun hb => ?_) (fun hb => ?_) | refine AskB.ndec (fun hb => ?_) (fun hb => ?_) | refine AskB.mk (fun hb => ?_) (fun hb => ?_)) <;> conv => whnf) | ((with_reducible first | refine Run.drawX rfl (by decide +kernel) ?_ | refine Run.drawT rfl (by decide +kernel) ?_ | refine Run.drawW rfl (by decide +kernel) ?_); conv => whnf) | fail)
  all_goals first
    | exact absurd rfl hb
    | exact absurd hb (by decide)
    | exact Run.leave (ts := [0]) (.inr ⟨_, rfl⟩) rfl Tryd.func14 rfl (Le.refl _)
end Go.Proofs.YtnadacaoehpdnaaDoor.V

namespace Go.Proofs.YtnadacaoehpdnaaDoor.V
set_option linter.unusedVariables false
set_option linter.unusedSimpArgs false
open Go Go.Proofs Go.RowKit
set_option maxRecDepth 100000
/-! ### folding by nothing -/
/-! ### a witness more -/
theorem add_miss {o : Int} {l : List Rd} {i : Int} {nn : Bool} {text key : ByteArray} (h : l.findIdx (sameR o nn key) = l.length) : addR o l i nn text key = l ++ [⟨nn, text, [i]⟩] := by
  unfold addR ensR pushW
  rw [h, if_pos rfl, getD_app2, List.set_append_right _ _ (Nat.le_refl _), Nat.sub_self]
  rfl
theorem add_hit {o : Int} {l : List Rd} {i : Int} {nn : Bool} {text key : ByteArray} (h : l.findIdx (sameR o nn key) < l.length) :
    addR o l i nn text key = pushW l (l.findIdx (sameR o nn key)) i ∧ (l.getD (l.findIdx (sameR o nn key)) rd0).none = nn ∧ textF (l.getD (l.findIdx (sameR o nn key)) rd0).text o = key := by
  unfold addR ensR
  rw [if_neg (by omega)]
  refine ⟨rfl, ?_⟩
  have h1 := List.findIdx_getElem (p := sameR o nn key) (xs := l) (w := h)
  have h2 : l.getD (l.findIdx (sameR o nn key)) rd0 = l[l.findIdx (sameR o nn key)] := by rw [List.getD, List.getElem?_eq_getElem h]; rfl
  rw [← h2] at h1
  generalize l.getD (l.findIdx (sameR o nn key)) rd0 = r at h1 ⊢
  unfold sameR at h1
  simpa using h1
theorem miss_not {o : Int} {l : List Rd} {nn : Bool} {key : ByteArray} (h : l.findIdx (sameR o nn key) = l.length) : ∀ r ∈ l, ¬ (r.none = nn ∧ textF r.text o = key) := fun r hr hh => by
  have h1 : l.findIdx (sameR o nn key) < l.length := List.findIdx_lt_length_of_exists ⟨r, hr, by unfold sameR; simp [hh.1, hh.2]⟩
  omega
theorem push_at (l : List Rd) (k : Nat) (i : Int) (hk : k < l.length) (j : Nat) : (pushW l k i).getD j rd0 = if j = k then ⟨(l.getD k rd0).none, (l.getD k rd0).text, (l.getD k rd0).wits ++ [i]⟩ else l.getD j rd0 := by
  unfold pushW
  rw [List.getD, List.getElem?_set]
  by_cases e : j = k
  · subst e; rw [if_pos rfl, if_pos hk, if_pos rfl]; rfl
  · rw [if_neg (fun x => e x.symm), if_neg e]; rfl
theorem sumL_set {α : Type} (f : α → Nat) (z y : α) : ∀ (l : List α) (k : Nat), k < l.length → sumL f (l.set k y) + f (l.getD k z) = sumL f l + f y
  | [], k, h => absurd h (Nat.not_lt_zero _)
  | x :: l, 0, _ => by simp only [List.set_cons_zero, sumL, List.getD_cons_zero]; omega
  | x :: l, k + 1, h => by
    have := sumL_set f z y l k (by simpa using h)
    simp only [List.set_cons_succ, sumL, List.getD_cons_succ]; omega
/-- What the witnesses of a reading have of it. -/
structure WsOk (t : Tab) (c : Nat) (o : Int) (n : Nat) (r : Rd) : Prop where
  pos : 0 < r.wits.length
  up : ∀ k, k + 1 < r.wits.length → r.wits.getD k 0 < r.wits.getD (k + 1) 0
  at' : ∀ k, k < r.wits.length → 0 ≤ r.wits.getD k 0 ∧ r.wits.getD k 0 < n ∧ r.none = decide (atC t c (r.wits.getD k 0).toNat < 0) ∧ textF r.text o = keyAt t c o (r.wits.getD k 0).toNat
  text : r.text = textAt t c (r.wits.getD 0 0).toNat
structure RInv (t : Tab) (c : Nat) (o : Int) (n : Nat) (l : List Rd) : Prop where
  hit : ∀ j, j < n → ∃ r ∈ l, r.none = decide (atC t c j < 0) ∧ textF r.text o = keyAt t c o j
  ws : ∀ i, i < l.length → WsOk t c o n (l.getD i rd0)
  up : ∀ i, i + 1 < l.length → (l.getD i rd0).wits.getD 0 0 < (l.getD (i + 1) rd0).wits.getD 0 0
  sum : sumL (fun r : Rd => r.wits.length) l = n
theorem WsOk.mono {t : Tab} {c n : Nat} {o : Int} {r : Rd} (h : WsOk t c o n r) : WsOk t c o (n + 1) r :=
  ⟨h.pos, h.up, fun k hk => by obtain ⟨a, b, d⟩ := h.at' k hk; exact ⟨a, by omega, d⟩, h.text⟩
theorem key_text (t : Tab) (c : Nat) (o : Int) (i : Nat) : textF (textAt t c i) o = keyAt t c o i := by
  unfold keyAt
  split
  · unfold textAt
    rw [if_pos (by assumption), textF_empty]
  · rfl
theorem read_inv (t : Tab) (c : Nat) (o : Int) : ∀ n, RInv t c o n (readE t c o n)
  | 0 => ⟨fun j h => absurd h (Nat.not_lt_zero _), fun i h => absurd h (Nat.not_lt_zero _), fun i h => absurd h (Nat.not_lt_zero _), rfl⟩
  | n + 1 => by
    have ih := read_inv t c o n
    have hstep : readE t c o (n + 1) = addR o (readE t c o n) n (decide (atC t c n < 0)) (textAt t c n) (keyAt t c o n) := rfl
    generalize readE t c o n = l at ih hstep
    rw [hstep]
    by_cases hk : l.findIdx (sameR o (decide (atC t c n < 0)) (keyAt t c o n)) < l.length
    · obtain ⟨e1, e2, e3⟩ := add_hit (i := (n : Int)) (text := textAt t c n) hk
      rw [e1]
      generalize l.findIdx (sameR o (decide (atC t c n < 0)) (keyAt t c o n)) = k at hk e2 e3
      have hw := ih.ws k hk
      have hlen : (pushW l k n).length = l.length := push_len l k n
      have hfirst : ∀ i, ((pushW l k n).getD i rd0).wits.getD 0 0 = (l.getD i rd0).wits.getD 0 0 := fun i => by
        rw [push_at l k n hk]
        split
        · rename_i e; subst e
          exact getD_app1 hw.pos
        · rfl
      refine ⟨fun j hj => ?_, fun i hi => ?_, fun i hi => ?_, ?_⟩
      · have key : ∀ r ∈ l, ∃ r' ∈ pushW l k n, r'.none = r.none ∧ r'.text = r.text := fun r hr => by
          obtain ⟨i, hi, rfl⟩ := List.getElem_of_mem hr
          have hg : l.getD i rd0 = l[i] := by rw [List.getD, List.getElem?_eq_getElem hi]; rfl
          refine ⟨(pushW l k n).getD i rd0, getD_mem' i (by rw [hlen]; exact hi), ?_⟩
          rw [push_at l k n hk, ← hg]
          split
          · rename_i e; subst e; exact ⟨rfl, rfl⟩
          · exact ⟨rfl, rfl⟩
        by_cases hjn : j < n
        · obtain ⟨r, hr, h1, h2⟩ := ih.hit j hjn
          obtain ⟨r', hr', g1, g2⟩ := key r hr
          exact ⟨r', hr', by rw [g1, h1], by rw [g2, h2]⟩
        · obtain rfl : j = n := by omega
          obtain ⟨r', hr', g1, g2⟩ := key _ (getD_mem' (z := rd0) k hk)
          exact ⟨r', hr', by rw [g1, e2], by rw [g2, e3]⟩
      · rw [hlen] at hi
        rw [push_at l k n hk]
        split
        · rename_i e; subst e
          have hl : ((l.getD i rd0).wits ++ [(n : Int)]).length = (l.getD i rd0).wits.length + 1 := by simp
          have hold : ∀ q, q < (l.getD i rd0).wits.length → ((l.getD i rd0).wits ++ [(n : Int)]).getD q 0 = (l.getD i rd0).wits.getD q 0 := fun q hq => getD_app1 hq
          have hnew : ((l.getD i rd0).wits ++ [(n : Int)]).getD (l.getD i rd0).wits.length 0 = n := getD_app2
          refine ⟨by show 0 < ((l.getD i rd0).wits ++ [(n : Int)]).length; omega, fun q hq => ?_, fun q hq => ?_, ?_⟩
          · replace hq : q + 1 < ((l.getD i rd0).wits ++ [(n : Int)]).length := hq
            show ((l.getD i rd0).wits ++ [(n : Int)]).getD q 0 < ((l.getD i rd0).wits ++ [(n : Int)]).getD (q + 1) 0
            rw [hold q (by omega)]
            by_cases e : q + 1 = (l.getD i rd0).wits.length
            · rw [e, hnew]; exact (hw.at' q (by omega)).2.1
            · rw [hold (q + 1) (by omega)]; exact hw.up q (by omega)
          · replace hq : q < ((l.getD i rd0).wits ++ [(n : Int)]).length := hq
            show 0 ≤ ((l.getD i rd0).wits ++ [(n : Int)]).getD q 0 ∧ ((l.getD i rd0).wits ++ [(n : Int)]).getD q 0 < ((n + 1 : Nat) : Int) ∧ (l.getD i rd0).none = decide (atC t c (((l.getD i rd0).wits ++ [(n : Int)]).getD q 0).toNat < 0) ∧ textF (l.getD i rd0).text o = keyAt t c o (((l.getD i rd0).wits ++ [(n : Int)]).getD q 0).toNat
            by_cases e : q = (l.getD i rd0).wits.length
            · rw [e, hnew]
              exact ⟨by omega, by omega, e2, e3⟩
            · rw [hold q (by omega)]
              obtain ⟨a, b, d⟩ := hw.at' q (by omega)
              exact ⟨a, by omega, d⟩
          · show (l.getD i rd0).text = textAt t c (((l.getD i rd0).wits ++ [(n : Int)]).getD 0 0).toNat
            rw [hold 0 hw.pos]; exact hw.text
        · exact (ih.ws i hi).mono
      · rw [hlen] at hi
        rw [hfirst, hfirst]; exact ih.up i hi
      · have h1 := sumL_set (fun r : Rd => r.wits.length) rd0 ⟨(l.getD k rd0).none, (l.getD k rd0).text, (l.getD k rd0).wits ++ [(n : Int)]⟩ l k hk
        have h2 := ih.sum
        simp only [List.length_append, List.length_singleton] at h1
        show sumL (fun r : Rd => r.wits.length) (l.set k _) = n + 1
        omega
    · have hm : l.findIdx (sameR o (decide (atC t c n < 0)) (keyAt t c o n)) = l.length := by
        have := List.findIdx_le_length (p := sameR o (decide (atC t c n < 0)) (keyAt t c o n)) (xs := l)
        omega
      rw [add_miss hm]
      have hold : ∀ i, i < l.length → (l ++ [(⟨decide (atC t c n < 0), textAt t c n, [(n : Int)]⟩ : Rd)]).getD i rd0 = l.getD i rd0 := fun i hi => getD_app1 hi
      have hnew : (l ++ [(⟨decide (atC t c n < 0), textAt t c n, [(n : Int)]⟩ : Rd)]).getD l.length rd0 = ⟨decide (atC t c n < 0), textAt t c n, [(n : Int)]⟩ := getD_app2
      have hl : (l ++ [(⟨decide (atC t c n < 0), textAt t c n, [(n : Int)]⟩ : Rd)]).length = l.length + 1 := by simp
      refine ⟨fun j hj => ?_, fun i hi => ?_, fun i hi => ?_, ?_⟩
      · by_cases hjn : j < n
        · obtain ⟨r, hr, h⟩ := ih.hit j hjn
          exact ⟨r, List.mem_append_left _ hr, h⟩
        · obtain rfl : j = n := by omega
          exact ⟨_, List.mem_append_right _ (List.mem_singleton.mpr rfl), rfl, key_text t c o j⟩
      · by_cases e : i = l.length
        · rw [e, hnew]
          refine ⟨Nat.one_pos, fun q hq => absurd hq (by simp), one0 ⟨Int.natCast_nonneg n, by show (n : Int) < ((n + 1 : Nat) : Int); omega, rfl, key_text t c o n⟩, rfl⟩
        · rw [hold i (by omega)]; exact (ih.ws i (by omega)).mono
      · rw [hold i (by omega)]
        by_cases e : i + 1 = l.length
        · rw [e, hnew]
          exact ((ih.ws i (by omega)).at' 0 (ih.ws i (by omega)).pos).2.1
        · rw [hold (i + 1) (by omega)]; exact ih.up i (by omega)
      · rw [sumL_append, ih.sum]; rfl
end Go.Proofs.YtnadacaoehpdnaaDoor.V

namespace Go.Proofs.YtnadacaoehpdnaaDoor.V
set_option linter.unusedVariables false
set_option linter.unusedSimpArgs false
open Go Go.Proofs Go.RowKit
set_option maxRecDepth 100000
set_option maxHeartbeats 4000000
theorem sub32 : ∀ a b : Fin 32, IntKind.i64.wrap ↑(BitVec.ofInt IntKind.i64.bits (a.val : Int) &&& BitVec.ofInt IntKind.i64.bits (b.val : Int)).toNat = (a.val : Int) →
    (((a.val : Int) % 2 = 1 → (b.val : Int) % 2 = 1) ∧ ((a.val : Int) / 2 % 2 = 1 → (b.val : Int) / 2 % 2 = 1) ∧ ((a.val : Int) / 4 % 2 = 1 → (b.val : Int) / 4 % 2 = 1) ∧ ((a.val : Int) / 8 % 2 = 1 → (b.val : Int) / 8 % 2 = 1) ∧ ((a.val : Int) / 16 % 2 = 1 → (b.val : Int) / 16 % 2 = 1)) := by decide +kernel
/-- Every word of the table is a text without bad bytes. -/
def ValidW (w : Wit) : Prop := ∀ k, k < w.words.length → ValidT (w.words.getD k tWrd.z).text
def ValidTab (t : Tab) : Prop := ∀ i, i < t.wits.length → ValidW (witAt t i)
theorem text_ok' {t : Tab} (hok : OkT t) (hv : ValidTab t) {c j : Nat} (hc : c < t.cols.length) (hj : j < t.wits.length) (h : ¬ atC t c j < 0) : ValidT (textAt t c j) := by
  obtain ⟨_, h1⟩ := at_ok hok hc hj
  unfold textAt
  rw [if_neg h]
  exact hv j hj _ (by omega)
theorem key_more {t : Tab} (hok : OkT t) (hv : ValidTab t) {c j k : Nat} {o m : Int} (hs : subO o m) (hc : c < t.cols.length) (hj : j < t.wits.length) (hk : k < t.wits.length) (hn : decide (atC t c j < 0) = decide (atC t c k < 0)) (h : keyAt t c o j = keyAt t c o k) : keyAt t c m j = keyAt t c m k := by
  by_cases h1 : atC t c j < 0
  · have h2 : atC t c k < 0 := of_decide_eq_true (by rw [← hn]; exact decide_eq_true h1)
    unfold keyAt
    rw [if_pos h1, if_pos h2]
  · have h2 : ¬ atC t c k < 0 := of_decide_eq_false (by rw [← hn]; exact decide_eq_false h1)
    have v1 := text_ok' hok hv hc hj h1
    have v2 := text_ok' hok hv hc hk h2
    unfold keyAt at h ⊢
    rw [if_neg h1, if_neg h2] at h ⊢
    rw [← text_more hs v1, ← text_more hs v2, h]
theorem read_more {t : Tab} (hok : OkT t) (hv : ValidTab t) {c : Nat} {o m : Int} (hs : subO o m) (hc : c < t.cols.length) : ∀ n, n ≤ t.wits.length → (readE t c m n).length ≤ (readE t c o n).length
  | 0, _ => Nat.le_refl _
  | n + 1, hn => by
    have ih := read_more hok hv hs hc n (by omega)
    have io := read_inv t c o n
    have im := read_inv t c m n
    have so : readE t c o (n + 1) = addR o (readE t c o n) n (decide (atC t c n < 0)) (textAt t c n) (keyAt t c o n) := rfl
    have sm : readE t c m (n + 1) = addR m (readE t c m n) n (decide (atC t c n < 0)) (textAt t c n) (keyAt t c m n) := rfl
    rw [so, sm]
    generalize readE t c o n = lo at ih io
    generalize readE t c m n = lm at ih im
    have hmono := (add_pos o lo n (decide (atC t c n < 0)) (textAt t c n) (keyAt t c o n)).1
    by_cases hm : lm.findIdx (sameR m (decide (atC t c n < 0)) (keyAt t c m n)) < lm.length
    · rw [(add_hit (i := (n : Int)) (text := textAt t c n) hm).1, push_len]
      omega
    · have hm' : lm.findIdx (sameR m (decide (atC t c n < 0)) (keyAt t c m n)) = lm.length := by
        have := List.findIdx_le_length (p := sameR m (decide (atC t c n < 0)) (keyAt t c m n)) (xs := lm)
        omega
      by_cases ho : lo.findIdx (sameR o (decide (atC t c n < 0)) (keyAt t c o n)) < lo.length
      · exfalso
        obtain ⟨_, e2, e3⟩ := add_hit (i := (n : Int)) (text := textAt t c n) ho
        have hw := io.ws _ ho
        obtain ⟨a1, a2, a3, a4⟩ := hw.at' 0 hw.pos
        generalize ((lo.getD (lo.findIdx (sameR o (decide (atC t c n < 0)) (keyAt t c o n))) rd0).wits.getD 0 0) = w at a1 a2 a3 a4
        rw [e2] at a3
        rw [e3] at a4
        obtain ⟨r, hr, b1, b2⟩ := im.hit w.toNat (by omega)
        have hk := key_more hok hv hs hc (by omega : n < t.wits.length) (by omega : w.toNat < t.wits.length) a3 a4
        exact miss_not hm' r hr ⟨by rw [b1, ← a3], by rw [b2, ← hk]⟩
      · have ho' : lo.findIdx (sameR o (decide (atC t c n < 0)) (keyAt t c o n)) = lo.length := by
          have := List.findIdx_le_length (p := sameR o (decide (atC t c n < 0)) (keyAt t c o n)) (xs := lo)
          omega
        rw [add_miss hm', add_miss ho', List.length_append, List.length_append]
        simp only [List.length_singleton]
        omega
theorem sites_more {t : Tab} (hok : OkT t) (hv : ValidTab t) {o m : Int} (hs : subO o m) : ∀ c, c ≤ t.cols.length → (sitesE t m c).length ≤ (sitesE t o c).length
  | 0, _ => Nat.le_refl _
  | c + 1, hc => by
    have ih := sites_more hok hv hs c (by omega)
    have hr := read_more hok hv hs (by omega : c < t.cols.length) t.wits.length (Nat.le_refl _)
    unfold sitesE
    split
    · rw [if_pos (by omega), List.length_append, List.length_append]
      simp only [List.length_singleton]
      omega
    · split
      · rw [List.length_append]; omega
      · exact ih
theorem groupMore_fn (t : Tab) (o m : Int) (hf : FitT t) : Fn Tryd.prog 4 [tbA t, .int .i64 o, .int .i64 m] .tt := by
  refine Fn.of Tryd.f4 _ Tryd.func4 rfl (by decide) (by show 3 ≤ _; decide) tbOk 127 rfl fun S w0 gl => ?_
  refine Run.go ?_; (conv => whnf); repeat' (first | ((with_reducible refine Know.mk fun _ => ?_); conv => whnf) | ((with_reducible refine Need.mk ?_ ?_); (first | omega | (dsimp only; omega) | decide | exact bytes_le (by rfl) (by omega) | exact ⟨rfl, by omega, bytes_le (by rfl) (by omega), by omega⟩ | (refine ⟨?_, ?_⟩ <;> (rw [wrap64 (by omega) (by omega)]; omega))); conv => whnf) | ((with_reducible first | refine Both.mk ?_ ?_ | refine Any.mk fun b hb => ?_ | refine AskB.dec (fun hb => ?_) (fun hb => ?_) | refine AskB.ndec (fun hb => ?_) (fun hb => ?_) | refine AskB.mk (fun hb => ?_) (fun hb => ?_)) <;> conv => whnf) | ((with_reducible first | refine Run.drawX rfl (by decide +kernel) ?_ | refine Run.drawT rfl (by decide +kernel) ?_ | refine Run.drawW rfl (by decide +kernel) ?_); conv => whnf) | fail)
  refine Run.callBX awakeG_fn rfl rfl trivial rfl rfl rfl ?_
  (conv => whnf); repeat' (first | ((with_reducible refine Know.mk fun _ => ?_); conv => whnf) | ((with_reducible refine Need.mk ?_ ?_); (first | omega | (dsimp only; omega) | decide | exact bytes_le (by rfl) (by omega) | exact ⟨rfl, by omega, bytes_le (by rfl) (by omega), by omega⟩ | (refine ⟨?_, ?_⟩ <;> (rw [wrap64 (by omega) (by omega)]; omega))); conv => whnf) | ((with_reducible first | refine Both.mk ?_ ?_ | refine Any.mk fun b hb => ?_ | refine AskB.dec (fun hb => ?_) (fun hb => ?_) | refine AskB.ndec (fun hb => ?_) (fun hb => ?_) | refine AskB.mk (fun hb => ?_) (fun hb => ?_)) <;> conv => whnf) | ((with_reducible first | refine Run.drawX rfl (by decide +kernel) ?_ | refine Run.drawT rfl (by decide +kernel) ?_ | refine Run.drawW rfl (by decide +kernel) ?_); conv => whnf) | fail)
  refine Run.callBX (check_fn t hf) rfl rfl ⟨tb_le t (Le.refl _) (Le.refl _), trivial⟩ rfl rfl rfl ?_
  have hfc := hf.cols
  have hfw := hf.wits
  rcases chk_01 t with ⟨hok, he⟩ | ⟨hok, he⟩
  · rw [he]
    (conv => whnf); repeat' (first | ((with_reducible refine Know.mk fun _ => ?_); conv => whnf) | ((with_reducible refine Need.mk ?_ ?_); (first | omega | (dsimp only; omega) | decide | exact bytes_le (by rfl) (by omega) | exact ⟨rfl, by omega, bytes_le (by rfl) (by omega), by omega⟩ | (refine ⟨?_, ?_⟩ <;> (rw [wrap64 (by omega) (by omega)]; omega))); conv => whnf) | ((with_reducible refine Both.mk ?_ ?_) <;> conv => whnf) | ((with_reducible refine Any.mk fun b hb => ?_); conv => whnf) | ((with_reducible first | refine AskB.dec (fun hb => ?_) (fun hb => ?_) | refine AskB.ndec (fun hb => ?_) (fun hb => ?_) | refine AskB.mk (fun hb => ?_) (fun hb => ?_)) <;> first | (exfalso; omega) | (conv => whnf)) | ((with_reducible first | refine Run.drawX rfl (by decide +kernel) ?_ | refine Run.drawT rfl (by decide +kernel) ?_ | refine Run.drawW rfl (by decide +kernel) ?_); conv => whnf) | fail)
    all_goals try (exfalso; omega)
    all_goals try (exact Run.leave (ts := [6]) (.inr ⟨_, rfl⟩) rfl Tryd.func4 rfl (Le.refl _))
    have hbo : ¬ badO o := by unfold badO; omega
    have hbm : ¬ badO m := by unfold badO; omega
    have hsub : subO o m := by
      obtain ⟨a, rfl⟩ : ∃ k : Fin 32, (k.val : Int) = o := ⟨⟨o.toNat, by omega⟩, by simp only []; omega⟩
      obtain ⟨b, rfl⟩ : ∃ k : Fin 32, (k.val : Int) = m := ⟨⟨m.toNat, by omega⟩, by simp only []; omega⟩
      exact sub32 a b (by omega)
    have hnc := hok.nc
    have hn12 := hok.n12
    refine Run.loop [1, 2, 49, 50] (fun (i : Nat) => [(3, .box 3 0), (51, .int .i64 (i : Int))]) (fun i => [(3, .box 25 [tWit.L t.wits, tIL.L t.cols])]) (fun i => i ≤ t.wits.length ∧ ∀ k, k < i → ValidW (witAt t k)) (fun i => t.wits.length - i) 0 ⟨Nat.zero_le _, fun k h => absurd h (Nat.not_lt_zero _)⟩ ⟨Le.refl _, Le.refl _, trivial⟩ ⟨MOle.refl _, trivial⟩ ?_
    intro i ⟨hi, hvi⟩ IH
    have hwi : IntKind.i64.wrap ((i : Int) + 1) = ((i + 1 : Nat) : Int) := wrap64 (by omega) (by omega)
    show Run _ _ (lst (_ ++ [(3, .box 3 0), (51, .int .i64 (i : Int))])) (lstH [(3, .box 25 [tWit.L t.wits, tIL.L t.cols])])
    refine Run.go ?_; (conv => whnf); repeat' (first | ((with_reducible refine Know.mk fun _ => ?_); conv => whnf) | ((with_reducible refine Need.mk ?_ ?_); (first | omega | (dsimp only; omega) | decide | exact bytes_le (by rfl) (by omega) | exact ⟨rfl, by omega, bytes_le (by rfl) (by omega), by omega⟩ | (refine ⟨?_, ?_⟩ <;> (rw [wrap64 (by omega) (by omega)]; omega))); conv => whnf) | ((with_reducible first | refine Both.mk ?_ ?_ | refine Any.mk fun b hb => ?_ | refine AskB.dec (fun hb => ?_) (fun hb => ?_) | refine AskB.ndec (fun hb => ?_) (fun hb => ?_) | refine AskB.mk (fun hb => ?_) (fun hb => ?_)) <;> conv => whnf) | ((with_reducible first | refine Run.drawX rfl (by decide +kernel) ?_ | refine Run.drawT rfl (by decide +kernel) ?_ | refine Run.drawW rfl (by decide +kernel) ?_); conv => whnf) | fail)
    · have hil : i < t.wits.length := by omega
      obtain ⟨_, f2, f3⟩ := hf.wit (witAt t i) (getD_mem' i hil)
      refine Run.loop [1, 2, 49, 50, 51, 56, 57] (fun (j : Nat) => [(3, .box 3 0), (58, .int .i64 (j : Int))]) (fun j => [(3, .box 25 [tWit.L t.wits, tIL.L t.cols])]) (fun j => j ≤ (witAt t i).words.length ∧ ∀ k, k < j → ValidT ((witAt t i).words.getD k tWrd.z).text) (fun j => (witAt t i).words.length - j) 0 ⟨Nat.zero_le _, fun k h => absurd h (Nat.not_lt_zero _)⟩ ⟨Le.refl _, Le.refl _, trivial⟩ ⟨MOle.refl _, trivial⟩ ?_
      intro j ⟨hj, hvj⟩ IH2
      have hwj : IntKind.i64.wrap ((j : Int) + 1) = ((j + 1 : Nat) : Int) := wrap64 (by omega) (by omega)
      have hlw : (t.wits.getD (i : Int).toNat tWit.z).words.length = (witAt t i).words.length := rfl
      show Run _ _ (lst (_ ++ [(3, .box 3 0), (58, .int .i64 (j : Int))])) (lstH [(3, .box 25 [tWit.L t.wits, tIL.L t.cols])])
      refine Run.go ?_; (conv => whnf); repeat' (first | ((with_reducible refine Know.mk fun _ => ?_); conv => whnf) | ((with_reducible refine Need.mk ?_ ?_); (first | omega | (dsimp only; omega) | decide | exact bytes_le (by rfl) (by omega) | exact ⟨rfl, by omega, bytes_le (by rfl) (by omega), by omega⟩ | (refine ⟨?_, ?_⟩ <;> (rw [wrap64 (by omega) (by omega)]; omega))); conv => whnf) | ((with_reducible first | refine Both.mk ?_ ?_ | refine Any.mk fun b hb => ?_ | refine AskB.dec (fun hb => ?_) (fun hb => ?_) | refine AskB.ndec (fun hb => ?_) (fun hb => ?_) | refine AskB.mk (fun hb => ?_) (fun hb => ?_)) <;> conv => whnf) | ((with_reducible first | refine Run.drawX rfl (by decide +kernel) ?_ | refine Run.drawT rfl (by decide +kernel) ?_ | refine Run.drawW rfl (by decide +kernel) ?_); conv => whnf) | fail)
      · have hjl : j < (witAt t i).words.length := by omega
        have hsz := f3 _ (getD_mem' (z := tWrd.z) j hjl)
        by_cases hv : ValidT ((witAt t i).words.getD j tWrd.z).text
        · refine Run.callBX (valid_yes hsz hv) rfl rfl ⟨Le.refl _, trivial⟩ rfl rfl rfl ?_
          (conv => whnf); repeat' (first | ((with_reducible refine Know.mk fun _ => ?_); conv => whnf) | ((with_reducible refine Need.mk ?_ ?_); (first | omega | (dsimp only; omega) | decide | exact bytes_le (by rfl) (by omega) | exact ⟨rfl, by omega, bytes_le (by rfl) (by omega), by omega⟩ | (refine ⟨?_, ?_⟩ <;> (rw [wrap64 (by omega) (by omega)]; omega))); conv => whnf) | ((with_reducible first | refine Both.mk ?_ ?_ | refine Any.mk fun b hb => ?_ | refine AskB.dec (fun hb => ?_) (fun hb => ?_) | refine AskB.ndec (fun hb => ?_) (fun hb => ?_) | refine AskB.mk (fun hb => ?_) (fun hb => ?_)) <;> conv => whnf) | ((with_reducible first | refine Run.drawX rfl (by decide +kernel) ?_ | refine Run.drawT rfl (by decide +kernel) ?_ | refine Run.drawW rfl (by decide +kernel) ?_); conv => whnf) | fail)
          refine Run.to _ _ ?_ ?_ (IH2 (j + 1) (by omega) ⟨by omega, fun k hk => ?_⟩)
          · exact ⟨Le.refl _, Le.refl _, Le.refl _, Le.refl _, Le.refl _, Le.refl _, Le.refl _, Le.refl _, Le.int hwj, trivial⟩
          · exact ⟨MOle.refl _, trivial⟩
          · by_cases e : k = j
            · rw [e]; exact hv
            · exact hvj k (by omega)
        · refine Run.callBX (valid_no hsz hv) rfl rfl ⟨Le.refl _, trivial⟩ rfl rfl rfl ?_
          (conv => whnf); repeat' (first | ((with_reducible refine Know.mk fun _ => ?_); conv => whnf) | ((with_reducible refine Need.mk ?_ ?_); (first | omega | (dsimp only; omega) | decide | exact bytes_le (by rfl) (by omega) | exact ⟨rfl, by omega, bytes_le (by rfl) (by omega), by omega⟩ | (refine ⟨?_, ?_⟩ <;> (rw [wrap64 (by omega) (by omega)]; omega))); conv => whnf) | ((with_reducible first | refine Both.mk ?_ ?_ | refine Any.mk fun b hb => ?_ | refine AskB.dec (fun hb => ?_) (fun hb => ?_) | refine AskB.ndec (fun hb => ?_) (fun hb => ?_) | refine AskB.mk (fun hb => ?_) (fun hb => ?_)) <;> conv => whnf) | ((with_reducible first | refine Run.drawX rfl (by decide +kernel) ?_ | refine Run.drawT rfl (by decide +kernel) ?_ | refine Run.drawW rfl (by decide +kernel) ?_); conv => whnf) | fail)
          exact Run.leave (ts := [6]) (.inr ⟨_, rfl⟩) rfl Tryd.func4 rfl (Le.refl _)
      · obtain rfl : j = (witAt t i).words.length := by omega
        refine Run.to _ _ ?_ ?_ (IH (i + 1) (by omega) ⟨by omega, fun k hk => ?_⟩)
        · exact ⟨Le.refl _, Le.refl _, Le.refl _, Le.refl _, Le.refl _, Le.int hwi, trivial⟩
        · exact ⟨MOle.refl _, trivial⟩
        · by_cases e : k = i
          · rw [e]; exact hvj
          · exact hvi k (by omega)
    · obtain rfl : i = t.wits.length := by omega
      have hvt : ValidTab t := hvi
      refine Run.loop [1, 2, 70] (fun (c : Nat) => [(3, .box 3 0), (71, .int .i64 (c : Int))]) (fun i => [(3, .box 25 [tWit.L t.wits, tIL.L t.cols])]) (fun c => c ≤ t.cols.length) (fun c => t.cols.length - c) 0 (Nat.zero_le _) ⟨Le.refl _, Le.refl _, trivial⟩ ⟨MOle.refl _, trivial⟩ ?_
      intro c hc IH3
      have hwc : IntKind.i64.wrap ((c : Int) + 1) = ((c + 1 : Nat) : Int) := wrap64 (by omega) (by omega)
      show Run _ _ (lst (_ ++ [(3, .box 3 0), (71, .int .i64 (c : Int))])) (lstH [(3, .box 25 [tWit.L t.wits, tIL.L t.cols])])
      refine Run.go ?_; (conv => whnf); repeat' (first | ((with_reducible refine Know.mk fun _ => ?_); conv => whnf) | ((with_reducible refine Need.mk ?_ ?_); (first | omega | (dsimp only; omega) | decide | exact bytes_le (by rfl) (by omega) | exact ⟨rfl, by omega, bytes_le (by rfl) (by omega), by omega⟩ | (refine ⟨?_, ?_⟩ <;> (rw [wrap64 (by omega) (by omega)]; omega))); conv => whnf) | ((with_reducible first | refine Both.mk ?_ ?_ | refine Any.mk fun b hb => ?_ | refine AskB.dec (fun hb => ?_) (fun hb => ?_) | refine AskB.ndec (fun hb => ?_) (fun hb => ?_) | refine AskB.mk (fun hb => ?_) (fun hb => ?_)) <;> conv => whnf) | ((with_reducible first | refine Run.drawX rfl (by decide +kernel) ?_ | refine Run.drawT rfl (by decide +kernel) ?_ | refine Run.drawW rfl (by decide +kernel) ?_); conv => whnf) | fail)
      · have hcl : c < t.cols.length := by omega
        have hbc : ¬ badC t (c : Int) := fun h => by unfold badC at h; omega
        obtain ⟨h1, h2⟩ := rc_ok (c := (c : Int)) hok hbo hbc
        obtain ⟨h3, h4⟩ := rc_ok (c := (c : Int)) hok hbm hbc
        have hmr := read_more hok hvt hsub hcl t.wits.length (Nat.le_refl _)
        have hlo : (readR t c o).length ≤ 12 := by rw [h2]; have := read_len t (c : Int).toNat o t.wits.length; omega
        have hlm : (readR t c m).length ≤ (readR t c o).length := by rw [h2, h4]; exact hmr
        refine Run.callBX (readings_fn t c o hf) rfl rfl ⟨tb_le t (Le.refl _) (Le.refl _), Le.refl _, Le.refl _, trivial⟩ rfl rfl rfl ?_
        unfold readL
        rw [h1]
        generalize readR t c o = l1 at hlo hlm ⊢
        (conv => whnf); repeat' (first | ((with_reducible refine Know.mk fun _ => ?_); conv => whnf) | ((with_reducible refine Need.mk ?_ ?_); (first | omega | (dsimp only; omega) | decide | exact bytes_le (by rfl) (by omega) | exact ⟨rfl, by omega, bytes_le (by rfl) (by omega), by omega⟩ | (refine ⟨?_, ?_⟩ <;> (rw [wrap64 (by omega) (by omega)]; omega))); conv => whnf) | ((with_reducible refine Both.mk ?_ ?_) <;> conv => whnf) | ((with_reducible refine Any.mk fun b hb => ?_); conv => whnf) | ((with_reducible first | refine AskB.dec (fun hb => ?_) (fun hb => ?_) | refine AskB.ndec (fun hb => ?_) (fun hb => ?_) | refine AskB.mk (fun hb => ?_) (fun hb => ?_)) <;> first | (exfalso; omega) | (conv => whnf)) | ((with_reducible first | refine Run.drawX rfl (by decide +kernel) ?_ | refine Run.drawT rfl (by decide +kernel) ?_ | refine Run.drawW rfl (by decide +kernel) ?_); conv => whnf) | fail)
        refine Run.callBX (readings_fn t c m hf) rfl rfl ⟨tb_le t (Le.refl _) (Le.refl _), Le.refl _, Le.refl _, trivial⟩ rfl rfl rfl ?_
        unfold readL
        rw [h3]
        generalize readR t c m = l2 at hlm ⊢
        (conv => whnf); repeat' (first | ((with_reducible refine Know.mk fun _ => ?_); conv => whnf) | ((with_reducible refine Need.mk ?_ ?_); (first | omega | (dsimp only; omega) | decide | exact bytes_le (by rfl) (by omega) | exact ⟨rfl, by omega, bytes_le (by rfl) (by omega), by omega⟩ | (refine ⟨?_, ?_⟩ <;> (rw [wrap64 (by omega) (by omega)]; omega))); conv => whnf) | ((with_reducible refine Both.mk ?_ ?_) <;> conv => whnf) | ((with_reducible refine Any.mk fun b hb => ?_); conv => whnf) | ((with_reducible first | refine AskB.dec (fun hb => ?_) (fun hb => ?_) | refine AskB.ndec (fun hb => ?_) (fun hb => ?_) | refine AskB.mk (fun hb => ?_) (fun hb => ?_)) <;> first | (exfalso; omega) | (conv => whnf)) | ((with_reducible first | refine Run.drawX rfl (by decide +kernel) ?_ | refine Run.drawT rfl (by decide +kernel) ?_ | refine Run.drawW rfl (by decide +kernel) ?_); conv => whnf) | fail)
        all_goals try (exfalso; omega)
        refine Run.to _ _ ?_ ?_ (IH3 (c + 1) (by omega) (by omega))
        · exact ⟨Le.refl _, Le.refl _, Le.refl _, Le.refl _, Le.int hwc, trivial⟩
        · exact ⟨MOle.refl _, trivial⟩
      · have hsm := sites_more hok hvt hsub t.cols.length (Nat.le_refl _)
        have hso := sites_len t o t.cols.length
        refine Run.callBX (sites_fn t o hf) rfl rfl ⟨tb_le t (Le.refl _) (Le.refl _), Le.refl _, trivial⟩ rfl rfl rfl ?_
        rw [sitesL_ok hok hbo]
        generalize sitesE t o t.cols.length = l1 at hsm hso ⊢
        (conv => whnf); repeat' (first | ((with_reducible refine Know.mk fun _ => ?_); conv => whnf) | ((with_reducible refine Need.mk ?_ ?_); (first | omega | (dsimp only; omega) | decide | exact bytes_le (by rfl) (by omega) | exact ⟨rfl, by omega, bytes_le (by rfl) (by omega), by omega⟩ | (refine ⟨?_, ?_⟩ <;> (rw [wrap64 (by omega) (by omega)]; omega))); conv => whnf) | ((with_reducible refine Both.mk ?_ ?_) <;> conv => whnf) | ((with_reducible refine Any.mk fun b hb => ?_); conv => whnf) | ((with_reducible first | refine AskB.dec (fun hb => ?_) (fun hb => ?_) | refine AskB.ndec (fun hb => ?_) (fun hb => ?_) | refine AskB.mk (fun hb => ?_) (fun hb => ?_)) <;> first | (exfalso; omega) | (conv => whnf)) | ((with_reducible first | refine Run.drawX rfl (by decide +kernel) ?_ | refine Run.drawT rfl (by decide +kernel) ?_ | refine Run.drawW rfl (by decide +kernel) ?_); conv => whnf) | fail)
        refine Run.callBX (sites_fn t m hf) rfl rfl ⟨tb_le t (Le.refl _) (Le.refl _), Le.refl _, trivial⟩ rfl rfl rfl ?_
        rw [sitesL_ok hok hbm]
        generalize sitesE t m t.cols.length = l2 at hsm ⊢
        (conv => whnf); repeat' (first | ((with_reducible refine Know.mk fun _ => ?_); conv => whnf) | ((with_reducible refine Need.mk ?_ ?_); (first | omega | (dsimp only; omega) | decide | exact bytes_le (by rfl) (by omega) | exact ⟨rfl, by omega, bytes_le (by rfl) (by omega), by omega⟩ | (refine ⟨?_, ?_⟩ <;> (rw [wrap64 (by omega) (by omega)]; omega))); conv => whnf) | ((with_reducible refine Both.mk ?_ ?_) <;> conv => whnf) | ((with_reducible refine Any.mk fun b hb => ?_); conv => whnf) | ((with_reducible first | refine AskB.dec (fun hb => ?_) (fun hb => ?_) | refine AskB.ndec (fun hb => ?_) (fun hb => ?_) | refine AskB.mk (fun hb => ?_) (fun hb => ?_)) <;> first | (exfalso; omega) | (conv => whnf)) | ((with_reducible first | refine Run.drawX rfl (by decide +kernel) ?_ | refine Run.drawT rfl (by decide +kernel) ?_ | refine Run.drawW rfl (by decide +kernel) ?_); conv => whnf) | fail)
        all_goals try (exfalso; omega)
        all_goals first
          | exact Run.leave (ts := [6]) (.inr ⟨_, rfl⟩) rfl Tryd.func4 rfl (Le.refl _)
          | exact Run.leave (ts := [6]) (.inr ⟨_, rfl⟩) rfl Tryd.func4 rfl (Le.tt' (decide_eq_true (by omega)))
  · rw [he]
    (conv => whnf); repeat' (first | ((with_reducible refine Know.mk fun _ => ?_); conv => whnf) | ((with_reducible refine Need.mk ?_ ?_); (first | omega | (dsimp only; omega) | decide | exact bytes_le (by rfl) (by omega) | exact ⟨rfl, by omega, bytes_le (by rfl) (by omega), by omega⟩ | (refine ⟨?_, ?_⟩ <;> (rw [wrap64 (by omega) (by omega)]; omega))); conv => whnf) | ((with_reducible refine Both.mk ?_ ?_) <;> conv => whnf) | ((with_reducible refine Any.mk fun b hb => ?_); conv => whnf) | ((with_reducible first | refine AskB.dec (fun hb => ?_) (fun hb => ?_) | refine AskB.ndec (fun hb => ?_) (fun hb => ?_) | refine AskB.mk (fun hb => ?_) (fun hb => ?_)) <;> first | (exfalso; omega) | (conv => whnf)) | ((with_reducible first | refine Run.drawX rfl (by decide +kernel) ?_ | refine Run.drawT rfl (by decide +kernel) ?_ | refine Run.drawW rfl (by decide +kernel) ?_); conv => whnf) | fail)
    all_goals try (exfalso; omega)
    exact Run.leave (ts := [6]) (.inr ⟨_, rfl⟩) rfl Tryd.func4 rfl (Le.refl _)
end Go.Proofs.YtnadacaoehpdnaaDoor.V

namespace Go.Proofs.YtnadacaoehpdnaaDoor.V
set_option linter.unusedVariables false
set_option linter.unusedSimpArgs false
open Go Go.Proofs Go.RowKit
set_option maxRecDepth 100000
def bkWit (w : Wit) : Nat := w.name.size + w.head.size + sumL bkW w.words + 4
theorem dWs : Dec Tryd.prog 36 (tL tWrd) (fun l => sumL bkW l + 1) := Dec.slice (e := 40) (by kernel_rfl) (by kernel_rfl) (by decide) dWord
theorem dWit : Dec Tryd.prog 38 tWit bkWit :=
  Dec.map (fun x : ByteArray × ByteArray × List Wrd × Unit => ⟨x.1, x.2.1, x.2.2.1⟩) rfl (fun x j hj => match j, hj with | 0, _ => Le.refl _ | 1, _ => Le.refl _ | 2, _ => Le.refl _) (fun x => by simp only [bkWit]; omega)
    (Dec.struct (t := 38) (fs := #[⟨"Name", 9, 0, false, "", "", 0⟩, ⟨"Head", 9, 1, false, "", "", 16⟩, ⟨"Words", 36, 2, false, "", "", 32⟩]) (by kernel_rfl) (by kernel_rfl)
      (DecF.cons rfl (Dec.str (by kernel_rfl) (by kernel_rfl)) (DecF.cons rfl (Dec.str (by kernel_rfl) (by kernel_rfl)) (DecF.cons rfl dWs DecF.nil))))
theorem dInt : Dec Tryd.prog 3 tI (fun _ => 1) := Dec.int (by kernel_rfl) (by kernel_rfl)
def bkI (l : List Int) : Nat := sumL (fun _ => 1) l + 1
theorem dIs : Dec Tryd.prog 27 (tL tI) bkI := Dec.slice (e := 3) (by kernel_rfl) (by kernel_rfl) (by decide) dInt
def tTab : Ty Tab := ⟨2, tabG, ⟨[], []⟩⟩
def bkTab (t : Tab) : Nat := sumL bkWit t.wits + sumL bkI t.cols + 3
theorem dTab : Dec Tryd.prog 25 tTab bkTab :=
  Dec.map (fun x : List Wit × List (List Int) × Unit => ⟨x.1, x.2.1⟩) rfl (fun x j hj => match j, hj with | 0, _ => Le.refl _ | 1, _ => Le.refl _) (fun x => by simp only [bkTab]; omega)
    (Dec.struct (t := 25) (fs := #[⟨"Wits", 22, 0, false, "", "", 0⟩, ⟨"Cols", 23, 1, false, "", "", 24⟩]) (by kernel_rfl) (by kernel_rfl)
      (DecF.cons rfl (Dec.slice (e := 38) (t := 22) (by kernel_rfl) (by kernel_rfl) (by decide) dWit) (DecF.cons rfl (Dec.slice (e := 27) (t := 23) (by kernel_rfl) (by kernel_rfl) (by decide) dIs) DecF.nil)))
theorem argTab : Arg Tryd.prog 25 tbA bkTab := Arg.struct (T := tTab) (fs := #[⟨"Wits", 22, 0, false, "", "", 0⟩, ⟨"Cols", 23, 1, false, "", "", 24⟩]) (by kernel_rfl) dTab
/-! ### bounds -/
theorem fitT_of {t : Tab} {n : Nat} (h : bkTab t ≤ n) (hn : n ≤ 1048576) : FitT t := by
  unfold bkTab at h
  have h1 := sumL_len bkWit (fun w => by unfold bkWit; omega) t.wits
  have h2 := sumL_len bkI (fun w => by unfold bkI; omega) t.cols
  refine ⟨by omega, by omega, fun l hl => ?_, fun w hw => ?_, fun w hw => ?_⟩
  · have h3 : sumL (fun _ : Int => 1) l + 1 ≤ sumL bkI t.cols := sumL_mem bkI hl
    have h4 := sumL_len (fun _ : Int => 1) (fun _ => Nat.le_refl _) l
    omega
  · have h3 : w.name.size + w.head.size + sumL bkW w.words + 4 ≤ sumL bkWit t.wits := sumL_mem bkWit hw
    omega
  · have h3 : w.name.size + w.head.size + sumL bkW w.words + 4 ≤ sumL bkWit t.wits := sumL_mem bkWit hw
    obtain ⟨f1, f2, f3⟩ := fitW_of (s := w.head) (l := w.words) (n := 1048576) (by omega) (by omega)
    have h4 := bkW_sum w.words
    exact ⟨f1, by omega, f3⟩
end Go.Proofs.YtnadacaoehpdnaaDoor.V

