/-
The texts BGc, BGd, BGe, BGf, BTe, BGg, BGh, BGi, of each what the law needs.
-/
import Derived.Test.YtnadacaoehpdnaaDoorQGa4
namespace Go.Proofs.YtnadacaoehpdnaaDoor.V
set_option linter.unusedVariables false
set_option linter.unusedSimpArgs false
open Go Go.Proofs Go.RowKit
set_option maxRecDepth 100000
set_option maxHeartbeats 4000000
theorem mget_mset' {α β : Type} [DecidableEq α] (k k' : α) (v : β) : ∀ l : List (α × β), mget k' (mset k v l) = if k' = k then some v else mget k' l
  | [] => by
    unfold mset mget
    by_cases h : k' = k
    · rw [if_pos h, if_pos h]
    · rw [if_neg h, if_neg h]; rfl
  | p :: l => by
    unfold mset
    by_cases h1 : k = p.1
    · rw [if_pos h1]
      unfold mget
      by_cases h : k' = k
      · rw [if_pos h, if_pos h]
      · rw [if_neg h, if_neg h, if_neg (fun e => h (e.trans h1.symm))]
    · rw [if_neg h1]
      unfold mget
      by_cases h2 : k' = p.1
      · rw [if_pos h2, if_pos h2, if_neg (fun e => h1 (e.symm.trans h2))]
      · rw [if_neg h2, if_neg h2, mget_mset' k k' v l]
theorem fidx_none {α : Type} {p : α → Bool} {z : α} : ∀ {l : List α}, (∀ k, k < l.length → p (l.getD k z) = false) → l.findIdx p = l.length
  | [], _ => rfl
  | x :: l, h => by
    have h0 := h 0 (by simp)
    rw [List.getD_cons_zero] at h0
    rw [List.findIdx_cons, h0, cond_false, fidx_none (z := z) (l := l) (fun k hk => by have := h (k + 1) (by simpa using hk); rw [List.getD_cons_succ] at this; exact this)]; rfl
theorem fidx_at {α : Type} {p : α → Bool} {z : α} {l : List α} {k : Nat} (hk : k < l.length) (h : p (l.getD k z) = true) (hj : ∀ j, j < k → p (l.getD j z) = false) : l.findIdx p = k := by
  refine fidx_hit (z := z) ?_ hk h
  have : ∀ m, m ≤ k → m ≤ l.findIdx p := fun m => by
    induction m with
    | zero => intro _; exact Nat.zero_le _
    | succ m ih => intro hm; exact fidx_miss (z := z) (ih (by omega)) (by omega) (hj m (by omega))
  exact this k (Nat.le_refl _)
theorem push_same (l : List Rd) (k : Nat) (i : Int) (j : Nat) : ((pushW l k i).getD j rd0).none = (l.getD j rd0).none ∧ ((pushW l k i).getD j rd0).text = (l.getD j rd0).text := by
  unfold pushW
  by_cases e : j = k
  · subst e
    by_cases hj : j < l.length
    · rw [List.getD, List.getElem?_set_self hj]; exact ⟨rfl, rfl⟩
    · rw [List.set_eq_of_length_le (by omega)]; exact ⟨rfl, rfl⟩
  · rw [List.getD, List.getElem?_set_ne (Ne.symm e)]; exact ⟨rfl, rfl⟩
/-- What the walk knows of its readings: where the one without words is, under which number each key is. -/
structure ColI (o : Int) (l : List Rd) (none : Int) (at' : List (ByteArray × Int)) : Prop where
  nn : (none = -1 ∧ ∀ k, k < l.length → (l.getD k rd0).none = false) ∨ (∃ k, k < l.length ∧ none = (k : Nat) ∧ (l.getD k rd0).none = true ∧ ∀ j, j < l.length → (l.getD j rd0).none = true → j = k)
  key : ∀ (s : ByteArray) (v : Int), mget s at' = some v ↔ ∃ k, k < l.length ∧ v = (k : Nat) ∧ (l.getD k rd0).none = false ∧ textF (l.getD k rd0).text o = s
  text : ∀ k, k < l.length → (l.getD k rd0).none = true → (l.getD k rd0).text = .empty
theorem ColI.push {o : Int} {l : List Rd} {none : Int} {at' : List (ByteArray × Int)} (h : ColI o l none at') (k : Nat) (i : Int) : ColI o (pushW l k i) none at' := by
  have hl := push_len l k i
  have hs := push_same l k i
  constructor
  · rcases h.nn with ⟨h1, h2⟩ | ⟨j, h1, h2, h3, h4⟩
    · exact .inl ⟨h1, fun m hm => by rw [(hs m).1]; exact h2 m (by omega)⟩
    · exact .inr ⟨j, by omega, h2, by rw [(hs j).1]; exact h3, fun m hm hn => h4 m (by omega) (by rw [← (hs m).1]; exact hn)⟩
  · intro s v
    rw [h.key s v]
    constructor
    · rintro ⟨m, h1, h2, h3, h4⟩; exact ⟨m, by omega, h2, by rw [(hs m).1]; exact h3, by rw [(hs m).2]; exact h4⟩
    · rintro ⟨m, h1, h2, h3, h4⟩; exact ⟨m, by omega, h2, by rw [← (hs m).1]; exact h3, by rw [← (hs m).2]; exact h4⟩
  · intro m hm hn
    rw [(hs m).2]
    exact h.text m (by omega) (by rw [← (hs m).1]; exact hn)
theorem ColI.start (o : Int) : ColI o [] (-1) [] := ⟨.inl ⟨rfl, fun k hk => absurd hk (Nat.not_lt_zero _)⟩, fun s v => ⟨fun h => (by cases h), fun ⟨k, hk, _⟩ => absurd hk (Nat.not_lt_zero _)⟩, fun k hk => absurd hk (Nat.not_lt_zero _)⟩
theorem app_at {l : List Rd} {r : Rd} {k : Nat} (hk : k < (l ++ [r]).length) : (k < l.length ∧ (l ++ [r]).getD k rd0 = l.getD k rd0) ∨ (k = l.length ∧ (l ++ [r]).getD k rd0 = r) := by
  rw [List.length_append, List.length_singleton] at hk
  by_cases h : k < l.length
  · exact .inl ⟨h, getD_app1 h⟩
  · obtain rfl : k = l.length := by omega
    exact .inr ⟨rfl, getD_app2⟩
theorem ColI.addNone {o : Int} {l : List Rd} {at' : List (ByteArray × Int)} (h : ColI o l (-1) at') : ColI o (l ++ [⟨true, .empty, []⟩]) (l.length : Nat) at' := by
  have hno : ∀ k, k < l.length → (l.getD k rd0).none = false := by
    rcases h.nn with ⟨_, h2⟩ | ⟨j, _, h2, _⟩
    · exact h2
    · omega
  have hlen : (l ++ [(⟨true, .empty, []⟩ : Rd)]).length = l.length + 1 := by simp
  constructor
  · refine .inr ⟨l.length, by omega, rfl, by rw [getD_app2], fun j hj hn => ?_⟩
    rcases app_at hj with ⟨h1, h2⟩ | ⟨h1, _⟩
    · rw [h2, hno j h1] at hn; cases hn
    · exact h1
  · intro s v
    rw [h.key s v]
    constructor
    · rintro ⟨m, h1, h2, h3, h4⟩; exact ⟨m, by omega, h2, by rw [getD_app1 h1]; exact h3, by rw [getD_app1 h1]; exact h4⟩
    · rintro ⟨m, h1, h2, h3, h4⟩
      rcases app_at h1 with ⟨e1, e2⟩ | ⟨e1, e2⟩
      · rw [e2] at h3 h4; exact ⟨m, e1, h2, h3, h4⟩
      · rw [e2] at h3; cases h3
  · intro m hm hn
    rcases app_at hm with ⟨e1, e2⟩ | ⟨e1, e2⟩
    · rw [e2] at hn ⊢; exact h.text m e1 hn
    · rw [e2]
theorem ColI.addKey {o : Int} {l : List Rd} {none : Int} {at' : List (ByteArray × Int)} (h : ColI o l none at') (text : ByteArray) (hno : mget (textF text o) at' = .none) : ColI o (l ++ [⟨false, text, []⟩]) none (mset (textF text o) ((l.length : Nat) : Int) at') := by
  have hlen : (l ++ [(⟨false, text, []⟩ : Rd)]).length = l.length + 1 := by simp
  constructor
  · rcases h.nn with ⟨h1, h2⟩ | ⟨j, h1, h2, h3, h4⟩
    · refine .inl ⟨h1, fun k hk => ?_⟩
      rcases app_at hk with ⟨e1, e2⟩ | ⟨e1, e2⟩
      · rw [e2]; exact h2 k e1
      · rw [e2]
    · refine .inr ⟨j, by omega, h2, by rw [getD_app1 h1]; exact h3, fun m hm hn => ?_⟩
      rcases app_at hm with ⟨e1, e2⟩ | ⟨e1, e2⟩
      · rw [e2] at hn; exact h4 m e1 hn
      · rw [e2] at hn; cases hn
  · intro s v
    rw [mget_mset']
    by_cases e : s = textF text o
    · subst e
      rw [if_pos rfl]
      constructor
      · intro hv; cases hv; exact ⟨l.length, by omega, rfl, by rw [getD_app2], by rw [getD_app2]⟩
      · rintro ⟨m, h1, h2, h3, h4⟩
        rcases app_at h1 with ⟨e1, e2⟩ | ⟨e1, e2⟩
        · rw [e2] at h3 h4
          have := (h.key _ ((m : Nat) : Int)).mpr ⟨m, e1, rfl, h3, h4⟩
          rw [hno] at this; cases this
        · rw [h2, e1]
    · rw [if_neg e, h.key s v]
      constructor
      · rintro ⟨m, h1, h2, h3, h4⟩; exact ⟨m, by omega, h2, by rw [getD_app1 h1]; exact h3, by rw [getD_app1 h1]; exact h4⟩
      · rintro ⟨m, h1, h2, h3, h4⟩
        rcases app_at h1 with ⟨e1, e2⟩ | ⟨e1, e2⟩
        · rw [e2] at h3 h4; exact ⟨m, e1, h2, h3, h4⟩
        · rw [e2] at h4; exact absurd h4.symm e
  · intro m hm hn
    rcases app_at hm with ⟨e1, e2⟩ | ⟨e1, e2⟩
    · rw [e2] at hn ⊢; exact h.text m e1 hn
    · rw [e2] at hn; cases hn
theorem ColI.findNone {o : Int} {l : List Rd} {none : Int} {at' : List (ByteArray × Int)} (h : ColI o l none at') : (none = -1 ∧ l.findIdx (sameR o true .empty) = l.length) ∨ (none = (l.findIdx (sameR o true .empty) : Nat) ∧ l.findIdx (sameR o true .empty) < l.length) := by
  rcases h.nn with ⟨h1, h2⟩ | ⟨k, h1, h2, h3, h4⟩
  · exact .inl ⟨h1, fidx_none (z := rd0) (fun k hk => by unfold sameR; rw [h2 k hk]; rfl)⟩
  · have := fidx_at (z := rd0) (p := sameR o true .empty) h1 (by unfold sameR; rw [h3, h.text k h1 h3, textF_empty]; rfl) (fun j hj => by
      unfold sameR
      cases hn : (l.getD j rd0).none with
      | false => rfl
      | true => exact absurd (h4 j (by omega) hn) (by omega))
    rw [this]
    exact .inr ⟨h2, h1⟩
theorem ColI.findKey {o : Int} {l : List Rd} {none : Int} {at' : List (ByteArray × Int)} (h : ColI o l none at') (s : ByteArray) : (mget s at' = .none ∧ l.findIdx (sameR o false s) = l.length) ∨ (mget s at' = some ((l.findIdx (sameR o false s) : Nat) : Int) ∧ l.findIdx (sameR o false s) < l.length) := by
  have hp : ∀ k, sameR o false s (l.getD k rd0) = true ↔ ((l.getD k rd0).none = false ∧ textF (l.getD k rd0).text o = s) := fun k => by
    unfold sameR
    rw [Bool.and_eq_true, decide_eq_true_iff]
    simp
  cases hg : mget s at' with
  | none =>
    refine .inl ⟨rfl, fidx_none (z := rd0) (fun k hk => ?_)⟩
    cases hq : sameR o false s (l.getD k rd0) with
    | false => rfl
    | true =>
      obtain ⟨h1, h2⟩ := (hp k).mp hq
      have := (h.key s ((k : Nat) : Int)).mpr ⟨k, hk, rfl, h1, h2⟩
      rw [hg] at this; cases this
  | some v =>
    obtain ⟨k, hk, hv, h1, h2⟩ := (h.key s v).mp hg
    have := fidx_at (z := rd0) (p := sameR o false s) hk ((hp k).mpr ⟨h1, h2⟩) (fun j hj => by
      cases hq : sameR o false s (l.getD j rd0) with
      | false => rfl
      | true =>
        obtain ⟨e1, e2⟩ := (hp j).mp hq
        have := (h.key s ((j : Nat) : Int)).mpr ⟨j, by omega, rfl, e1, e2⟩
        rw [hg] at this
        injection this with e
        omega)
    rw [this, hv]
    exact .inr ⟨rfl, hk⟩
theorem column_fn (t : Tab) (c : Nat) (o : Int) (hf : FitT t) (hok : OkT t) (hc : c < t.cols.length) (ho : ¬ badO o) : Fn Tryd.prog 39 [tbA t, .int .i64 c, .int .i64 o] (tRd.L (readE t c o t.wits.length)) := by
  refine Fn.of Tryd.f39 _ Tryd.func39 rfl (by decide) (by show 3 ≤ _; decide) tbOk 99 rfl fun S w0 gl => ?_
  have hn12 := hok.n12
  have hfc := hf.cols
  have hlen : (t.cols.getD (c : Int).toNat tIL.z).length = t.wits.length := (hok.col c hc).1
  refine Run.go ?_; (conv => whnf); repeat' (first | ((with_reducible refine Know.mk fun _ => ?_); conv => whnf) | ((with_reducible refine Need.mk ?_ ?_); (first | omega | (dsimp only; omega) | decide | exact bytes_le (by rfl) (by omega) | exact ⟨rfl, by omega, bytes_le (by rfl) (by omega), by omega⟩ | (refine ⟨?_, ?_⟩ <;> (rw [wrap64 (by omega) (by omega)]; omega))); conv => whnf) | ((with_reducible first | refine Both.mk ?_ ?_ | refine Any.mk fun b hb => ?_ | refine AskB.dec (fun hb => ?_) (fun hb => ?_) | refine AskB.ndec (fun hb => ?_) (fun hb => ?_) | refine AskB.mk (fun hb => ?_) (fun hb => ?_)) <;> conv => whnf) | ((with_reducible first | refine Run.drawX rfl (by decide +kernel) ?_ | refine Run.drawT rfl (by decide +kernel) ?_ | refine Run.drawW rfl (by decide +kernel) ?_); conv => whnf) | fail)
  refine Run.holdNil 7 1000 47 3 (fun _ _ => .nils) rfl ?_
  refine Run.asMat 1000 2 3 1 (e := 47) (sz := 3) (n := 0) (get := fun _ _ => .nils) rfl (by decide) (fun i hi => absurd hi (Nat.not_lt_zero _)) ?_
  refine Run.loop [2, 22, 23] (fun (a : Nat × Int × List (ByteArray × Int)) => [(3, .box 3 0), (7, .row 1000), (8, .obj 17), (9, .int .i64 a.2.1), (24, .int .i64 (a.1 : Int))]) (fun a => [(3, .box 25 [tWit.L t.wits, tIL.L t.cols]), (1000, rdM (readE t c o a.1)), (17, .mp (.si a.2.2))])
    (fun a => a.1 ≤ t.wits.length ∧ ColI o (readE t c o a.1) a.2.1 a.2.2) (fun a => t.wits.length - a.1) (0, -1, []) ⟨Nat.zero_le _, ColI.start o⟩ ⟨Le.refl _, Le.refl _, Le.refl _, Le.refl _, Le.refl _, trivial⟩ ⟨MOle.refl _, rdM_nil _ _ _, MOle.refl _, trivial⟩ ?_
  intro ⟨i, no, at'⟩ ⟨hi, hI⟩ IH
  simp only [] at hi hI ⊢
  have hwi : IntKind.i64.wrap ((i : Int) + 1) = ((i + 1 : Nat) : Int) := wrap64 (by omega) (by omega)
  have hrl := read_len t c o i
  have hwl := wits_le t c o i
  show Run _ _ (lst (_ ++ [(3, .box 3 0), (7, .row 1000), (8, .obj 17), (9, .int .i64 no), (24, .int .i64 (i : Int))])) (lstH [(3, .box 25 [tWit.L t.wits, tIL.L t.cols]), (1000, rdM (readE t c o i)), (17, .mp (.si at'))])
  by_cases hil : i < t.wits.length
  · obtain ⟨_, hat⟩ := at_ok hok hc hil
    have hx : (t.cols.getD (c : Int).toNat tIL.z).getD (i : Int).toNat tI.z = atC t c i := rfl
    have hlw2 : (t.wits.getD (i : Int).toNat tWit.z).words.length = (witAt t i).words.length := rfl
    have hts := text_small hf hok hc i hil
    have hnx : readE t c o (i + 1) = addR o (readE t c o i) i (decide (atC t c i < 0)) (textAt t c i) (keyAt t c o i) := rfl
    generalize readE t c o i = l at hrl hwl hnx hI ⊢
    have hewl : ∀ k nn text, ∀ r ∈ ensR l k nn text, r.wits.length ≤ i := fun k nn text r hr => by
      unfold ensR at hr
      split at hr
      · rcases List.mem_append.mp hr with h1 | h1
        · exact hwl r h1
        · rw [List.mem_singleton] at h1; subst h1; exact Nat.zero_le _
      · exact hwl r hr
    refine Run.goS true 0 ?_; (conv => whnf); repeat' (first | ((with_reducible refine Know.mk fun _ => ?_); conv => whnf) | ((with_reducible refine Need.mk ?_ ?_); (first | omega | (dsimp only; omega) | decide | exact bytes_le (by rfl) (by omega) | exact ⟨rfl, by omega, bytes_le (by rfl) (by omega), by omega⟩ | (refine ⟨?_, ?_⟩ <;> (rw [wrap64 (by omega) (by omega)]; omega))); conv => whnf) | ((with_reducible first | refine Both.mk ?_ ?_ | refine Any.mk fun b hb => ?_ | refine AskB.dec (fun hb => ?_) (fun hb => ?_) | refine AskB.ndec (fun hb => ?_) (fun hb => ?_) | refine AskB.mk (fun hb => ?_) (fun hb => ?_)) <;> conv => whnf) | ((with_reducible first | refine Run.drawX rfl (by decide +kernel) ?_ | refine Run.drawT rfl (by decide +kernel) ?_ | refine Run.drawW rfl (by decide +kernel) ?_); conv => whnf) | fail)
    refine Run.cond2 rfl (fun hb => ?_) (fun hb => absurd (of_decide_eq_false hb) (by omega))
    refine Run.goS true 0 ?_; (conv => whnf); repeat' (first | ((with_reducible refine Know.mk fun _ => ?_); conv => whnf) | ((with_reducible refine Need.mk ?_ ?_); (first | omega | (dsimp only; omega) | decide | exact bytes_le (by rfl) (by omega) | exact ⟨rfl, by omega, bytes_le (by rfl) (by omega), by omega⟩ | (refine ⟨?_, ?_⟩ <;> (rw [wrap64 (by omega) (by omega)]; omega))); conv => whnf) | ((with_reducible first | refine Both.mk ?_ ?_ | refine Any.mk fun b hb => ?_ | refine AskB.dec (fun hb => ?_) (fun hb => ?_) | refine AskB.ndec (fun hb => ?_) (fun hb => ?_) | refine AskB.mk (fun hb => ?_) (fun hb => ?_)) <;> conv => whnf) | ((with_reducible first | refine Run.drawX rfl (by decide +kernel) ?_ | refine Run.drawT rfl (by decide +kernel) ?_ | refine Run.drawW rfl (by decide +kernel) ?_); conv => whnf) | fail)
    refine Run.cond2 rfl (fun hb => ?_) (fun hb => ?_)
    · have hx0 : atC t c i < 0 := of_decide_eq_true hb
      have hte : textAt t c i = .empty := by unfold textAt; rw [if_pos hx0]
      have hke : keyAt t c o i = .empty := by unfold keyAt; rw [if_pos hx0]
      rw [hte, hke, decide_eq_true hx0] at hnx
      obtain ⟨k, hkd⟩ : ∃ k, l.findIdx (sameR o true .empty) = k := ⟨_, rfl⟩
      have hfn := hI.findNone
      rw [hkd] at hfn
      have hkl : k ≤ l.length := by rw [← hkd]; exact List.findIdx_le_length
      have hens := ens_len l k true .empty hkl
      have hadd : readE t c o (i + 1) = pushW (ensR l k true .empty) k i := by rw [hnx]; unfold addR; rw [hkd]
      have hI2 : ColI o (ensR l k true .empty) (k : Nat) at' := by
        unfold ensR
        rcases hfn with ⟨h1, h2⟩ | ⟨h1, h2⟩
        · rw [if_pos h2, h2]
          rw [h1] at hI
          exact hI.addNone
        · rw [if_neg (by omega), ← h1]; exact hI
      refine Run.goS true 0 ?_; (conv => whnf); repeat' (first | ((with_reducible refine Know.mk fun _ => ?_); conv => whnf) | ((with_reducible refine Need.mk ?_ ?_); (first | omega | (dsimp only; omega) | decide | exact bytes_le (by rfl) (by omega) | exact ⟨rfl, by omega, bytes_le (by rfl) (by omega), by omega⟩ | (refine ⟨?_, ?_⟩ <;> (rw [wrap64 (by omega) (by omega)]; omega))); conv => whnf) | ((with_reducible first | refine Both.mk ?_ ?_ | refine Any.mk fun b hb => ?_ | refine AskB.dec (fun hb => ?_) (fun hb => ?_) | refine AskB.ndec (fun hb => ?_) (fun hb => ?_) | refine AskB.mk (fun hb => ?_) (fun hb => ?_)) <;> conv => whnf) | ((with_reducible first | refine Run.drawX rfl (by decide +kernel) ?_ | refine Run.drawT rfl (by decide +kernel) ?_ | refine Run.drawW rfl (by decide +kernel) ?_); conv => whnf) | fail)
      refine Run.ifk [2, 3, 8, 10, 22, 23, 24] (fun (_ : Unit) => [(7, .row 1000), (9, .int .i64 (k : Int))]) (fun _ => [(3, .box 25 [tWit.L t.wits, tIL.L t.cols]), (1000, rdM (ensR l k true .empty)), (17, .mp (.si at'))]) (fun _ => True) rfl ⟨fun next => ⟨fun hb => ?_, fun hb => ?_⟩, fun _ _ => ?_⟩
      · have hb := of_decide_eq_true hb
        have hke : k = l.length := by omega
        have hee : ensR l k true .empty = l ++ [⟨true, .empty, []⟩] := if_pos hke
        refine Run.goS false 7 ?_; (conv => whnf); repeat' (first | ((with_reducible refine Know.mk fun _ => ?_); conv => whnf) | ((with_reducible refine Need.mk ?_ ?_); (first | omega | (dsimp only; omega) | decide | exact bytes_le (by rfl) (by omega) | exact ⟨rfl, by omega, bytes_le (by rfl) (by omega), by omega⟩ | (refine ⟨?_, ?_⟩ <;> (rw [wrap64 (by omega) (by omega)]; omega))); conv => whnf) | ((with_reducible first | refine Both.mk ?_ ?_ | refine Any.mk fun b hb => ?_ | refine AskB.dec (fun hb => ?_) (fun hb => ?_) | refine AskB.ndec (fun hb => ?_) (fun hb => ?_) | refine AskB.mk (fun hb => ?_) (fun hb => ?_)) <;> conv => whnf) | ((with_reducible first | refine Run.drawX rfl (by decide +kernel) ?_ | refine Run.drawT rfl (by decide +kernel) ?_ | refine Run.drawW rfl (by decide +kernel) ?_); conv => whnf) | fail)
        refine Run.appendM (d := 38) (id := 1000) (z := 37) (t := 42) (t2 := 42) (e := 47) (sz := 3) (om := 2) (s := .tmp 35) (x := .tmp 37) rfl rfl rfl rfl rfl rfl rfl rfl rfl rfl rfl rfl rfl rfl rfl rfl (by decide) (Nat.le_of_ble_eq_true rfl) ⟨_, rfl, rfl⟩ ?_ ?_
        · show (l.length + 1) * 48 ≤ _
          omega
        refine Run.goS false 7 ?_; (conv => whnf); repeat' (first | ((with_reducible refine Know.mk fun _ => ?_); conv => whnf) | ((with_reducible refine Need.mk ?_ ?_); (first | omega | (dsimp only; omega) | decide | exact bytes_le (by rfl) (by omega) | exact ⟨rfl, by omega, bytes_le (by rfl) (by omega), by omega⟩ | (refine ⟨?_, ?_⟩ <;> (rw [wrap64 (by omega) (by omega)]; omega))); conv => whnf) | ((with_reducible first | refine Both.mk ?_ ?_ | refine Any.mk fun b hb => ?_ | refine AskB.dec (fun hb => ?_) (fun hb => ?_) | refine AskB.ndec (fun hb => ?_) (fun hb => ?_) | refine AskB.mk (fun hb => ?_) (fun hb => ?_)) <;> conv => whnf) | ((with_reducible first | refine Run.drawX rfl (by decide +kernel) ?_ | refine Run.drawT rfl (by decide +kernel) ?_ | refine Run.drawW rfl (by decide +kernel) ?_); conv => whnf) | fail)
        refine Run.holdM 7 1000 (z := 38) rfl rfl rfl ?_
        refine Run.to _ _ ?_ ?_ (next () trivial)
        · exact ⟨Le.refl _, Le.refl _, Le.refl _, Le.refl _, Le.refl _, Le.refl _, Le.refl _, Le.refl _, Le.int (by show (l.length : Int) = k; omega), trivial⟩
        · refine ⟨MOle.refl _, ?_, MOle.refl _, trivial⟩
          rw [hee]
          exact rdM_app l _ _ _ (Le.tt.trans (Le.refl _)) (Le.refl _)
      · have hb := of_decide_eq_false hb
        have hke : ¬ k = l.length := by omega
        have hee : ensR l k true .empty = l := if_neg hke
        refine Run.goS false 7 ?_; (conv => whnf); repeat' (first | ((with_reducible refine Know.mk fun _ => ?_); conv => whnf) | ((with_reducible refine Need.mk ?_ ?_); (first | omega | (dsimp only; omega) | decide | exact bytes_le (by rfl) (by omega) | exact ⟨rfl, by omega, bytes_le (by rfl) (by omega), by omega⟩ | (refine ⟨?_, ?_⟩ <;> (rw [wrap64 (by omega) (by omega)]; omega))); conv => whnf) | ((with_reducible first | refine Both.mk ?_ ?_ | refine Any.mk fun b hb => ?_ | refine AskB.dec (fun hb => ?_) (fun hb => ?_) | refine AskB.ndec (fun hb => ?_) (fun hb => ?_) | refine AskB.mk (fun hb => ?_) (fun hb => ?_)) <;> conv => whnf) | ((with_reducible first | refine Run.drawX rfl (by decide +kernel) ?_ | refine Run.drawT rfl (by decide +kernel) ?_ | refine Run.drawW rfl (by decide +kernel) ?_); conv => whnf) | fail)
        refine Run.to _ _ ?_ ?_ (next () trivial)
        · exact ⟨Le.refl _, Le.refl _, Le.refl _, Le.refl _, Le.refl _, Le.refl _, Le.refl _, Le.refl _, Le.int (by omega), trivial⟩
        · refine ⟨MOle.refl _, ?_, MOle.refl _, trivial⟩
          rw [hee]; exact MOle.refl _
      · have hwn : rdN (ensR l k true .empty) k ≤ i := hewl _ _ _ _ (getD_mem' k hens.1)
        generalize ensR l k true .empty = L at hens hadd hwn hI2 ⊢
        have hkL := hens.1
        have hwn2 : rdN L (k : Int).toNat ≤ i := hwn
        refine Run.go ?_; (conv => whnf); repeat' (first | ((with_reducible refine Know.mk fun _ => ?_); conv => whnf) | ((with_reducible refine Need.mk ?_ ?_); (first | omega | (dsimp only; omega) | decide | exact bytes_le (by rfl) (by omega) | exact ⟨rfl, by omega, bytes_le (by rfl) (by omega), by omega⟩ | (refine ⟨?_, ?_⟩ <;> (rw [wrap64 (by omega) (by omega)]; omega))); conv => whnf) | ((with_reducible first | refine Both.mk ?_ ?_ | refine Any.mk fun b hb => ?_ | refine AskB.dec (fun hb => ?_) (fun hb => ?_) | refine AskB.ndec (fun hb => ?_) (fun hb => ?_) | refine AskB.mk (fun hb => ?_) (fun hb => ?_)) <;> conv => whnf) | ((with_reducible first | refine Run.drawX rfl (by decide +kernel) ?_ | refine Run.drawT rfl (by decide +kernel) ?_ | refine Run.drawW rfl (by decide +kernel) ?_); conv => whnf) | fail)
        refine Run.takeM 45 2000 rfl rfl rfl ?_
        refine Run.go ?_; (conv => whnf); repeat' (first | ((with_reducible refine Know.mk fun _ => ?_); conv => whnf) | ((with_reducible refine Need.mk ?_ ?_); (first | omega | (dsimp only; omega) | decide | exact bytes_le (by rfl) (by omega) | exact ⟨rfl, by omega, bytes_le (by rfl) (by omega), by omega⟩ | (refine ⟨?_, ?_⟩ <;> (rw [wrap64 (by omega) (by omega)]; omega))); conv => whnf) | ((with_reducible first | refine Both.mk ?_ ?_ | refine Any.mk fun b hb => ?_ | refine AskB.dec (fun hb => ?_) (fun hb => ?_) | refine AskB.ndec (fun hb => ?_) (fun hb => ?_) | refine AskB.mk (fun hb => ?_) (fun hb => ?_)) <;> conv => whnf) | ((with_reducible first | refine Run.drawX rfl (by decide +kernel) ?_ | refine Run.drawT rfl (by decide +kernel) ?_ | refine Run.drawW rfl (by decide +kernel) ?_); conv => whnf) | fail)
        refine Run.to _ _ ?_ ?_ (IH (i + 1, k, at') (by simp only []; omega) ⟨by simp only []; omega, by simp only []; rw [hadd]; exact hI2.push k i⟩)
        · exact ⟨Le.refl _, Le.refl _, Le.refl _, Le.refl _, Le.refl _, Le.refl _, Le.refl _, Le.int hwi, trivial⟩
        · refine ⟨MOle.refl _, ?_, MOle.refl _, trivial⟩
          simp only []
          rw [hadd]
          exact rdM_push L k i hkL _ rfl
    · have hx0 : ¬ atC t c i < 0 := of_decide_eq_false hb
      have hxl : (atC t c i).toNat < (witAt t i).words.length := by omega
      have hte : textAt t c i = ((witAt t i).words.getD (atC t c i).toNat tWrd.z).text := by unfold textAt; rw [if_neg hx0]
      have hke : keyAt t c o i = textF (textAt t c i) o := by unfold keyAt; rw [if_neg hx0]
      have ht := text26_fn (textAt t c i) o hts
      unfold textL at ht
      rw [if_neg ho, if_neg ho] at ht
      rw [hke, decide_eq_false hx0] at hnx
      generalize hT : textAt t c i = T at hte hke ht hnx hts
      obtain ⟨k, hkd⟩ : ∃ k, l.findIdx (sameR o false (textF T o)) = k := ⟨_, rfl⟩
      have hfk := hI.findKey (textF T o)
      rw [hkd] at hfk
      have hkl : k ≤ l.length := by rw [← hkd]; exact List.findIdx_le_length
      have hens := ens_len l k false T hkl
      have hadd : readE t c o (i + 1) = pushW (ensR l k false T) k i := by rw [hnx]; unfold addR; rw [hkd]
      have hwn : rdN (ensR l k false T) k ≤ i := hewl _ _ _ _ (getD_mem' k hens.1)
      refine Run.go ?_; (conv => whnf); repeat' (first | ((with_reducible refine Know.mk fun _ => ?_); conv => whnf) | ((with_reducible refine Need.mk ?_ ?_); (first | omega | (dsimp only; omega) | decide | exact bytes_le (by rfl) (by omega) | exact ⟨rfl, by omega, bytes_le (by rfl) (by omega), by omega⟩ | (refine ⟨?_, ?_⟩ <;> (rw [wrap64 (by omega) (by omega)]; omega))); conv => whnf) | ((with_reducible first | refine Both.mk ?_ ?_ | refine Any.mk fun b hb => ?_ | refine AskB.dec (fun hb => ?_) (fun hb => ?_) | refine AskB.ndec (fun hb => ?_) (fun hb => ?_) | refine AskB.mk (fun hb => ?_) (fun hb => ?_)) <;> conv => whnf) | ((with_reducible first | refine Run.drawX rfl (by decide +kernel) ?_ | refine Run.drawT rfl (by decide +kernel) ?_ | refine Run.drawW rfl (by decide +kernel) ?_); conv => whnf) | fail)
      refine Run.callBX ht rfl rfl ⟨Le.str hte.symm, Le.refl _, trivial⟩ rfl rfl rfl ?_
      rcases hfk with ⟨hg, hk⟩ | ⟨hg, hk⟩
      · have hs1 : (mget (textF T o) at').isSome = false := by rw [hg]; rfl
        have hee : ensR l k false T = l ++ [⟨false, T, []⟩] := if_pos hk
        have hI2 : ColI o (ensR l k false T) no (mset (textF T o) ((l.length : Nat) : Int) at') := by
          rw [hee]; exact hI.addKey T hg
        (conv => whnf); repeat' (first | ((with_reducible refine Know.mk fun _ => ?_); conv => whnf) | ((with_reducible refine Need.mk ?_ ?_); (first | omega | (dsimp only; omega) | decide | exact bytes_le (by rfl) (by omega) | exact ⟨rfl, by omega, bytes_le (by rfl) (by omega), by omega⟩ | (refine ⟨?_, ?_⟩ <;> (rw [wrap64 (by omega) (by omega)]; omega))); conv => whnf) | ((with_reducible first | refine Both.mk ?_ ?_ | refine Any.mk fun b hb => ?_ | refine AskB.dec (fun hb => ?_) (fun hb => ?_) | refine AskB.ndec (fun hb => ?_) (fun hb => ?_) | refine AskB.mk (fun hb => ?_) (fun hb => ?_)) <;> conv => whnf) | ((with_reducible first | refine Run.drawX rfl (by decide +kernel) ?_ | refine Run.drawT rfl (by decide +kernel) ?_ | refine Run.drawW rfl (by decide +kernel) ?_); conv => whnf) | fail)
        all_goals try (rw [hs1] at hb; cases hb; done)
        refine Run.appendM (d := 84) (id := 1000) (z := 83) (t := 42) (t2 := 42) (e := 47) (sz := 3) (om := 2) (s := .tmp 80) (x := .tmp 83) rfl rfl rfl rfl rfl rfl rfl rfl rfl rfl rfl rfl rfl rfl rfl rfl (by decide) (Nat.le_of_ble_eq_true rfl) ⟨_, rfl, rfl⟩ ?_ ?_
        · show (l.length + 1) * 48 ≤ _
          omega
        refine aexec_ok 1 ?_; (conv => whnf); repeat' (first | ((with_reducible refine Know.mk fun _ => ?_); conv => whnf) | ((with_reducible refine Need.mk ?_ ?_); (first | omega | (dsimp only; omega) | decide | exact bytes_le (by rfl) (by omega) | exact ⟨rfl, by omega, bytes_le (by rfl) (by omega), by omega⟩ | (refine ⟨?_, ?_⟩ <;> (rw [wrap64 (by omega) (by omega)]; omega))); conv => whnf) | ((with_reducible first | refine Both.mk ?_ ?_ | refine Any.mk fun b hb => ?_ | refine AskB.dec (fun hb => ?_) (fun hb => ?_) | refine AskB.ndec (fun hb => ?_) (fun hb => ?_) | refine AskB.mk (fun hb => ?_) (fun hb => ?_)) <;> conv => whnf) | ((with_reducible first | refine Run.drawX rfl (by decide +kernel) ?_ | refine Run.drawT rfl (by decide +kernel) ?_ | refine Run.drawW rfl (by decide +kernel) ?_); conv => whnf) | fail)
        refine Run.holdM 7 1000 (z := 84) rfl rfl rfl ?_
        refine Run.to [(2, .int .i64 o), (3, .box 3 0), (7, .row 1000), (8, .obj 17), (9, .int .i64 no), (10, .int .i64 i), (15, .int .i64 (k : Int)), (22, .sl (t.cols.getD (c : Int).toNat tIL.z).length tI.sz (tI.G (t.cols.getD (c : Int).toNat tIL.z))), (23, .int .i64 (t.cols.getD (c : Int).toNat tIL.z).length), (24, .int .i64 i)] [(3, .box 25 [tWit.L t.wits, tIL.L t.cols]), (1000, rdM (ensR l k false T)), (17, .mp (.si (mset (textF T o) ((l.length : Nat) : Int) at')))] ?_ ?_ ?_
        · exact ⟨Le.refl _, Le.refl _, Le.refl _, Le.refl _, Le.refl _, Le.refl _, Le.int (by show (l.length : Int) = k; omega), Le.refl _, Le.refl _, Le.refl _, trivial⟩
        · refine ⟨MOle.refl _, ?_, MOle.refl _, trivial⟩
          rw [hee]
          exact rdM_app l _ _ _ (Le.ff.trans (Le.refl _)) (Le.str hte.symm)
        generalize ensR l k false T = L at hens hadd hwn hI2 ⊢
        have hkL := hens.1
        have hwn2 : rdN L (k : Int).toNat ≤ i := hwn
        refine Run.go ?_; (conv => whnf); repeat' (first | ((with_reducible refine Know.mk fun _ => ?_); conv => whnf) | ((with_reducible refine Need.mk ?_ ?_); (first | omega | (dsimp only; omega) | decide | exact bytes_le (by rfl) (by omega) | exact ⟨rfl, by omega, bytes_le (by rfl) (by omega), by omega⟩ | (refine ⟨?_, ?_⟩ <;> (rw [wrap64 (by omega) (by omega)]; omega))); conv => whnf) | ((with_reducible first | refine Both.mk ?_ ?_ | refine Any.mk fun b hb => ?_ | refine AskB.dec (fun hb => ?_) (fun hb => ?_) | refine AskB.ndec (fun hb => ?_) (fun hb => ?_) | refine AskB.mk (fun hb => ?_) (fun hb => ?_)) <;> conv => whnf) | ((with_reducible first | refine Run.drawX rfl (by decide +kernel) ?_ | refine Run.drawT rfl (by decide +kernel) ?_ | refine Run.drawW rfl (by decide +kernel) ?_); conv => whnf) | fail)
        refine Run.takeM 91 2000 rfl rfl rfl ?_
        refine Run.go ?_; (conv => whnf); repeat' (first | ((with_reducible refine Know.mk fun _ => ?_); conv => whnf) | ((with_reducible refine Need.mk ?_ ?_); (first | omega | (dsimp only; omega) | decide | exact bytes_le (by rfl) (by omega) | exact ⟨rfl, by omega, bytes_le (by rfl) (by omega), by omega⟩ | (refine ⟨?_, ?_⟩ <;> (rw [wrap64 (by omega) (by omega)]; omega))); conv => whnf) | ((with_reducible first | refine Both.mk ?_ ?_ | refine Any.mk fun b hb => ?_ | refine AskB.dec (fun hb => ?_) (fun hb => ?_) | refine AskB.ndec (fun hb => ?_) (fun hb => ?_) | refine AskB.mk (fun hb => ?_) (fun hb => ?_)) <;> conv => whnf) | ((with_reducible first | refine Run.drawX rfl (by decide +kernel) ?_ | refine Run.drawT rfl (by decide +kernel) ?_ | refine Run.drawW rfl (by decide +kernel) ?_); conv => whnf) | fail)
        refine Run.to _ _ ?_ ?_ (IH (i + 1, no, mset (textF T o) ((l.length : Nat) : Int) at') (by simp only []; omega) ⟨by simp only []; omega, by simp only []; rw [hadd]; exact hI2.push k i⟩)
        · exact ⟨Le.refl _, Le.refl _, Le.refl _, Le.refl _, Le.refl _, Le.refl _, Le.refl _, Le.int hwi, trivial⟩
        · refine ⟨MOle.refl _, ?_, MOle.refl _, trivial⟩
          simp only []
          rw [hadd]
          exact rdM_push L k i hkL _ rfl
      · have hs1 : (mget (textF T o) at').isSome = true := by rw [hg]; rfl
        have hs2 : (mget (textF T o) at').getD 0 = (k : Nat) := by rw [hg]; rfl
        have hee : ensR l k false T = l := if_neg (by omega)
        rw [hee] at hadd hwn
        have hwn2 : rdN l ((mget (textF T o) at').getD 0).toNat ≤ i := by rw [hs2]; exact hwn
        (conv => whnf); repeat' (first | ((with_reducible refine Know.mk fun _ => ?_); conv => whnf) | ((with_reducible refine Need.mk ?_ ?_); (first | omega | (dsimp only; omega) | decide | exact bytes_le (by rfl) (by omega) | exact ⟨rfl, by omega, bytes_le (by rfl) (by omega), by omega⟩ | (refine ⟨?_, ?_⟩ <;> (rw [wrap64 (by omega) (by omega)]; omega))); conv => whnf) | ((with_reducible first | refine Both.mk ?_ ?_ | refine Any.mk fun b hb => ?_ | refine AskB.dec (fun hb => ?_) (fun hb => ?_) | refine AskB.ndec (fun hb => ?_) (fun hb => ?_) | refine AskB.mk (fun hb => ?_) (fun hb => ?_)) <;> conv => whnf) | ((with_reducible first | refine Run.drawX rfl (by decide +kernel) ?_ | refine Run.drawT rfl (by decide +kernel) ?_ | refine Run.drawW rfl (by decide +kernel) ?_); conv => whnf) | fail)
        all_goals try (rw [hs1] at hb; cases hb; done)
        refine Run.takeM 91 2000 rfl rfl rfl ?_
        rw [hs2]
        have hwn3 : rdN l (k : Int).toNat ≤ i := hwn
        refine Run.go ?_; (conv => whnf); repeat' (first | ((with_reducible refine Know.mk fun _ => ?_); conv => whnf) | ((with_reducible refine Need.mk ?_ ?_); (first | omega | (dsimp only; omega) | decide | exact bytes_le (by rfl) (by omega) | exact ⟨rfl, by omega, bytes_le (by rfl) (by omega), by omega⟩ | (refine ⟨?_, ?_⟩ <;> (rw [wrap64 (by omega) (by omega)]; omega))); conv => whnf) | ((with_reducible first | refine Both.mk ?_ ?_ | refine Any.mk fun b hb => ?_ | refine AskB.dec (fun hb => ?_) (fun hb => ?_) | refine AskB.ndec (fun hb => ?_) (fun hb => ?_) | refine AskB.mk (fun hb => ?_) (fun hb => ?_)) <;> conv => whnf) | ((with_reducible first | refine Run.drawX rfl (by decide +kernel) ?_ | refine Run.drawT rfl (by decide +kernel) ?_ | refine Run.drawW rfl (by decide +kernel) ?_); conv => whnf) | fail)
        refine Run.to _ _ ?_ ?_ (IH (i + 1, no, at') (by simp only []; omega) ⟨by simp only []; omega, by simp only []; rw [hadd]; exact hI.push k i⟩)
        · exact ⟨Le.refl _, Le.refl _, Le.refl _, Le.refl _, Le.refl _, Le.refl _, Le.refl _, Le.int hwi, trivial⟩
        · refine ⟨MOle.refl _, ?_, MOle.refl _, trivial⟩
          simp only []
          rw [hadd]
          exact rdM_push l k i hk _ rfl
  · obtain rfl : i = t.wits.length := by omega
    refine Run.go ?_; (conv => whnf); repeat' (first | ((with_reducible refine Know.mk fun _ => ?_); conv => whnf) | ((with_reducible refine Need.mk ?_ ?_); (first | omega | (dsimp only; omega) | decide | exact bytes_le (by rfl) (by omega) | exact ⟨rfl, by omega, bytes_le (by rfl) (by omega), by omega⟩ | (refine ⟨?_, ?_⟩ <;> (rw [wrap64 (by omega) (by omega)]; omega))); conv => whnf) | ((with_reducible first | refine Both.mk ?_ ?_ | refine Any.mk fun b hb => ?_ | refine AskB.dec (fun hb => ?_) (fun hb => ?_) | refine AskB.ndec (fun hb => ?_) (fun hb => ?_) | refine AskB.mk (fun hb => ?_) (fun hb => ?_)) <;> conv => whnf) | ((with_reducible first | refine Run.drawX rfl (by decide +kernel) ?_ | refine Run.drawT rfl (by decide +kernel) ?_ | refine Run.drawW rfl (by decide +kernel) ?_); conv => whnf) | fail)
    all_goals try (exfalso; omega)
    refine Run.leave (ts := [6]) (.inr ⟨_, rfl⟩) rfl Tryd.func39 rfl (rdM_out _)
end Go.Proofs.YtnadacaoehpdnaaDoor.V

namespace Go.Proofs.YtnadacaoehpdnaaDoor.V
set_option linter.unusedVariables false
set_option linter.unusedSimpArgs false
open Go Go.Proofs Go.RowKit
set_option maxRecDepth 100000
set_option maxHeartbeats 4000000
theorem tb_le (t : Tab) {g : Nat → AV} (h0 : Le (g 0) (tWit.L t.wits)) (h1 : Le (g 1) (tIL.L t.cols)) : Le (.agg 2 g) (tbA t) := Le.agg fun j hj => by
  match j, hj with
  | 0, _ => exact h0
  | 1, _ => exact h1
theorem ints_fn (a b : List Int) (ha : a.length ≤ 1000000000) : Fn Tryd.prog 17 [tI.L a, tI.L b] (.bool (decide (a = b))) := by
  refine Fn.of Tryd.f17 _ Tryd.func17 rfl (by decide) (by show 2 ≤ _; decide) tbOk 26 rfl fun S w0 gl => ?_
  refine Run.go ?_; (conv => whnf); repeat' (first | ((with_reducible refine Know.mk fun _ => ?_); conv => whnf) | ((with_reducible refine Need.mk ?_ ?_); (first | omega | (dsimp only; omega) | decide | exact bytes_le (by rfl) (by omega) | exact ⟨rfl, by omega, bytes_le (by rfl) (by omega), by omega⟩ | (refine ⟨?_, ?_⟩ <;> (rw [wrap64 (by omega) (by omega)]; omega))); conv => whnf) | ((with_reducible first | refine Both.mk ?_ ?_ | refine Any.mk fun b hb => ?_ | refine AskB.dec (fun hb => ?_) (fun hb => ?_) | refine AskB.ndec (fun hb => ?_) (fun hb => ?_) | refine AskB.mk (fun hb => ?_) (fun hb => ?_)) <;> conv => whnf) | ((with_reducible first | refine Run.drawX rfl (by decide +kernel) ?_ | refine Run.drawT rfl (by decide +kernel) ?_ | refine Run.drawW rfl (by decide +kernel) ?_); conv => whnf) | fail)
  · have hab : a.length = b.length := by omega
    refine Run.loop [0, 1] (fun (i : Nat) => [(5, .int .i64 (i : Int))]) (fun i => []) (fun i => i ≤ a.length ∧ a.take i = b.take i) (fun i => a.length - i) 0 ⟨Nat.zero_le _, rfl⟩ ⟨Le.refl _, trivial⟩ trivial ?_
    intro i ⟨hi, hc⟩ IH
    have hw : IntKind.i64.wrap ((i : Int) + 1) = ((i + 1 : Nat) : Int) := wrap64 (by omega) (by omega)
    refine Run.go ?_; (conv => whnf); repeat' (first | ((with_reducible refine Know.mk fun _ => ?_); conv => whnf) | ((with_reducible refine Need.mk ?_ ?_); (first | omega | (dsimp only; omega) | decide | exact bytes_le (by rfl) (by omega) | exact ⟨rfl, by omega, bytes_le (by rfl) (by omega), by omega⟩ | (refine ⟨?_, ?_⟩ <;> (rw [wrap64 (by omega) (by omega)]; omega))); conv => whnf) | ((with_reducible first | refine Both.mk ?_ ?_ | refine Any.mk fun b hb => ?_ | refine AskB.dec (fun hb => ?_) (fun hb => ?_) | refine AskB.ndec (fun hb => ?_) (fun hb => ?_) | refine AskB.mk (fun hb => ?_) (fun hb => ?_)) <;> conv => whnf) | ((with_reducible first | refine Run.drawX rfl (by decide +kernel) ?_ | refine Run.drawT rfl (by decide +kernel) ?_ | refine Run.drawW rfl (by decide +kernel) ?_); conv => whnf) | fail)
    · have he : a.getD i tI.z = b.getD i tI.z := hb
      refine Run.to _ _ ?_ ?_ (IH (i + 1) (by omega) ⟨by omega, ?_⟩)
      · exact ⟨Le.refl _, Le.refl _, Le.int hw, trivial⟩
      · exact trivial
      · rw [take_at a i tI.z (by omega), take_at b i tI.z (by omega), hc, he]
    · refine Run.leave (ts := [4]) (.inr ⟨_, rfl⟩) rfl Tryd.func17 rfl (Le.ff.trans (Le.bool (decide_eq_false (fun h => ?_)).symm))
      subst h
      exact hb rfl
    · have hie : i = a.length := by omega
      refine Run.leave (ts := [4]) (.inr ⟨_, rfl⟩) rfl Tryd.func17 rfl (Le.tt.trans (Le.bool (decide_eq_true ?_).symm))
      rw [hie, List.take_length, hab, List.take_length] at hc
      exact hc
  · refine Run.leave (ts := [4]) (.inr ⟨_, rfl⟩) rfl Tryd.func17 rfl (Le.ff.trans (Le.bool (decide_eq_false (fun h => ?_)).symm))
    rw [h] at hb; exact hb rfl
theorem one_fn (a b : Rd) (ha : a.wits.length ≤ 1000000000) : Fn Tryd.prog 26 [.agg 3 (tRd.enc a), .agg 3 (tRd.enc b)] (.bool (decide (a = b))) := by
  refine Fn.of Tryd.f26 _ Tryd.func26 rfl (by decide) (by show 2 ≤ _; decide) tbOk 24 rfl fun S w0 gl => ?_
  have hd : ∀ {P : Prop}, (a = b → ¬ P) → P → decide (a = b) = false := fun h p => decide_eq_false (fun e => h e p)
  refine Run.go ?_; (conv => whnf); repeat' (first | ((with_reducible refine Know.mk fun _ => ?_); conv => whnf) | ((with_reducible refine Need.mk ?_ ?_); (first | omega | (dsimp only; omega) | decide | exact bytes_le (by rfl) (by omega) | exact ⟨rfl, by omega, bytes_le (by rfl) (by omega), by omega⟩ | (refine ⟨?_, ?_⟩ <;> (rw [wrap64 (by omega) (by omega)]; omega))); conv => whnf) | ((with_reducible first | refine Both.mk ?_ ?_ | refine Any.mk fun b hb => ?_ | refine AskB.dec (fun hb => ?_) (fun hb => ?_) | refine AskB.ndec (fun hb => ?_) (fun hb => ?_) | refine AskB.mk (fun hb => ?_) (fun hb => ?_)) <;> conv => whnf) | ((with_reducible first | refine Run.drawX rfl (by decide +kernel) ?_ | refine Run.drawT rfl (by decide +kernel) ?_ | refine Run.drawW rfl (by decide +kernel) ?_); conv => whnf) | fail)
  · refine Run.callBX (ints_fn a.wits b.wits ha) rfl rfl ⟨Le.refl _, Le.refl _, trivial⟩ rfl rfl rfl ?_
    (conv => whnf); repeat' (first | ((with_reducible refine Know.mk fun _ => ?_); conv => whnf) | ((with_reducible refine Need.mk ?_ ?_); (first | omega | (dsimp only; omega) | decide | exact bytes_le (by rfl) (by omega) | exact ⟨rfl, by omega, bytes_le (by rfl) (by omega), by omega⟩ | (refine ⟨?_, ?_⟩ <;> (rw [wrap64 (by omega) (by omega)]; omega))); conv => whnf) | ((with_reducible first | refine Both.mk ?_ ?_ | refine Any.mk fun b hb => ?_ | refine AskB.dec (fun hb => ?_) (fun hb => ?_) | refine AskB.ndec (fun hb => ?_) (fun hb => ?_) | refine AskB.mk (fun hb => ?_) (fun hb => ?_)) <;> conv => whnf) | ((with_reducible first | refine Run.drawX rfl (by decide +kernel) ?_ | refine Run.drawT rfl (by decide +kernel) ?_ | refine Run.drawW rfl (by decide +kernel) ?_); conv => whnf) | fail)
    refine Run.leave (ts := [4]) (.inr ⟨_, rfl⟩) rfl Tryd.func26 rfl (Le.bool ?_)
    have h1 : a.none = b.none := by
      have h9 : (a.none == b.none) = true := by assumption
      simpa using h9
    have h2 : a.text = b.text := hb
    rw [decide_eq_decide]
    constructor
    · intro h3
      cases a; cases b
      simp only at h1 h2 h3
      rw [h1, h2, h3]
    · intro h; rw [h]
  · exact Run.leave (ts := [4]) (.inr ⟨_, rfl⟩) rfl Tryd.func26 rfl (Le.ff.trans (Le.bool (hd (fun e h => h (by rw [e])) hb).symm))
  · refine Run.leave (ts := [4]) (.inr ⟨_, rfl⟩) rfl Tryd.func26 rfl (Le.ff.trans (Le.bool (hd (fun e h => ?_) hb).symm))
    subst e; simp at h
theorem same16_fn (a b : List Rd) (ha : a.length ≤ 1000000000) (hw : ∀ r ∈ a, r.wits.length ≤ 1000000000) : Fn Tryd.prog 25 [tRd.L a, tRd.L b] (.bool (decide (a = b))) := by
  refine Fn.of Tryd.f25 _ Tryd.func25 rfl (by decide) (by show 2 ≤ _; decide) tbOk 27 rfl fun S w0 gl => ?_
  refine Run.go ?_; (conv => whnf); repeat' (first | ((with_reducible refine Know.mk fun _ => ?_); conv => whnf) | ((with_reducible refine Need.mk ?_ ?_); (first | omega | (dsimp only; omega) | decide | exact bytes_le (by rfl) (by omega) | exact ⟨rfl, by omega, bytes_le (by rfl) (by omega), by omega⟩ | (refine ⟨?_, ?_⟩ <;> (rw [wrap64 (by omega) (by omega)]; omega))); conv => whnf) | ((with_reducible first | refine Both.mk ?_ ?_ | refine Any.mk fun b hb => ?_ | refine AskB.dec (fun hb => ?_) (fun hb => ?_) | refine AskB.ndec (fun hb => ?_) (fun hb => ?_) | refine AskB.mk (fun hb => ?_) (fun hb => ?_)) <;> conv => whnf) | ((with_reducible first | refine Run.drawX rfl (by decide +kernel) ?_ | refine Run.drawT rfl (by decide +kernel) ?_ | refine Run.drawW rfl (by decide +kernel) ?_); conv => whnf) | fail)
  · have hab : a.length = b.length := by omega
    refine Run.loop [0, 1] (fun (i : Nat) => [(5, .int .i64 (i : Int))]) (fun i => []) (fun i => i ≤ a.length ∧ a.take i = b.take i) (fun i => a.length - i) 0 ⟨Nat.zero_le _, rfl⟩ ⟨Le.refl _, trivial⟩ trivial ?_
    intro i ⟨hi, hc⟩ IH
    have hw2 : IntKind.i64.wrap ((i : Int) + 1) = ((i + 1 : Nat) : Int) := wrap64 (by omega) (by omega)
    refine Run.go ?_; (conv => whnf); repeat' (first | ((with_reducible refine Know.mk fun _ => ?_); conv => whnf) | ((with_reducible refine Need.mk ?_ ?_); (first | omega | (dsimp only; omega) | decide | exact bytes_le (by rfl) (by omega) | exact ⟨rfl, by omega, bytes_le (by rfl) (by omega), by omega⟩ | (refine ⟨?_, ?_⟩ <;> (rw [wrap64 (by omega) (by omega)]; omega))); conv => whnf) | ((with_reducible first | refine Both.mk ?_ ?_ | refine Any.mk fun b hb => ?_ | refine AskB.dec (fun hb => ?_) (fun hb => ?_) | refine AskB.ndec (fun hb => ?_) (fun hb => ?_) | refine AskB.mk (fun hb => ?_) (fun hb => ?_)) <;> conv => whnf) | ((with_reducible first | refine Run.drawX rfl (by decide +kernel) ?_ | refine Run.drawT rfl (by decide +kernel) ?_ | refine Run.drawW rfl (by decide +kernel) ?_); conv => whnf) | fail)
    · have hil : i < a.length := by omega
      refine CallQ.flat (one_fn (a.getD i tRd.z) (b.getD i tRd.z) (hw _ (getD_mem' i hil))) rfl ⟨?_, ?_, trivial⟩ rfl ?_
      · exact Le.agg fun j hj => by
          match j, hj with
          | 0, _ => exact Le.refl _
          | 1, _ => exact Le.refl _
          | 2, _ => exact Le.refl _
      · exact Le.agg fun j hj => by
          match j, hj with
          | 0, _ => exact Le.refl _
          | 1, _ => exact Le.refl _
          | 2, _ => exact Le.refl _
      (conv => whnf); repeat' (first | ((with_reducible refine Know.mk fun _ => ?_); conv => whnf) | ((with_reducible refine Need.mk ?_ ?_); (first | omega | (dsimp only; omega) | decide | exact bytes_le (by rfl) (by omega) | exact ⟨rfl, by omega, bytes_le (by rfl) (by omega), by omega⟩ | (refine ⟨?_, ?_⟩ <;> (rw [wrap64 (by omega) (by omega)]; omega))); conv => whnf) | ((with_reducible first | refine Both.mk ?_ ?_ | refine Any.mk fun b hb => ?_ | refine AskB.dec (fun hb => ?_) (fun hb => ?_) | refine AskB.ndec (fun hb => ?_) (fun hb => ?_) | refine AskB.mk (fun hb => ?_) (fun hb => ?_)) <;> conv => whnf) | ((with_reducible first | refine Run.drawX rfl (by decide +kernel) ?_ | refine Run.drawT rfl (by decide +kernel) ?_ | refine Run.drawW rfl (by decide +kernel) ?_); conv => whnf) | fail)
      · have he : a.getD i tRd.z = b.getD i tRd.z := hb
        refine Run.to _ _ ?_ ?_ (IH (i + 1) (by omega) ⟨by omega, ?_⟩)
        · exact ⟨Le.refl _, Le.refl _, Le.int hw2, trivial⟩
        · exact trivial
        · rw [take_at a i tRd.z (by omega), take_at b i tRd.z (by omega), hc, he]
      · refine Run.leave (ts := [4]) (.inr ⟨_, rfl⟩) rfl Tryd.func25 rfl (Le.ff.trans (Le.bool (decide_eq_false (fun h => ?_)).symm))
        subst h
        exact hb rfl
    · have hie : i = a.length := by omega
      refine Run.leave (ts := [4]) (.inr ⟨_, rfl⟩) rfl Tryd.func25 rfl (Le.tt.trans (Le.bool (decide_eq_true ?_).symm))
      rw [hie, List.take_length, hab, List.take_length] at hc
      exact hc
  · refine Run.leave (ts := [4]) (.inr ⟨_, rfl⟩) rfl Tryd.func25 rfl (Le.ff.trans (Le.bool (decide_eq_false (fun h => ?_)).symm))
    rw [h] at hb; exact hb rfl
def sitesE (t : Tab) (o : Int) : Nat → List Int
  | 0 => []
  | c + 1 => if 1 < (readE t c o t.wits.length).length then sitesE t o c ++ [(c : Int)] else sitesE t o c
theorem sites_len (t : Tab) (o : Int) : ∀ c, (sitesE t o c).length ≤ c
  | 0 => Nat.le_refl _
  | c + 1 => by
    have := sites_len t o c
    unfold sitesE
    split
    · rw [List.length_append, List.length_singleton]; omega
    · omega
open Classical in
noncomputable def siteCode (t : Tab) (o : Int) : Int := if ¬ OkT t then 121 else if badO o then 2 else 0
noncomputable def sitesL (t : Tab) (o : Int) : AV := tupL [tI.L (if siteCode t o = 0 then sitesE t o t.cols.length else []), .int .i64 (siteCode t o)]
theorem sitesL_no {t : Tab} (o : Int) (h : ¬ OkT t) : sitesL t o = tupL [tI.L [], .int .i64 121] := by
  unfold sitesL siteCode
  rw [if_pos h, if_neg (by decide)]
theorem sitesL_bad {t : Tab} {o : Int} (h : OkT t) (hb : badO o) : sitesL t o = tupL [tI.L [], .int .i64 2] := by
  have hc : siteCode t o = 2 := by unfold siteCode; rw [if_neg (not_not_intro h), if_pos hb]
  unfold sitesL
  rw [hc, if_neg (by decide)]
theorem sitesL_ok {t : Tab} {o : Int} (h : OkT t) (hb : ¬ badO o) : sitesL t o = tupL [tI.L (sitesE t o t.cols.length), .int .i64 0] := by
  have hc : siteCode t o = 0 := by unfold siteCode; rw [if_neg (not_not_intro h), if_neg hb]
  unfold sitesL
  rw [hc, if_pos rfl]
theorem sites_fn (t : Tab) (o : Int) (hf : FitT t) : Fn Tryd.prog 15 [tbA t, .int .i64 o] (sitesL t o) := by
  refine Fn.of Tryd.f15 _ Tryd.func15 rfl (by decide) (by show 2 ≤ _; decide) tbOk 38 rfl fun S w0 gl => ?_
  refine Run.go ?_; (conv => whnf); repeat' (first | ((with_reducible refine Know.mk fun _ => ?_); conv => whnf) | ((with_reducible refine Need.mk ?_ ?_); (first | omega | (dsimp only; omega) | decide | exact bytes_le (by rfl) (by omega) | exact ⟨rfl, by omega, bytes_le (by rfl) (by omega), by omega⟩ | (refine ⟨?_, ?_⟩ <;> (rw [wrap64 (by omega) (by omega)]; omega))); conv => whnf) | ((with_reducible first | refine Both.mk ?_ ?_ | refine Any.mk fun b hb => ?_ | refine AskB.dec (fun hb => ?_) (fun hb => ?_) | refine AskB.ndec (fun hb => ?_) (fun hb => ?_) | refine AskB.mk (fun hb => ?_) (fun hb => ?_)) <;> conv => whnf) | ((with_reducible first | refine Run.drawX rfl (by decide +kernel) ?_ | refine Run.drawT rfl (by decide +kernel) ?_ | refine Run.drawW rfl (by decide +kernel) ?_); conv => whnf) | fail)
  refine Run.callBX (check_fn t hf) rfl rfl ⟨tb_le t (Le.refl _) (Le.refl _), trivial⟩ rfl rfl rfl ?_
  rcases chk_01 t with ⟨hok, he⟩ | ⟨hok, he⟩
  · rw [he]
    (conv => whnf); repeat' (first | ((with_reducible refine Know.mk fun _ => ?_); conv => whnf) | ((with_reducible refine Need.mk ?_ ?_); (first | omega | (dsimp only; omega) | decide | exact bytes_le (by rfl) (by omega) | exact ⟨rfl, by omega, bytes_le (by rfl) (by omega), by omega⟩ | (refine ⟨?_, ?_⟩ <;> (rw [wrap64 (by omega) (by omega)]; omega))); conv => whnf) | ((with_reducible refine Both.mk ?_ ?_) <;> conv => whnf) | ((with_reducible refine Any.mk fun b hb => ?_); conv => whnf) | ((with_reducible first | refine AskB.dec (fun hb => ?_) (fun hb => ?_) | refine AskB.ndec (fun hb => ?_) (fun hb => ?_) | refine AskB.mk (fun hb => ?_) (fun hb => ?_)) <;> first | (exfalso; omega) | (conv => whnf)) | ((with_reducible first | refine Run.drawX rfl (by decide +kernel) ?_ | refine Run.drawT rfl (by decide +kernel) ?_ | refine Run.drawW rfl (by decide +kernel) ?_); conv => whnf) | fail)
    all_goals try (exfalso; omega)
    · rw [sitesL_bad hok (.inl (by omega))]
      exact Run.leave (ts := [4,5]) (.inr ⟨_, rfl⟩) rfl Tryd.func15 rfl (resT ⟨tI.nil, Le.refl _, trivial⟩)
    · rw [sitesL_bad hok (.inr (by omega))]
      exact Run.leave (ts := [4,5]) (.inr ⟨_, rfl⟩) rfl Tryd.func15 rfl (resT ⟨tI.nil, Le.refl _, trivial⟩)
    have hob : ¬ badO o := fun h => by unfold badO at h; omega
    rw [sitesL_ok hok hob]
    have hnc := hok.nc
    refine Run.holdNil 7 1000 3 1 (fun _ _ => .u) rfl ?_
    refine Run.loop [1, 22] (fun (c : Nat) => [(2, .box 2 0), (7, .row 1000), (23, .int .i64 (c : Int))]) (fun c => [(2, .box 25 [tWit.L t.wits, tIL.L t.cols]), (1000, tI.R 3 (sitesE t o c))]) (fun c => c ≤ t.cols.length) (fun c => t.cols.length - c) 0 (Nat.zero_le _) ⟨Le.refl _, Le.refl _, Le.refl _, trivial⟩ ⟨MOle.refl _, ⟨rfl, rfl, rfl, fun i j hi => absurd hi (Nat.not_lt_zero _)⟩, trivial⟩ ?_
    intro c hc IH
    have hwc : IntKind.i64.wrap ((c : Int) + 1) = ((c + 1 : Nat) : Int) := wrap64 (by omega) (by omega)
    have hsl := sites_len t o c
    have hnx : sitesE t o (c + 1) = if 1 < (readE t c o t.wits.length).length then sitesE t o c ++ [(c : Int)] else sitesE t o c := rfl
    show Run _ _ (lst (_ ++ [(2, .box 2 0), (7, .row 1000), (23, .int .i64 (c : Int))])) (lstH [(2, .box 25 [tWit.L t.wits, tIL.L t.cols]), (1000, tI.R 3 (sitesE t o c))])
    refine Run.go ?_; (conv => whnf); repeat' (first | ((with_reducible refine Know.mk fun _ => ?_); conv => whnf) | ((with_reducible refine Need.mk ?_ ?_); (first | omega | (dsimp only; omega) | decide | exact bytes_le (by rfl) (by omega) | exact ⟨rfl, by omega, bytes_le (by rfl) (by omega), by omega⟩ | (refine ⟨?_, ?_⟩ <;> (rw [wrap64 (by omega) (by omega)]; omega))); conv => whnf) | ((with_reducible first | refine Both.mk ?_ ?_ | refine Any.mk fun b hb => ?_ | refine AskB.dec (fun hb => ?_) (fun hb => ?_) | refine AskB.ndec (fun hb => ?_) (fun hb => ?_) | refine AskB.mk (fun hb => ?_) (fun hb => ?_)) <;> conv => whnf) | ((with_reducible first | refine Run.drawX rfl (by decide +kernel) ?_ | refine Run.drawT rfl (by decide +kernel) ?_ | refine Run.drawW rfl (by decide +kernel) ?_); conv => whnf) | fail)
    · have hcl : c < t.cols.length := by omega
      refine Run.callBX (column_fn t c o hf hok hcl hob) rfl rfl ⟨tb_le t (Le.refl _) (Le.refl _), Le.refl _, Le.refl _, trivial⟩ rfl rfl rfl ?_
      generalize readE t c o t.wits.length = rs at hnx ⊢
      generalize sitesE t o c = L at hsl hnx ⊢
      (conv => whnf); repeat' (first | ((with_reducible refine Know.mk fun _ => ?_); conv => whnf) | ((with_reducible refine Need.mk ?_ ?_); (first | omega | (dsimp only; omega) | decide | exact bytes_le (by rfl) (by omega) | exact ⟨rfl, by omega, bytes_le (by rfl) (by omega), by omega⟩ | (refine ⟨?_, ?_⟩ <;> (rw [wrap64 (by omega) (by omega)]; omega))); conv => whnf) | ((with_reducible first | refine Both.mk ?_ ?_ | refine Any.mk fun b hb => ?_ | refine AskB.dec (fun hb => ?_) (fun hb => ?_) | refine AskB.ndec (fun hb => ?_) (fun hb => ?_) | refine AskB.mk (fun hb => ?_) (fun hb => ?_)) <;> conv => whnf) | ((with_reducible first | refine Run.drawX rfl (by decide +kernel) ?_ | refine Run.drawT rfl (by decide +kernel) ?_ | refine Run.drawW rfl (by decide +kernel) ?_); conv => whnf) | fail)
      · rw [if_pos (by omega)] at hnx
        refine Run.hold (z := 35) 7 1000 (by rfl) (by rfl) (by rfl) ?_
        refine Run.to _ _ ?_ ?_ (IH (c + 1) (by omega) (by omega))
        · exact ⟨Le.refl _, Le.refl _, Le.refl _, Le.refl _, Le.int hwc, trivial⟩
        · refine ⟨MOle.refl _, ?_, trivial⟩
          rw [hnx]
          exact tI.push 3 L (c : Int) _ (one0 (Le.refl _))
      · rw [if_neg (by omega)] at hnx
        refine Run.to _ _ ?_ ?_ (IH (c + 1) (by omega) (by omega))
        · exact ⟨Le.refl _, Le.refl _, Le.refl _, Le.refl _, Le.int hwc, trivial⟩
        · refine ⟨MOle.refl _, ?_, trivial⟩
          rw [hnx]; exact MOle.refl _
    · obtain rfl : c = t.cols.length := by omega
      exact Run.leave (ts := [4,5]) (.inr ⟨_, rfl⟩) rfl Tryd.func15 rfl (resT ⟨Le.refl _, Le.refl _, trivial⟩)
  · rw [he, sitesL_no o hok]
    (conv => whnf); repeat' (first | ((with_reducible refine Know.mk fun _ => ?_); conv => whnf) | ((with_reducible refine Need.mk ?_ ?_); (first | omega | (dsimp only; omega) | decide | exact bytes_le (by rfl) (by omega) | exact ⟨rfl, by omega, bytes_le (by rfl) (by omega), by omega⟩ | (refine ⟨?_, ?_⟩ <;> (rw [wrap64 (by omega) (by omega)]; omega))); conv => whnf) | ((with_reducible refine Both.mk ?_ ?_) <;> conv => whnf) | ((with_reducible refine Any.mk fun b hb => ?_); conv => whnf) | ((with_reducible first | refine AskB.dec (fun hb => ?_) (fun hb => ?_) | refine AskB.ndec (fun hb => ?_) (fun hb => ?_) | refine AskB.mk (fun hb => ?_) (fun hb => ?_)) <;> first | (exfalso; omega) | (conv => whnf)) | ((with_reducible first | refine Run.drawX rfl (by decide +kernel) ?_ | refine Run.drawT rfl (by decide +kernel) ?_ | refine Run.drawW rfl (by decide +kernel) ?_); conv => whnf) | fail)
    all_goals try (exfalso; omega)
    exact Run.leave (ts := [4,5]) (.inr ⟨_, rfl⟩) rfl Tryd.func15 rfl (resT ⟨tI.nil, Le.refl _, trivial⟩)
end Go.Proofs.YtnadacaoehpdnaaDoor.V

namespace Go.Proofs.YtnadacaoehpdnaaDoor.V
set_option linter.unusedVariables false
set_option linter.unusedSimpArgs false
open Go Go.Proofs Go.RowKit
set_option maxRecDepth 100000
set_option maxHeartbeats 4000000
def badC (t : Tab) (c : Int) : Prop := c < 0 ∨ (t.cols.length : Int) ≤ c
open Classical in
noncomputable def readCode (t : Tab) (c o : Int) : Int := if ¬ OkT t then 121 else if badO o ∨ badC t c then 2 else 0
noncomputable def readR (t : Tab) (c o : Int) : List Rd := if readCode t c o = 0 then readE t c.toNat o t.wits.length else []
noncomputable def readL (t : Tab) (c o : Int) : AV := tupL [tRd.L (readR t c o), .int .i64 (readCode t c o)]
theorem rc_no {t : Tab} (c o : Int) (h : ¬ OkT t) : readCode t c o = 121 ∧ readR t c o = [] := by
  have hc : readCode t c o = 121 := if_pos h
  exact ⟨hc, if_neg (by rw [hc]; decide)⟩
theorem rc_bad {t : Tab} {c o : Int} (h : OkT t) (hb : badO o ∨ badC t c) : readCode t c o = 2 ∧ readR t c o = [] := by
  have hc : readCode t c o = 2 := by unfold readCode; rw [if_neg (not_not_intro h), if_pos hb]
  exact ⟨hc, if_neg (by rw [hc]; decide)⟩
theorem rc_ok {t : Tab} {c o : Int} (h : OkT t) (hb : ¬ badO o) (hc : ¬ badC t c) : readCode t c o = 0 ∧ readR t c o = readE t c.toNat o t.wits.length := by
  have hd : readCode t c o = 0 := by unfold readCode; rw [if_neg (not_not_intro h), if_neg (fun g => g.elim hb hc)]
  exact ⟨hd, if_pos hd⟩
theorem rc_cases (t : Tab) (c o : Int) : (¬ OkT t ∧ readCode t c o = 121 ∧ readR t c o = []) ∨ (OkT t ∧ (badO o ∨ badC t c) ∧ readCode t c o = 2 ∧ readR t c o = []) ∨ (OkT t ∧ ¬ badO o ∧ ¬ badC t c ∧ readCode t c o = 0 ∧ readR t c o = readE t c.toNat o t.wits.length) := by
  by_cases h : OkT t
  · by_cases hb : badO o ∨ badC t c
    · exact .inr (.inl ⟨h, hb, rc_bad h hb⟩)
    · exact .inr (.inr ⟨h, fun g => hb (.inl g), fun g => hb (.inr g), rc_ok h (fun g => hb (.inl g)) (fun g => hb (.inr g))⟩)
  · exact .inl ⟨h, rc_no c o h⟩
theorem readings_fn (t : Tab) (c o : Int) (hf : FitT t) : Fn Tryd.prog 20 [tbA t, .int .i64 c, .int .i64 o] (readL t c o) := by
  refine Fn.of Tryd.f20 _ Tryd.func20 rfl (by decide) (by show 3 ≤ _; decide) tbOk 35 rfl fun S w0 gl => ?_
  refine Run.go ?_; (conv => whnf); repeat' (first | ((with_reducible refine Know.mk fun _ => ?_); conv => whnf) | ((with_reducible refine Need.mk ?_ ?_); (first | omega | (dsimp only; omega) | decide | exact bytes_le (by rfl) (by omega) | exact ⟨rfl, by omega, bytes_le (by rfl) (by omega), by omega⟩ | (refine ⟨?_, ?_⟩ <;> (rw [wrap64 (by omega) (by omega)]; omega))); conv => whnf) | ((with_reducible first | refine Both.mk ?_ ?_ | refine Any.mk fun b hb => ?_ | refine AskB.dec (fun hb => ?_) (fun hb => ?_) | refine AskB.ndec (fun hb => ?_) (fun hb => ?_) | refine AskB.mk (fun hb => ?_) (fun hb => ?_)) <;> conv => whnf) | ((with_reducible first | refine Run.drawX rfl (by decide +kernel) ?_ | refine Run.drawT rfl (by decide +kernel) ?_ | refine Run.drawW rfl (by decide +kernel) ?_); conv => whnf) | fail)
  refine Run.callBX (check_fn t hf) rfl rfl ⟨tb_le t (Le.refl _) (Le.refl _), trivial⟩ rfl rfl rfl ?_
  have hfc := hf.cols
  unfold readL
  rcases chk_01 t with ⟨hok, he⟩ | ⟨hok, he⟩
  · rw [he]
    (conv => whnf); repeat' (first | ((with_reducible refine Know.mk fun _ => ?_); conv => whnf) | ((with_reducible refine Need.mk ?_ ?_); (first | omega | (dsimp only; omega) | decide | exact bytes_le (by rfl) (by omega) | exact ⟨rfl, by omega, bytes_le (by rfl) (by omega), by omega⟩ | (refine ⟨?_, ?_⟩ <;> (rw [wrap64 (by omega) (by omega)]; omega))); conv => whnf) | ((with_reducible refine Both.mk ?_ ?_) <;> conv => whnf) | ((with_reducible refine Any.mk fun b hb => ?_); conv => whnf) | ((with_reducible first | refine AskB.dec (fun hb => ?_) (fun hb => ?_) | refine AskB.ndec (fun hb => ?_) (fun hb => ?_) | refine AskB.mk (fun hb => ?_) (fun hb => ?_)) <;> first | (exfalso; omega) | (conv => whnf)) | ((with_reducible first | refine Run.drawX rfl (by decide +kernel) ?_ | refine Run.drawT rfl (by decide +kernel) ?_ | refine Run.drawW rfl (by decide +kernel) ?_); conv => whnf) | fail)
    all_goals try (exfalso; omega)
    all_goals try (
      have hbad : badO o ∨ badC t c := by unfold badO badC; omega
      rw [(rc_bad hok hbad).1, (rc_bad hok hbad).2]
      exact Run.leave (ts := [6,7]) (.inr ⟨_, rfl⟩) rfl Tryd.func20 rfl (resT ⟨tRd.nil, Le.refl _, trivial⟩))
    have hbo : ¬ badO o := by unfold badO; omega
    have hbc : ¬ badC t c := by unfold badC; omega
    have hcc : c.toNat < t.cols.length := by omega
    rw [(rc_ok hok hbo hbc).1, (rc_ok hok hbo hbc).2]
    refine Run.callBX (column_fn t c.toNat o hf hok hcc hbo) rfl rfl ⟨tb_le t (Le.refl _) (Le.refl _), Le.int (by omega), Le.refl _, trivial⟩ rfl rfl rfl ?_
    (conv => whnf); repeat' (first | ((with_reducible refine Know.mk fun _ => ?_); conv => whnf) | ((with_reducible refine Need.mk ?_ ?_); (first | omega | (dsimp only; omega) | decide | exact bytes_le (by rfl) (by omega) | exact ⟨rfl, by omega, bytes_le (by rfl) (by omega), by omega⟩ | (refine ⟨?_, ?_⟩ <;> (rw [wrap64 (by omega) (by omega)]; omega))); conv => whnf) | ((with_reducible first | refine Both.mk ?_ ?_ | refine Any.mk fun b hb => ?_ | refine AskB.dec (fun hb => ?_) (fun hb => ?_) | refine AskB.ndec (fun hb => ?_) (fun hb => ?_) | refine AskB.mk (fun hb => ?_) (fun hb => ?_)) <;> conv => whnf) | ((with_reducible first | refine Run.drawX rfl (by decide +kernel) ?_ | refine Run.drawT rfl (by decide +kernel) ?_ | refine Run.drawW rfl (by decide +kernel) ?_); conv => whnf) | fail)
    exact Run.leave (ts := [6,7]) (.inr ⟨_, rfl⟩) rfl Tryd.func20 rfl (resT ⟨Le.refl _, Le.refl _, trivial⟩)
  · rw [he, (rc_no c o hok).1, (rc_no c o hok).2]
    (conv => whnf); repeat' (first | ((with_reducible refine Know.mk fun _ => ?_); conv => whnf) | ((with_reducible refine Need.mk ?_ ?_); (first | omega | (dsimp only; omega) | decide | exact bytes_le (by rfl) (by omega) | exact ⟨rfl, by omega, bytes_le (by rfl) (by omega), by omega⟩ | (refine ⟨?_, ?_⟩ <;> (rw [wrap64 (by omega) (by omega)]; omega))); conv => whnf) | ((with_reducible refine Both.mk ?_ ?_) <;> conv => whnf) | ((with_reducible refine Any.mk fun b hb => ?_); conv => whnf) | ((with_reducible first | refine AskB.dec (fun hb => ?_) (fun hb => ?_) | refine AskB.ndec (fun hb => ?_) (fun hb => ?_) | refine AskB.mk (fun hb => ?_) (fun hb => ?_)) <;> first | (exfalso; omega) | (conv => whnf)) | ((with_reducible first | refine Run.drawX rfl (by decide +kernel) ?_ | refine Run.drawT rfl (by decide +kernel) ?_ | refine Run.drawW rfl (by decide +kernel) ?_); conv => whnf) | fail)
    all_goals try (exfalso; omega)
    exact Run.leave (ts := [6,7]) (.inr ⟨_, rfl⟩) rfl Tryd.func20 rfl (resT ⟨tRd.nil, Le.refl _, trivial⟩)
theorem wrong45_fn (t : Tab) (c o : Int) (hf : FitT t) : Fn Tryd.prog 45 [tbA t, .int .i64 c, .int .i64 o] (.int .i64 (readCode t c o)) := by
  refine Fn.of Tryd.f45 _ Tryd.func45 rfl (by decide) (by show 3 ≤ _; decide) tbOk 27 rfl fun S w0 gl => ?_
  refine Run.go ?_; (conv => whnf); repeat' (first | ((with_reducible refine Know.mk fun _ => ?_); conv => whnf) | ((with_reducible refine Need.mk ?_ ?_); (first | omega | (dsimp only; omega) | decide | exact bytes_le (by rfl) (by omega) | exact ⟨rfl, by omega, bytes_le (by rfl) (by omega), by omega⟩ | (refine ⟨?_, ?_⟩ <;> (rw [wrap64 (by omega) (by omega)]; omega))); conv => whnf) | ((with_reducible first | refine Both.mk ?_ ?_ | refine Any.mk fun b hb => ?_ | refine AskB.dec (fun hb => ?_) (fun hb => ?_) | refine AskB.ndec (fun hb => ?_) (fun hb => ?_) | refine AskB.mk (fun hb => ?_) (fun hb => ?_)) <;> conv => whnf) | ((with_reducible first | refine Run.drawX rfl (by decide +kernel) ?_ | refine Run.drawT rfl (by decide +kernel) ?_ | refine Run.drawW rfl (by decide +kernel) ?_); conv => whnf) | fail)
  refine Run.callBX (check12_fn t hf) rfl rfl ⟨tb_le t (Le.refl _) (Le.refl _), trivial⟩ rfl rfl rfl ?_
  rcases chk_01 t with ⟨hok, he⟩ | ⟨hok, he⟩
  · rw [he]
    (conv => whnf); repeat' (first | ((with_reducible refine Know.mk fun _ => ?_); conv => whnf) | ((with_reducible refine Need.mk ?_ ?_); (first | omega | (dsimp only; omega) | decide | exact bytes_le (by rfl) (by omega) | exact ⟨rfl, by omega, bytes_le (by rfl) (by omega), by omega⟩ | (refine ⟨?_, ?_⟩ <;> (rw [wrap64 (by omega) (by omega)]; omega))); conv => whnf) | ((with_reducible refine Both.mk ?_ ?_) <;> conv => whnf) | ((with_reducible refine Any.mk fun b hb => ?_); conv => whnf) | ((with_reducible first | refine AskB.dec (fun hb => ?_) (fun hb => ?_) | refine AskB.ndec (fun hb => ?_) (fun hb => ?_) | refine AskB.mk (fun hb => ?_) (fun hb => ?_)) <;> first | (exfalso; omega) | (conv => whnf)) | ((with_reducible first | refine Run.drawX rfl (by decide +kernel) ?_ | refine Run.drawT rfl (by decide +kernel) ?_ | refine Run.drawW rfl (by decide +kernel) ?_); conv => whnf) | fail)
    all_goals try (exfalso; omega)
    all_goals try (
      have hbad : badO o ∨ badC t c := by unfold badO badC; omega
      rw [(rc_bad hok hbad).1]
      exact Run.leave (ts := [6]) (.inr ⟨_, rfl⟩) rfl Tryd.func45 rfl (Le.refl _))
    have hbo : ¬ badO o := by unfold badO; omega
    have hbc : ¬ badC t c := by unfold badC; omega
    rw [(rc_ok hok hbo hbc).1]
    exact Run.leave (ts := [6]) (.inr ⟨_, rfl⟩) rfl Tryd.func45 rfl (Le.refl _)
  · rw [he, (rc_no c o hok).1]
    (conv => whnf); repeat' (first | ((with_reducible refine Know.mk fun _ => ?_); conv => whnf) | ((with_reducible refine Need.mk ?_ ?_); (first | omega | (dsimp only; omega) | decide | exact bytes_le (by rfl) (by omega) | exact ⟨rfl, by omega, bytes_le (by rfl) (by omega), by omega⟩ | (refine ⟨?_, ?_⟩ <;> (rw [wrap64 (by omega) (by omega)]; omega))); conv => whnf) | ((with_reducible refine Both.mk ?_ ?_) <;> conv => whnf) | ((with_reducible refine Any.mk fun b hb => ?_); conv => whnf) | ((with_reducible first | refine AskB.dec (fun hb => ?_) (fun hb => ?_) | refine AskB.ndec (fun hb => ?_) (fun hb => ?_) | refine AskB.mk (fun hb => ?_) (fun hb => ?_)) <;> first | (exfalso; omega) | (conv => whnf)) | ((with_reducible first | refine Run.drawX rfl (by decide +kernel) ?_ | refine Run.drawT rfl (by decide +kernel) ?_ | refine Run.drawW rfl (by decide +kernel) ?_); conv => whnf) | fail)
    all_goals try (exfalso; omega)
    exact Run.leave (ts := [6]) (.inr ⟨_, rfl⟩) rfl Tryd.func45 rfl (Le.refl _)
theorem readings16_fn (t : Tab) (c o : Int) (hf : FitT t) : Fn Tryd.prog 22 [tbA t, .int .i64 c, .int .i64 o] (readL t c o) := by
  refine Fn.of Tryd.f22 _ Tryd.func22 rfl (by decide) (by show 3 ≤ _; decide) tbOk 20 rfl fun S w0 gl => ?_
  refine Run.go ?_; (conv => whnf); repeat' (first | ((with_reducible refine Know.mk fun _ => ?_); conv => whnf) | ((with_reducible refine Need.mk ?_ ?_); (first | omega | (dsimp only; omega) | decide | exact bytes_le (by rfl) (by omega) | exact ⟨rfl, by omega, bytes_le (by rfl) (by omega), by omega⟩ | (refine ⟨?_, ?_⟩ <;> (rw [wrap64 (by omega) (by omega)]; omega))); conv => whnf) | ((with_reducible first | refine Both.mk ?_ ?_ | refine Any.mk fun b hb => ?_ | refine AskB.dec (fun hb => ?_) (fun hb => ?_) | refine AskB.ndec (fun hb => ?_) (fun hb => ?_) | refine AskB.mk (fun hb => ?_) (fun hb => ?_)) <;> conv => whnf) | ((with_reducible first | refine Run.drawX rfl (by decide +kernel) ?_ | refine Run.drawT rfl (by decide +kernel) ?_ | refine Run.drawW rfl (by decide +kernel) ?_); conv => whnf) | fail)
  refine Run.callBX (wrong45_fn t c o hf) rfl rfl ⟨tb_le t (Le.refl _) (Le.refl _), Le.refl _, Le.refl _, trivial⟩ rfl rfl rfl ?_
  unfold readL
  rcases rc_cases t c o with ⟨_, h1, h2⟩ | ⟨_, _, h1, h2⟩ | ⟨hok, hbo, hbc, h1, h2⟩
  · rw [h1, h2]
    (conv => whnf); repeat' (first | ((with_reducible refine Know.mk fun _ => ?_); conv => whnf) | ((with_reducible refine Need.mk ?_ ?_); (first | omega | (dsimp only; omega) | decide | exact bytes_le (by rfl) (by omega) | exact ⟨rfl, by omega, bytes_le (by rfl) (by omega), by omega⟩ | (refine ⟨?_, ?_⟩ <;> (rw [wrap64 (by omega) (by omega)]; omega))); conv => whnf) | ((with_reducible refine Both.mk ?_ ?_) <;> conv => whnf) | ((with_reducible refine Any.mk fun b hb => ?_); conv => whnf) | ((with_reducible first | refine AskB.dec (fun hb => ?_) (fun hb => ?_) | refine AskB.ndec (fun hb => ?_) (fun hb => ?_) | refine AskB.mk (fun hb => ?_) (fun hb => ?_)) <;> first | (exfalso; omega) | (conv => whnf)) | ((with_reducible first | refine Run.drawX rfl (by decide +kernel) ?_ | refine Run.drawT rfl (by decide +kernel) ?_ | refine Run.drawW rfl (by decide +kernel) ?_); conv => whnf) | fail)
    all_goals try (exfalso; omega)
    exact Run.leave (ts := [6,7]) (.inr ⟨_, rfl⟩) rfl Tryd.func22 rfl (resT ⟨tRd.nil, Le.refl _, trivial⟩)
  · rw [h1, h2]
    (conv => whnf); repeat' (first | ((with_reducible refine Know.mk fun _ => ?_); conv => whnf) | ((with_reducible refine Need.mk ?_ ?_); (first | omega | (dsimp only; omega) | decide | exact bytes_le (by rfl) (by omega) | exact ⟨rfl, by omega, bytes_le (by rfl) (by omega), by omega⟩ | (refine ⟨?_, ?_⟩ <;> (rw [wrap64 (by omega) (by omega)]; omega))); conv => whnf) | ((with_reducible refine Both.mk ?_ ?_) <;> conv => whnf) | ((with_reducible refine Any.mk fun b hb => ?_); conv => whnf) | ((with_reducible first | refine AskB.dec (fun hb => ?_) (fun hb => ?_) | refine AskB.ndec (fun hb => ?_) (fun hb => ?_) | refine AskB.mk (fun hb => ?_) (fun hb => ?_)) <;> first | (exfalso; omega) | (conv => whnf)) | ((with_reducible first | refine Run.drawX rfl (by decide +kernel) ?_ | refine Run.drawT rfl (by decide +kernel) ?_ | refine Run.drawW rfl (by decide +kernel) ?_); conv => whnf) | fail)
    all_goals try (exfalso; omega)
    exact Run.leave (ts := [6,7]) (.inr ⟨_, rfl⟩) rfl Tryd.func22 rfl (resT ⟨tRd.nil, Le.refl _, trivial⟩)
  · rw [h1, h2]
    (conv => whnf); repeat' (first | ((with_reducible refine Know.mk fun _ => ?_); conv => whnf) | ((with_reducible refine Need.mk ?_ ?_); (first | omega | (dsimp only; omega) | decide | exact bytes_le (by rfl) (by omega) | exact ⟨rfl, by omega, bytes_le (by rfl) (by omega), by omega⟩ | (refine ⟨?_, ?_⟩ <;> (rw [wrap64 (by omega) (by omega)]; omega))); conv => whnf) | ((with_reducible refine Both.mk ?_ ?_) <;> conv => whnf) | ((with_reducible refine Any.mk fun b hb => ?_); conv => whnf) | ((with_reducible first | refine AskB.dec (fun hb => ?_) (fun hb => ?_) | refine AskB.ndec (fun hb => ?_) (fun hb => ?_) | refine AskB.mk (fun hb => ?_) (fun hb => ?_)) <;> first | (exfalso; omega) | (conv => whnf)) | ((with_reducible first | refine Run.drawX rfl (by decide +kernel) ?_ | refine Run.drawT rfl (by decide +kernel) ?_ | refine Run.drawW rfl (by decide +kernel) ?_); conv => whnf) | fail)
    all_goals try (exfalso; omega)
    have hcc : c.toNat < t.cols.length := by unfold badC at hbc; omega
    have hc0 : 0 ≤ c := by unfold badC at hbc; omega
    refine Run.callBX (read41_fn t c.toNat o hf hok hcc hbo) rfl rfl ⟨tb_le t (Le.refl _) (Le.refl _), Le.int (by omega), Le.refl _, trivial⟩ rfl rfl rfl ?_
    (conv => whnf); repeat' (first | ((with_reducible refine Know.mk fun _ => ?_); conv => whnf) | ((with_reducible refine Need.mk ?_ ?_); (first | omega | (dsimp only; omega) | decide | exact bytes_le (by rfl) (by omega) | exact ⟨rfl, by omega, bytes_le (by rfl) (by omega), by omega⟩ | (refine ⟨?_, ?_⟩ <;> (rw [wrap64 (by omega) (by omega)]; omega))); conv => whnf) | ((with_reducible first | refine Both.mk ?_ ?_ | refine Any.mk fun b hb => ?_ | refine AskB.dec (fun hb => ?_) (fun hb => ?_) | refine AskB.ndec (fun hb => ?_) (fun hb => ?_) | refine AskB.mk (fun hb => ?_) (fun hb => ?_)) <;> conv => whnf) | ((with_reducible first | refine Run.drawX rfl (by decide +kernel) ?_ | refine Run.drawT rfl (by decide +kernel) ?_ | refine Run.drawW rfl (by decide +kernel) ?_); conv => whnf) | fail)
    exact Run.leave (ts := [6,7]) (.inr ⟨_, rfl⟩) rfl Tryd.func22 rfl (resT ⟨Le.refl _, Le.refl _, trivial⟩)
/-- The first of those that none has more witnesses than. -/
def maxE (l : List Rd) : Nat → Nat
  | 0 => 0
  | k + 1 => if (l.getD (maxE l k) rd0).wits.length < (l.getD k rd0).wits.length then k else maxE l k
theorem maxE_lt (l : List Rd) : ∀ k, k ≤ l.length → 0 < l.length → maxE l k < l.length
  | 0, _, h => h
  | k + 1, hk, h => by
    unfold maxE
    split
    · omega
    · exact maxE_lt l k (by omega) h
theorem add_pos (o : Int) (l : List Rd) (i : Int) (nn : Bool) (text key : ByteArray) : l.length ≤ (addR o l i nn text key).length ∧ 0 < (addR o l i nn text key).length := by
  unfold addR
  rw [push_len]
  have h := ens_len l (l.findIdx (sameR o nn key)) nn text List.findIdx_le_length
  refine ⟨?_, by omega⟩
  unfold ensR
  split
  · rw [List.length_append]; omega
  · exact Nat.le_refl _
theorem read_pos (t : Tab) (c : Nat) (o : Int) : ∀ n, 0 < n → 0 < (readE t c o n).length
  | n + 1, _ => (add_pos _ _ _ _ _ _).2
noncomputable def majR (t : Tab) (c o : Int) : Rd := (readR t c o).getD (maxE (readR t c o) (readR t c o).length) rd0
noncomputable def majL (t : Tab) (c o : Int) : AV := tupL [.agg 3 (tRd.enc (majR t c o)), .int .i64 (readCode t c o)]
theorem rd_agg (r : Rd) {g : Nat → AV} (h0 : Le (g 0) (.bool r.none)) (h1 : Le (g 1) (.str r.text)) (h2 : Le (g 2) (tI.L r.wits)) : Le (.agg 3 g) (.agg 3 (tRd.enc r)) := Le.agg fun j hj => by
  match j, hj with
  | 0, _ => exact h0
  | 1, _ => exact h1
  | 2, _ => exact h2
theorem major_fn (t : Tab) (c o : Int) (hf : FitT t) : Fn Tryd.prog 23 [tbA t, .int .i64 c, .int .i64 o] (majL t c o) := by
  refine Fn.of Tryd.f23 _ Tryd.func23 rfl (by decide) (by show 3 ≤ _; decide) tbOk 43 rfl fun S w0 gl => ?_
  refine Run.go ?_; (conv => whnf); repeat' (first | ((with_reducible refine Know.mk fun _ => ?_); conv => whnf) | ((with_reducible refine Need.mk ?_ ?_); (first | omega | (dsimp only; omega) | decide | exact bytes_le (by rfl) (by omega) | exact ⟨rfl, by omega, bytes_le (by rfl) (by omega), by omega⟩ | (refine ⟨?_, ?_⟩ <;> (rw [wrap64 (by omega) (by omega)]; omega))); conv => whnf) | ((with_reducible first | refine Both.mk ?_ ?_ | refine Any.mk fun b hb => ?_ | refine AskB.dec (fun hb => ?_) (fun hb => ?_) | refine AskB.ndec (fun hb => ?_) (fun hb => ?_) | refine AskB.mk (fun hb => ?_) (fun hb => ?_)) <;> conv => whnf) | ((with_reducible first | refine Run.drawX rfl (by decide +kernel) ?_ | refine Run.drawT rfl (by decide +kernel) ?_ | refine Run.drawW rfl (by decide +kernel) ?_); conv => whnf) | fail)
  refine Run.callBX (readings_fn t c o hf) rfl rfl ⟨tb_le t (Le.refl _) (Le.refl _), Le.refl _, Le.refl _, trivial⟩ rfl rfl rfl ?_
  unfold readL majL
  have hbad : readCode t c o ≠ 0 → majR t c o = rd0 := fun h => by
    have hr : readR t c o = [] := if_neg h
    unfold majR; rw [hr]; rfl
  rcases rc_cases t c o with ⟨_, h1, h2⟩ | ⟨_, _, h1, h2⟩ | ⟨hok, hbo, hbc, h1, h2⟩
  · rw [hbad (by rw [h1]; decide), h1]
    (conv => whnf); repeat' (first | ((with_reducible refine Know.mk fun _ => ?_); conv => whnf) | ((with_reducible refine Need.mk ?_ ?_); (first | omega | (dsimp only; omega) | decide | exact bytes_le (by rfl) (by omega) | exact ⟨rfl, by omega, bytes_le (by rfl) (by omega), by omega⟩ | (refine ⟨?_, ?_⟩ <;> (rw [wrap64 (by omega) (by omega)]; omega))); conv => whnf) | ((with_reducible refine Both.mk ?_ ?_) <;> conv => whnf) | ((with_reducible refine Any.mk fun b hb => ?_); conv => whnf) | ((with_reducible first | refine AskB.dec (fun hb => ?_) (fun hb => ?_) | refine AskB.ndec (fun hb => ?_) (fun hb => ?_) | refine AskB.mk (fun hb => ?_) (fun hb => ?_)) <;> first | (exfalso; omega) | (conv => whnf)) | ((with_reducible first | refine Run.drawX rfl (by decide +kernel) ?_ | refine Run.drawT rfl (by decide +kernel) ?_ | refine Run.drawW rfl (by decide +kernel) ?_); conv => whnf) | fail)
    all_goals try (exfalso; omega)
    exact Run.leaveC2 (.inr ⟨_, rfl⟩) rfl Tryd.func23 rfl rfl rfl (Nat.le_of_ble_eq_true rfl) (rd_agg rd0 Le.ff (Le.refl _) tI.nil) (Le.refl _)
  · rw [hbad (by rw [h1]; decide), h1]
    (conv => whnf); repeat' (first | ((with_reducible refine Know.mk fun _ => ?_); conv => whnf) | ((with_reducible refine Need.mk ?_ ?_); (first | omega | (dsimp only; omega) | decide | exact bytes_le (by rfl) (by omega) | exact ⟨rfl, by omega, bytes_le (by rfl) (by omega), by omega⟩ | (refine ⟨?_, ?_⟩ <;> (rw [wrap64 (by omega) (by omega)]; omega))); conv => whnf) | ((with_reducible refine Both.mk ?_ ?_) <;> conv => whnf) | ((with_reducible refine Any.mk fun b hb => ?_); conv => whnf) | ((with_reducible first | refine AskB.dec (fun hb => ?_) (fun hb => ?_) | refine AskB.ndec (fun hb => ?_) (fun hb => ?_) | refine AskB.mk (fun hb => ?_) (fun hb => ?_)) <;> first | (exfalso; omega) | (conv => whnf)) | ((with_reducible first | refine Run.drawX rfl (by decide +kernel) ?_ | refine Run.drawT rfl (by decide +kernel) ?_ | refine Run.drawW rfl (by decide +kernel) ?_); conv => whnf) | fail)
    all_goals try (exfalso; omega)
    exact Run.leaveC2 (.inr ⟨_, rfl⟩) rfl Tryd.func23 rfl rfl rfl (Nat.le_of_ble_eq_true rfl) (rd_agg rd0 Le.ff (Le.refl _) tI.nil) (Le.refl _)
  · have hpos : 0 < (readR t c o).length := by rw [h2]; exact read_pos t _ o _ hok.n1
    have hlen : (readR t c o).length ≤ 12 := by rw [h2]; have := read_len t c.toNat o t.wits.length; have := hok.n12; omega
    unfold majR
    rw [h1]
    generalize readR t c o = l at hpos hlen ⊢
    (conv => whnf); repeat' (first | ((with_reducible refine Know.mk fun _ => ?_); conv => whnf) | ((with_reducible refine Need.mk ?_ ?_); (first | omega | (dsimp only; omega) | decide | exact bytes_le (by rfl) (by omega) | exact ⟨rfl, by omega, bytes_le (by rfl) (by omega), by omega⟩ | (refine ⟨?_, ?_⟩ <;> (rw [wrap64 (by omega) (by omega)]; omega))); conv => whnf) | ((with_reducible refine Both.mk ?_ ?_) <;> conv => whnf) | ((with_reducible refine Any.mk fun b hb => ?_); conv => whnf) | ((with_reducible first | refine AskB.dec (fun hb => ?_) (fun hb => ?_) | refine AskB.ndec (fun hb => ?_) (fun hb => ?_) | refine AskB.mk (fun hb => ?_) (fun hb => ?_)) <;> first | (exfalso; omega) | (conv => whnf)) | ((with_reducible first | refine Run.drawX rfl (by decide +kernel) ?_ | refine Run.drawT rfl (by decide +kernel) ?_ | refine Run.drawW rfl (by decide +kernel) ?_); conv => whnf) | fail)
    all_goals try (exfalso; omega)
    refine Run.loop [27, 28] (fun (k : Nat) => [(6, .box 6 0), (10, .box 10 0), (29, .int .i64 (k : Int))]) (fun k => [(6, .box 47 [.ff, .str .empty, .nils]), (10, .box 47 [.bool (l.getD (maxE l k) rd0).none, .str (l.getD (maxE l k) rd0).text, tI.L (l.getD (maxE l k) rd0).wits])]) (fun k => k ≤ l.length) (fun k => l.length - k) 0 (Nat.zero_le _) ⟨Le.refl _, Le.refl _, Le.refl _, trivial⟩ ⟨MOle.refl _, MOle.refl _, trivial⟩ ?_
    intro k hk IH
    have hwk : IntKind.i64.wrap ((k : Int) + 1) = ((k + 1 : Nat) : Int) := wrap64 (by omega) (by omega)
    have hml := maxE_lt l k hk hpos
    have hnx : maxE l (k + 1) = if (l.getD (maxE l k) rd0).wits.length < (l.getD k rd0).wits.length then k else maxE l k := rfl
    generalize hm : maxE l k = m at hnx hml ⊢
    show Run _ _ (lst (_ ++ [(6, .box 6 0), (10, .box 10 0), (29, .int .i64 (k : Int))])) (lstH [(6, .box 47 [.ff, .str .empty, .nils]), (10, .box 47 [.bool (l.getD m rd0).none, .str (l.getD m rd0).text, tI.L (l.getD m rd0).wits])])
    refine Run.go ?_; (conv => whnf); repeat' (first | ((with_reducible refine Know.mk fun _ => ?_); conv => whnf) | ((with_reducible refine Need.mk ?_ ?_); (first | omega | (dsimp only; omega) | decide | exact bytes_le (by rfl) (by omega) | exact ⟨rfl, by omega, bytes_le (by rfl) (by omega), by omega⟩ | (refine ⟨?_, ?_⟩ <;> (rw [wrap64 (by omega) (by omega)]; omega))); conv => whnf) | ((with_reducible first | refine Both.mk ?_ ?_ | refine Any.mk fun b hb => ?_ | refine AskB.dec (fun hb => ?_) (fun hb => ?_) | refine AskB.ndec (fun hb => ?_) (fun hb => ?_) | refine AskB.mk (fun hb => ?_) (fun hb => ?_)) <;> conv => whnf) | ((with_reducible first | refine Run.drawX rfl (by decide +kernel) ?_ | refine Run.drawT rfl (by decide +kernel) ?_ | refine Run.drawW rfl (by decide +kernel) ?_); conv => whnf) | fail)
    · have hb : (l.getD m rd0).wits.length < (l.getD k rd0).wits.length := Int.ofNat_lt.mp hb
      rw [if_pos hb] at hnx
      refine Run.to _ _ ?_ ?_ (IH (k + 1) (by omega) (by omega))
      · exact ⟨Le.refl _, Le.refl _, Le.refl _, Le.refl _, Le.int hwk, trivial⟩
      · rw [hnx]; exact ⟨MOle.refl _, MOle.refl _, trivial⟩
    · have hb : ¬ (l.getD m rd0).wits.length < (l.getD k rd0).wits.length := fun h => hb (Int.ofNat_lt.mpr h)
      rw [if_neg hb] at hnx
      refine Run.to _ _ ?_ ?_ (IH (k + 1) (by omega) (by omega))
      · exact ⟨Le.refl _, Le.refl _, Le.refl _, Le.refl _, Le.int hwk, trivial⟩
      · rw [hnx]; exact ⟨MOle.refl _, MOle.refl _, trivial⟩
    · obtain rfl : k = l.length := by omega
      rw [hm]
      exact Run.leaveC2 (.inr ⟨_, rfl⟩) rfl Tryd.func23 rfl rfl rfl (Nat.le_of_ble_eq_true rfl) (rd_agg (l.getD m rd0) (Le.refl _) (Le.refl _) (Le.refl _)) (Le.refl _)
theorem maxE_1 (l : List Rd) : maxE l 1 = 0 := if_neg (Nat.lt_irrefl _)
theorem major16_fn (t : Tab) (c o : Int) (hf : FitT t) : Fn Tryd.prog 24 [tbA t, .int .i64 c, .int .i64 o] (majL t c o) := by
  refine Fn.of Tryd.f24 _ Tryd.func24 rfl (by decide) (by show 3 ≤ _; decide) tbOk 47 rfl fun S w0 gl => ?_
  refine Run.go ?_; (conv => whnf); repeat' (first | ((with_reducible refine Know.mk fun _ => ?_); conv => whnf) | ((with_reducible refine Need.mk ?_ ?_); (first | omega | (dsimp only; omega) | decide | exact bytes_le (by rfl) (by omega) | exact ⟨rfl, by omega, bytes_le (by rfl) (by omega), by omega⟩ | (refine ⟨?_, ?_⟩ <;> (rw [wrap64 (by omega) (by omega)]; omega))); conv => whnf) | ((with_reducible first | refine Both.mk ?_ ?_ | refine Any.mk fun b hb => ?_ | refine AskB.dec (fun hb => ?_) (fun hb => ?_) | refine AskB.ndec (fun hb => ?_) (fun hb => ?_) | refine AskB.mk (fun hb => ?_) (fun hb => ?_)) <;> conv => whnf) | ((with_reducible first | refine Run.drawX rfl (by decide +kernel) ?_ | refine Run.drawT rfl (by decide +kernel) ?_ | refine Run.drawW rfl (by decide +kernel) ?_); conv => whnf) | fail)
  refine Run.callBX (readings16_fn t c o hf) rfl rfl ⟨tb_le t (Le.refl _) (Le.refl _), Le.refl _, Le.refl _, trivial⟩ rfl rfl rfl ?_
  unfold readL majL
  have hbad : readCode t c o ≠ 0 → majR t c o = rd0 := fun h => by
    have hr : readR t c o = [] := if_neg h
    unfold majR; rw [hr]; rfl
  rcases rc_cases t c o with ⟨_, h1, h2⟩ | ⟨_, _, h1, h2⟩ | ⟨hok, hbo, hbc, h1, h2⟩
  · rw [hbad (by rw [h1]; decide), h1]
    (conv => whnf); repeat' (first | ((with_reducible refine Know.mk fun _ => ?_); conv => whnf) | ((with_reducible refine Need.mk ?_ ?_); (first | omega | (dsimp only; omega) | decide | exact bytes_le (by rfl) (by omega) | exact ⟨rfl, by omega, bytes_le (by rfl) (by omega), by omega⟩ | (refine ⟨?_, ?_⟩ <;> (rw [wrap64 (by omega) (by omega)]; omega))); conv => whnf) | ((with_reducible refine Both.mk ?_ ?_) <;> conv => whnf) | ((with_reducible refine Any.mk fun b hb => ?_); conv => whnf) | ((with_reducible first | refine AskB.dec (fun hb => ?_) (fun hb => ?_) | refine AskB.ndec (fun hb => ?_) (fun hb => ?_) | refine AskB.mk (fun hb => ?_) (fun hb => ?_)) <;> first | (exfalso; omega) | (conv => whnf)) | ((with_reducible first | refine Run.drawX rfl (by decide +kernel) ?_ | refine Run.drawT rfl (by decide +kernel) ?_ | refine Run.drawW rfl (by decide +kernel) ?_); conv => whnf) | fail)
    all_goals try (exfalso; omega)
    exact Run.leaveC2 (.inr ⟨_, rfl⟩) rfl Tryd.func24 rfl rfl rfl (Nat.le_of_ble_eq_true rfl) (rd_agg rd0 Le.ff (Le.refl _) tI.nil) (Le.refl _)
  · rw [hbad (by rw [h1]; decide), h1]
    (conv => whnf); repeat' (first | ((with_reducible refine Know.mk fun _ => ?_); conv => whnf) | ((with_reducible refine Need.mk ?_ ?_); (first | omega | (dsimp only; omega) | decide | exact bytes_le (by rfl) (by omega) | exact ⟨rfl, by omega, bytes_le (by rfl) (by omega), by omega⟩ | (refine ⟨?_, ?_⟩ <;> (rw [wrap64 (by omega) (by omega)]; omega))); conv => whnf) | ((with_reducible refine Both.mk ?_ ?_) <;> conv => whnf) | ((with_reducible refine Any.mk fun b hb => ?_); conv => whnf) | ((with_reducible first | refine AskB.dec (fun hb => ?_) (fun hb => ?_) | refine AskB.ndec (fun hb => ?_) (fun hb => ?_) | refine AskB.mk (fun hb => ?_) (fun hb => ?_)) <;> first | (exfalso; omega) | (conv => whnf)) | ((with_reducible first | refine Run.drawX rfl (by decide +kernel) ?_ | refine Run.drawT rfl (by decide +kernel) ?_ | refine Run.drawW rfl (by decide +kernel) ?_); conv => whnf) | fail)
    all_goals try (exfalso; omega)
    exact Run.leaveC2 (.inr ⟨_, rfl⟩) rfl Tryd.func24 rfl rfl rfl (Nat.le_of_ble_eq_true rfl) (rd_agg rd0 Le.ff (Le.refl _) tI.nil) (Le.refl _)
  · have hpos : 0 < (readR t c o).length := by rw [h2]; exact read_pos t _ o _ hok.n1
    have hlen : (readR t c o).length ≤ 12 := by rw [h2]; have := read_len t c.toNat o t.wits.length; have := hok.n12; omega
    unfold majR
    rw [h1]
    generalize readR t c o = l at hpos hlen ⊢
    (conv => whnf); repeat' (first | ((with_reducible refine Know.mk fun _ => ?_); conv => whnf) | ((with_reducible refine Need.mk ?_ ?_); (first | omega | (dsimp only; omega) | decide | exact bytes_le (by rfl) (by omega) | exact ⟨rfl, by omega, bytes_le (by rfl) (by omega), by omega⟩ | (refine ⟨?_, ?_⟩ <;> (rw [wrap64 (by omega) (by omega)]; omega))); conv => whnf) | ((with_reducible refine Both.mk ?_ ?_) <;> conv => whnf) | ((with_reducible refine Any.mk fun b hb => ?_); conv => whnf) | ((with_reducible first | refine AskB.dec (fun hb => ?_) (fun hb => ?_) | refine AskB.ndec (fun hb => ?_) (fun hb => ?_) | refine AskB.mk (fun hb => ?_) (fun hb => ?_)) <;> first | (exfalso; omega) | (conv => whnf)) | ((with_reducible first | refine Run.drawX rfl (by decide +kernel) ?_ | refine Run.drawT rfl (by decide +kernel) ?_ | refine Run.drawW rfl (by decide +kernel) ?_); conv => whnf) | fail)
    all_goals try (exfalso; omega)
    refine Run.loop [8] (fun (k : Nat) => [(6, .box 6 0), (10, .int .i64 (maxE l k : Nat)), (11, .int .i64 (k : Int))]) (fun k => [(6, .box 47 [.ff, .str .empty, .nils])]) (fun k => 1 ≤ k ∧ k ≤ l.length) (fun k => l.length - k) 1 ⟨Nat.le_refl _, hpos⟩ ⟨Le.refl _, Le.int (by rw [maxE_1]; rfl), Le.refl _, trivial⟩ ⟨MOle.refl _, trivial⟩ ?_
    intro k ⟨hk1, hk⟩ IH
    have hwk : IntKind.i64.wrap ((k : Int) + 1) = ((k + 1 : Nat) : Int) := wrap64 (by omega) (by omega)
    have hml := maxE_lt l k hk hpos
    have hnx : maxE l (k + 1) = if (l.getD (maxE l k) rd0).wits.length < (l.getD k rd0).wits.length then k else maxE l k := rfl
    generalize hm : maxE l k = m at hnx hml ⊢
    show Run _ _ (lst (_ ++ [(6, .box 6 0), (10, .int .i64 (m : Int)), (11, .int .i64 (k : Int))])) (lstH [(6, .box 47 [.ff, .str .empty, .nils])])
    refine Run.go ?_; (conv => whnf); repeat' (first | ((with_reducible refine Know.mk fun _ => ?_); conv => whnf) | ((with_reducible refine Need.mk ?_ ?_); (first | omega | (dsimp only; omega) | decide | exact bytes_le (by rfl) (by omega) | exact ⟨rfl, by omega, bytes_le (by rfl) (by omega), by omega⟩ | (refine ⟨?_, ?_⟩ <;> (rw [wrap64 (by omega) (by omega)]; omega))); conv => whnf) | ((with_reducible first | refine Both.mk ?_ ?_ | refine Any.mk fun b hb => ?_ | refine AskB.dec (fun hb => ?_) (fun hb => ?_) | refine AskB.ndec (fun hb => ?_) (fun hb => ?_) | refine AskB.mk (fun hb => ?_) (fun hb => ?_)) <;> conv => whnf) | ((with_reducible first | refine Run.drawX rfl (by decide +kernel) ?_ | refine Run.drawT rfl (by decide +kernel) ?_ | refine Run.drawW rfl (by decide +kernel) ?_); conv => whnf) | fail)
    · have hb : (l.getD m rd0).wits.length < (l.getD k rd0).wits.length := Int.ofNat_lt.mp hb
      rw [if_pos hb] at hnx
      refine Run.to _ _ ?_ ?_ (IH (k + 1) (by omega) (by omega))
      · exact ⟨Le.refl _, Le.refl _, Le.int (by rw [hnx]), Le.int hwk, trivial⟩
      · exact ⟨MOle.refl _, trivial⟩
    · have hb : ¬ (l.getD m rd0).wits.length < (l.getD k rd0).wits.length := fun h => hb (Int.ofNat_lt.mpr h)
      rw [if_neg hb] at hnx
      refine Run.to _ _ ?_ ?_ (IH (k + 1) (by omega) (by omega))
      · exact ⟨Le.refl _, Le.refl _, Le.int (by rw [hnx]), Le.int hwk, trivial⟩
      · exact ⟨MOle.refl _, trivial⟩
    · obtain rfl : k = l.length := by omega
      rw [hm]
      exact Run.leaveC2 (.inr ⟨_, rfl⟩) rfl Tryd.func24 rfl rfl rfl (Nat.le_of_ble_eq_true rfl) (rd_agg (l.getD m rd0) (Le.refl _) (Le.refl _) (Le.refl _)) (Le.refl _)
end Go.Proofs.YtnadacaoehpdnaaDoor.V

namespace Go.Proofs.YtnadacaoehpdnaaDoor.V
set_option linter.unusedVariables false
set_option linter.unusedSimpArgs false
open Go Go.Proofs Go.RowKit
set_option maxRecDepth 100000
set_option maxHeartbeats 4000000
theorem noCells : wordsOf .empty = ((.empty, []), 0) := by
  have ht : toksOf .empty = [] := by
    unfold toksOf
    rw [if_neg (by decide), cells_out (by decide), toks_out (by decide)]
  rw [wordsOf_fit (by decide) (by rw [ht]; decide), ht]; rfl
def awA : ByteArray := ⟨#[97]⟩
theorem awAcells : cells awA 0 = [⟨0, 1, 97, false, 0⟩] := by
  rw [cells_in (show 0 < awA.size by decide), cellAt_good awA 0 97 1 (by decide +kernel) (by decide), show Utf8.decode awA 0 = (97, 1) by decide +kernel, cells_out (by decide)]; rfl
theorem awAwords : wordsOf awA = ((.empty, [⟨awA, .empty⟩]), 0) := by
  have ht : toksOf awA = [⟨1, 0, awA⟩] := by
    unfold toksOf
    have hw : wordE [⟨0, 1, 97, false, 0⟩] 0 = 1 := by rw [wordE, dif_pos (by decide), if_pos (by decide), wordE, dif_neg (by decide)]
    have t0 : tokE [⟨0, 1, 97, false, 0⟩] 0 = (1, 1) := by unfold tokE; rw [if_pos (by decide), hw]
    rw [if_neg (by decide), awAcells, toks_in (by decide), t0, toks_out (by decide)]
    decide +kernel
  have hs : specW (toksOf awA) = (.empty, [⟨awA, .empty⟩]) := by
    rw [ht]
    decide +kernel
  rw [wordsOf_fit (by decide) (by rw [hs]; decide), hs]
def awTb : Tab := ⟨[⟨⟨#[65]⟩, .empty, []⟩, ⟨⟨#[66]⟩, .empty, [⟨awA, .empty⟩]⟩], [[-1, 0]]⟩
theorem awRight0 : rightB .empty [] = true := by
  unfold rightB
  rw [show ByteArray.empty ++ catW [] = .empty by decide +kernel, noCells]
  exact decide_eq_true rfl
theorem awRight1 : rightB .empty [⟨awA, .empty⟩] = true := by
  unfold rightB
  rw [show ByteArray.empty ++ catW [⟨awA, .empty⟩] = awA by decide +kernel, awAwords]
  exact decide_eq_true rfl
theorem two {P : Nat → Prop} (h0 : P 0) (h1 : P 1) : ∀ i, i < 2 → P i
  | 0, _ => h0
  | 1, _ => h1
  | i + 2, h => absurd h (by omega)
theorem awOk : OkT awTb where
  n1 := by decide
  n12 := by decide
  nc := by decide
  wit := two ⟨by decide +kernel, awRight0, fun k h => absurd h (Nat.not_lt_zero _)⟩ ⟨by decide +kernel, awRight1, one0 (by decide +kernel)⟩
  col := one0 ⟨rfl, two (.inl rfl) (.inr ⟨rfl, by decide⟩), 1, by decide, by decide⟩
  all := two rfl rfl
theorem awFit : FitT awTb where
  wits := by decide
  cols := by decide
  col := fun l h => by obtain rfl := List.mem_singleton.mp h; decide
  name := by decide
  wit := fun w h => by
    rcases List.mem_cons.mp h with rfl | h
    · exact ⟨⟨by decide, by decide⟩, by decide, fun v h => absurd h List.not_mem_nil⟩
    · obtain rfl := List.mem_singleton.mp h
      exact ⟨⟨by decide, by decide⟩, by decide, fun v h => by obtain rfl := List.mem_singleton.mp h; decide⟩
theorem awRead : readE awTb 0 0 2 = [⟨true, .empty, [0]⟩, ⟨false, awA, [1]⟩] := by decide +kernel
theorem awSites : sitesE awTb 0 1 = [0] := by unfold sitesE; rw [show awTb.wits.length = 2 from rfl, awRead]; rfl
theorem MOle.two {t : TypeId} {x y a b : AV} (h1 : Le x a) (h2 : Le y b) : MOle (.box t [x, y]) (.box t [a, b]) := ⟨rfl, rfl, fun j p q hp hq => by
  match j with
  | 0 => cases hp; cases hq; exact h1
  | 1 => cases hp; cases hq; exact h2
  | j + 2 => cases hp⟩
theorem awLe0 {g : Nat → Nat → AV} {g' : Nat → Nat → AV} (h1 : Le (g 0 0) (.str ⟨#[65]⟩)) (h2 : Le (g 0 1) (.str .empty)) (h3 : Le (g 0 2) .nils) (h4 : Le (g 1 0) (.str ⟨#[66]⟩)) (h5 : Le (g 1 1) (.str .empty)) (h6 : Le (g 1 2) (.sl 1 2 g')) (h7 : Le (g' 0 0) (.str awA)) (h8 : Le (g' 0 1) (.str .empty)) : Le (.sl 2 3 g) (tWit.L awTb.wits) :=
  Le.sl fun i j hi hj => by
    match i, j, hi, hj with
    | 0, 0, _, _ => exact h1
    | 0, 1, _, _ => exact h2
    | 0, 2, _, _ => exact h3.trans tWrd.nil
    | 1, 0, _, _ => exact h4
    | 1, 1, _, _ => exact h5
    | 1, 2, _, _ =>
      refine h6.trans (Le.sl fun a b ha hb => ?_)
      match a, b, ha, hb with
      | 0, 0, _, _ => exact h7
      | 0, 1, _, _ => exact h8
theorem awLe1 {g : Nat → Nat → AV} {g' : Nat → Nat → AV} (h : Le (g 0 0) (.sl 2 1 g')) (h1 : Le (g' 0 0) (.int .i64 (-1))) (h2 : Le (g' 1 0) (.int .i64 0)) : Le (.sl 1 1 g) (tIL.L awTb.cols) :=
  Le.sl fun i j hi hj => by
    match i, j, hi, hj with
    | 0, 0, _, _ =>
      refine h.trans (Le.sl fun a b ha hb => ?_)
      match a, b, ha, hb with
      | 0, 0, _, _ => exact h1
      | 1, 0, _, _ => exact h2
theorem awakeG_fn : Fn Tryd.prog 14 [] .tt := by
  refine Fn.of Tryd.f14 _ Tryd.func14 rfl (by decide) (by show 0 ≤ _; decide) tbOk 60 rfl fun S w0 gl => ?_
  refine Run.go ?_; (conv => whnf); repeat' (first | ((with_reducible refine Know.mk fun _ => ?_); conv => whnf) | ((with_reducible refine Need.mk ?_ ?_); (first | omega | (dsimp only; omega) | decide | exact bytes_le (by rfl) (by omega) | exact ⟨rfl, by omega, bytes_le (by rfl) (by omega), by omega⟩ | (refine ⟨?_, ?_⟩ <;> (rw [wrap64 (by omega) (by omega)]; omega))); conv => whnf) | ((with_reducible first | refine Both.mk ?_ ?_ | refine Any.mk fun b hb => ?_ | refine AskB.dec (fun hb => ?_) (fun hb => ?_) | refine AskB.ndec (fun hb => ?_) (fun hb => ?_) | refine AskB.mk (fun hb => ?_) (fun hb => ?_)) <;> conv => whnf) | ((with_reducible first | refine Run.drawX rfl (by decide +kernel) ?_ | refine Run.drawT rfl (by decide +kernel) ?_ | refine Run.drawW rfl (by decide +kernel) ?_); conv => whnf) | fail)
  refine Run.freeze 8 (by rfl) ?_
  refine Run.go ?_; (conv => whnf); repeat' (first | ((with_reducible refine Know.mk fun _ => ?_); conv => whnf) | ((with_reducible refine Need.mk ?_ ?_); (first | omega | (dsimp only; omega) | decide | exact bytes_le (by rfl) (by omega) | exact ⟨rfl, by omega, bytes_le (by rfl) (by omega), by omega⟩ | (refine ⟨?_, ?_⟩ <;> (rw [wrap64 (by omega) (by omega)]; omega))); conv => whnf) | ((with_reducible first | refine Both.mk ?_ ?_ | refine Any.mk fun b hb => ?_ | refine AskB.dec (fun hb => ?_) (fun hb => ?_) | refine AskB.ndec (fun hb => ?_) (fun hb => ?_) | refine AskB.mk (fun hb => ?_) (fun hb => ?_)) <;> conv => whnf) | ((with_reducible first | refine Run.drawX rfl (by decide +kernel) ?_ | refine Run.drawT rfl (by decide +kernel) ?_ | refine Run.drawW rfl (by decide +kernel) ?_); conv => whnf) | fail)
  refine Run.freeze 11 (by rfl) ?_
  refine Run.go ?_; (conv => whnf); repeat' (first | ((with_reducible refine Know.mk fun _ => ?_); conv => whnf) | ((with_reducible refine Need.mk ?_ ?_); (first | omega | (dsimp only; omega) | decide | exact bytes_le (by rfl) (by omega) | exact ⟨rfl, by omega, bytes_le (by rfl) (by omega), by omega⟩ | (refine ⟨?_, ?_⟩ <;> (rw [wrap64 (by omega) (by omega)]; omega))); conv => whnf) | ((with_reducible first | refine Both.mk ?_ ?_ | refine Any.mk fun b hb => ?_ | refine AskB.dec (fun hb => ?_) (fun hb => ?_) | refine AskB.ndec (fun hb => ?_) (fun hb => ?_) | refine AskB.mk (fun hb => ?_) (fun hb => ?_)) <;> conv => whnf) | ((with_reducible first | refine Run.drawX rfl (by decide +kernel) ?_ | refine Run.drawT rfl (by decide +kernel) ?_ | refine Run.drawW rfl (by decide +kernel) ?_); conv => whnf) | fail)
  refine Run.freeze 10 (by rfl) ?_
  refine Run.freeze 12 (by rfl) ?_
  refine Run.to [(1, .box 1 0), (15, tbA awTb)] [(1, .box 25 [tWit.L awTb.wits, tIL.L awTb.cols])] ⟨Le.refl _, ?_, trivial⟩ ⟨MOle.two ?_ ?_, trivial⟩ ?_
  · exact tb_le awTb (awLe0 (Le.refl _) (Le.refl _) (Le.refl _) (Le.refl _) (Le.refl _) (Le.refl _) (Le.refl _) (Le.refl _)) (awLe1 (Le.refl _) (Le.refl _) (Le.refl _))
  · exact awLe0 (Le.refl _) (Le.refl _) (Le.refl _) (Le.refl _) (Le.refl _) (Le.refl _) (Le.refl _) (Le.refl _)
  · exact awLe1 (Le.refl _) (Le.refl _) (Le.refl _)
  have hr : readL awTb 0 0 = tupL [tRd.L [⟨true, .empty, [0]⟩, ⟨false, awA, [1]⟩], .int .i64 0] := by
    unfold readL
    obtain ⟨e1, e2⟩ := rc_ok (c := 0) (o := 0) awOk (fun h => by unfold badO at h; omega) (fun h => by unfold badC at h; exact absurd h (by decide))
    rw [e1, e2]
    exact congrArg (fun l => tupL [tRd.L l, .int .i64 0]) awRead
  have hs : sitesL awTb 0 = tupL [tI.L [0], .int .i64 0] := by
    rw [sitesL_ok awOk (fun h => by unfold badO at h; omega)]
    exact congrArg (fun l => tupL [tI.L l, .int .i64 0]) awSites
  refine Run.go ?_; (conv => whnf); repeat' (first | ((with_reducible refine Know.mk fun _ => ?_); conv => whnf) | ((with_reducible refine Need.mk ?_ ?_); (first | omega | (dsimp only; omega) | decide | exact bytes_le (by rfl) (by omega) | exact ⟨rfl, by omega, bytes_le (by rfl) (by omega), by omega⟩ | (refine ⟨?_, ?_⟩ <;> (rw [wrap64 (by omega) (by omega)]; omega))); conv => whnf) | ((with_reducible first | refine Both.mk ?_ ?_ | refine Any.mk fun b hb => ?_ | refine AskB.dec (fun hb => ?_) (fun hb => ?_) | refine AskB.ndec (fun hb => ?_) (fun hb => ?_) | refine AskB.mk (fun hb => ?_) (fun hb => ?_)) <;> conv => whnf) | ((with_reducible first | refine Run.drawX rfl (by decide +kernel) ?_ | refine Run.drawT rfl (by decide +kernel) ?_ | refine Run.drawW rfl (by decide +kernel) ?_); conv => whnf) | fail)
  refine Run.callBX (readings_fn awTb 0 0 awFit) rfl rfl ⟨tb_le awTb (Le.refl _) (Le.refl _), Le.refl _, Le.refl _, trivial⟩ rfl rfl rfl ?_
  rw [hr]
  (conv => whnf); repeat' (first | ((with_reducible refine Know.mk fun _ => ?_); conv => whnf) | ((with_reducible refine Need.mk ?_ ?_); (first | omega | (dsimp only; omega) | decide | exact bytes_le (by rfl) (by omega) | exact ⟨rfl, by omega, bytes_le (by rfl) (by omega), by omega⟩ | (refine ⟨?_, ?_⟩ <;> (rw [wrap64 (by omega) (by omega)]; omega))); conv => whnf) | ((with_reducible first | refine Both.mk ?_ ?_ | refine Any.mk fun b hb => ?_ | refine AskB.dec (fun hb => ?_) (fun hb => ?_) | refine AskB.ndec (fun hb => ?_) (fun hb => ?_) | refine AskB.mk (fun hb => ?_) (fun hb => ?_)) <;> conv => whnf) | ((with_reducible first | refine Run.drawX rfl (by decide +kernel) ?_ | refine Run.drawT rfl (by decide +kernel) ?_ | refine Run.drawW rfl (by decide +kernel) ?_); conv => whnf) | fail)
  refine Run.callBX (sites_fn awTb 0 awFit) rfl rfl ⟨tb_le awTb (Le.refl _) (Le.refl _), Le.refl _, trivial⟩ rfl rfl rfl ?_
  rw [hs]
  (conv => whnf); repeat' (first | ((with_reducible refine Know.mk fun _ => ?_); conv => whnf) | ((with_reducible refine Need.mk ?_ ?_); (first | omega | (dsimp only; omega) | decide | exact bytes_le (by rfl) (by omega) | exact ⟨rfl, by omega, bytes_le (by rfl) (by omega), by omega⟩ | (refine ⟨?_, ?_⟩ <;> (rw [wrap64 (by omega) (by omega)]; omega))); conv => whnf) | ((with_reducible first | refine Both.mk ?_ ?_ | refine Any.mk fun b hb => ?_ | refine AskB.dec (fun hb => ?_) (fun hb => ?_) | refine AskB.ndec (fun hb => ?_) (fun hb => ?_) | refine AskB.mk (fun hb => ?_) (fun hb => ?_)) <;> conv => whnf) | ((with_reducible first | refine Run.drawX rfl (by decide +kernel) ?_ | refine Run.drawT rfl (by decide +kernel) ?_ | refine Run.drawW rfl (by decide +kernel) ?_); conv => whnf) | fail)
  all_goals first
    | exact absurd rfl hb
    | exact absurd hb (by decide)
    | exact Run.leave (ts := [0]) (.inr ⟨_, rfl⟩) rfl Tryd.func14 rfl (Le.refl _)
theorem readR_fit (t : Tab) (c o : Int) (hf : FitT t) : (readR t c o).length ≤ 2000000 ∧ (∀ r ∈ readR t c o, r.wits.length ≤ 2000000) ∧ (majR t c o).wits.length ≤ 2000000 := by
  have hw := hf.wits
  have h : (readR t c o).length ≤ 2000000 ∧ ∀ r ∈ readR t c o, r.wits.length ≤ 2000000 := by
    rcases rc_cases t c o with ⟨_, _, h2⟩ | ⟨_, _, _, h2⟩ | ⟨_, _, _, _, h2⟩
    · rw [h2]; exact ⟨Nat.zero_le _, fun r h => absurd h List.not_mem_nil⟩
    · rw [h2]; exact ⟨Nat.zero_le _, fun r h => absurd h List.not_mem_nil⟩
    · rw [h2]
      exact ⟨Nat.le_trans (read_len t c.toNat o t.wits.length) hw, fun r hr => Nat.le_trans (wits_le t c.toNat o _ r hr) hw⟩
  refine ⟨h.1, h.2, ?_⟩
  unfold majR
  generalize maxE (readR t c o) (readR t c o).length = i
  by_cases hi : i < (readR t c o).length
  · exact h.2 _ (getD_mem' i hi)
  · rw [List.getD, List.getElem?_eq_none (by omega)]; exact Nat.zero_le _
theorem groupReadings_fn (t : Tab) (c o : Int) (hf : FitT t) : Fn Tryd.prog 6 [tbA t, .int .i64 c, .int .i64 o] .tt := by
  refine Fn.of Tryd.f6 _ Tryd.func6 rfl (by decide) (by show 3 ≤ _; decide) tbOk 63 rfl fun S w0 gl => ?_
  refine Run.go ?_; (conv => whnf); repeat' (first | ((with_reducible refine Know.mk fun _ => ?_); conv => whnf) | ((with_reducible refine Need.mk ?_ ?_); (first | omega | (dsimp only; omega) | decide | exact bytes_le (by rfl) (by omega) | exact ⟨rfl, by omega, bytes_le (by rfl) (by omega), by omega⟩ | (refine ⟨?_, ?_⟩ <;> (rw [wrap64 (by omega) (by omega)]; omega))); conv => whnf) | ((with_reducible first | refine Both.mk ?_ ?_ | refine Any.mk fun b hb => ?_ | refine AskB.dec (fun hb => ?_) (fun hb => ?_) | refine AskB.ndec (fun hb => ?_) (fun hb => ?_) | refine AskB.mk (fun hb => ?_) (fun hb => ?_)) <;> conv => whnf) | ((with_reducible first | refine Run.drawX rfl (by decide +kernel) ?_ | refine Run.drawT rfl (by decide +kernel) ?_ | refine Run.drawW rfl (by decide +kernel) ?_); conv => whnf) | fail)
  refine Run.callBX awakeG_fn rfl rfl trivial rfl rfl rfl ?_
  (conv => whnf); repeat' (first | ((with_reducible refine Know.mk fun _ => ?_); conv => whnf) | ((with_reducible refine Need.mk ?_ ?_); (first | omega | (dsimp only; omega) | decide | exact bytes_le (by rfl) (by omega) | exact ⟨rfl, by omega, bytes_le (by rfl) (by omega), by omega⟩ | (refine ⟨?_, ?_⟩ <;> (rw [wrap64 (by omega) (by omega)]; omega))); conv => whnf) | ((with_reducible first | refine Both.mk ?_ ?_ | refine Any.mk fun b hb => ?_ | refine AskB.dec (fun hb => ?_) (fun hb => ?_) | refine AskB.ndec (fun hb => ?_) (fun hb => ?_) | refine AskB.mk (fun hb => ?_) (fun hb => ?_)) <;> conv => whnf) | ((with_reducible first | refine Run.drawX rfl (by decide +kernel) ?_ | refine Run.drawT rfl (by decide +kernel) ?_ | refine Run.drawW rfl (by decide +kernel) ?_); conv => whnf) | fail)
  refine Run.callBX (readings_fn t c o hf) rfl rfl ⟨tb_le t (Le.refl _) (Le.refl _), Le.refl _, Le.refl _, trivial⟩ rfl rfl rfl ?_
  unfold readL
  (conv => whnf); repeat' (first | ((with_reducible refine Know.mk fun _ => ?_); conv => whnf) | ((with_reducible refine Need.mk ?_ ?_); (first | omega | (dsimp only; omega) | decide | exact bytes_le (by rfl) (by omega) | exact ⟨rfl, by omega, bytes_le (by rfl) (by omega), by omega⟩ | (refine ⟨?_, ?_⟩ <;> (rw [wrap64 (by omega) (by omega)]; omega))); conv => whnf) | ((with_reducible first | refine Both.mk ?_ ?_ | refine Any.mk fun b hb => ?_ | refine AskB.dec (fun hb => ?_) (fun hb => ?_) | refine AskB.ndec (fun hb => ?_) (fun hb => ?_) | refine AskB.mk (fun hb => ?_) (fun hb => ?_)) <;> conv => whnf) | ((with_reducible first | refine Run.drawX rfl (by decide +kernel) ?_ | refine Run.drawT rfl (by decide +kernel) ?_ | refine Run.drawW rfl (by decide +kernel) ?_); conv => whnf) | fail)
  refine Run.callBX (readings16_fn t c o hf) rfl rfl ⟨tb_le t (Le.refl _) (Le.refl _), Le.refl _, Le.refl _, trivial⟩ rfl rfl rfl ?_
  unfold readL
  (conv => whnf); repeat' (first | ((with_reducible refine Know.mk fun _ => ?_); conv => whnf) | ((with_reducible refine Need.mk ?_ ?_); (first | omega | (dsimp only; omega) | decide | exact bytes_le (by rfl) (by omega) | exact ⟨rfl, by omega, bytes_le (by rfl) (by omega), by omega⟩ | (refine ⟨?_, ?_⟩ <;> (rw [wrap64 (by omega) (by omega)]; omega))); conv => whnf) | ((with_reducible first | refine Both.mk ?_ ?_ | refine Any.mk fun b hb => ?_ | refine AskB.dec (fun hb => ?_) (fun hb => ?_) | refine AskB.ndec (fun hb => ?_) (fun hb => ?_) | refine AskB.mk (fun hb => ?_) (fun hb => ?_)) <;> conv => whnf) | ((with_reducible first | refine Run.drawX rfl (by decide +kernel) ?_ | refine Run.drawT rfl (by decide +kernel) ?_ | refine Run.drawW rfl (by decide +kernel) ?_); conv => whnf) | fail)
  refine Run.callBX (major_fn t c o hf) rfl rfl ⟨tb_le t (Le.refl _) (Le.refl _), Le.refl _, Le.refl _, trivial⟩ rfl rfl rfl ?_
  unfold majL
  (conv => whnf); repeat' (first | ((with_reducible refine Know.mk fun _ => ?_); conv => whnf) | ((with_reducible refine Need.mk ?_ ?_); (first | omega | (dsimp only; omega) | decide | exact bytes_le (by rfl) (by omega) | exact ⟨rfl, by omega, bytes_le (by rfl) (by omega), by omega⟩ | (refine ⟨?_, ?_⟩ <;> (rw [wrap64 (by omega) (by omega)]; omega))); conv => whnf) | ((with_reducible first | refine Both.mk ?_ ?_ | refine Any.mk fun b hb => ?_ | refine AskB.dec (fun hb => ?_) (fun hb => ?_) | refine AskB.ndec (fun hb => ?_) (fun hb => ?_) | refine AskB.mk (fun hb => ?_) (fun hb => ?_)) <;> conv => whnf) | ((with_reducible first | refine Run.drawX rfl (by decide +kernel) ?_ | refine Run.drawT rfl (by decide +kernel) ?_ | refine Run.drawW rfl (by decide +kernel) ?_); conv => whnf) | fail)
  refine Run.callBX (major16_fn t c o hf) rfl rfl ⟨tb_le t (Le.refl _) (Le.refl _), Le.refl _, Le.refl _, trivial⟩ rfl rfl rfl ?_
  unfold majL
  (conv => whnf); repeat' (first | ((with_reducible refine Know.mk fun _ => ?_); conv => whnf) | ((with_reducible refine Need.mk ?_ ?_); (first | omega | (dsimp only; omega) | decide | exact bytes_le (by rfl) (by omega) | exact ⟨rfl, by omega, bytes_le (by rfl) (by omega), by omega⟩ | (refine ⟨?_, ?_⟩ <;> (rw [wrap64 (by omega) (by omega)]; omega))); conv => whnf) | ((with_reducible first | refine Both.mk ?_ ?_ | refine Any.mk fun b hb => ?_ | refine AskB.dec (fun hb => ?_) (fun hb => ?_) | refine AskB.ndec (fun hb => ?_) (fun hb => ?_) | refine AskB.mk (fun hb => ?_) (fun hb => ?_)) <;> conv => whnf) | ((with_reducible first | refine Run.drawX rfl (by decide +kernel) ?_ | refine Run.drawT rfl (by decide +kernel) ?_ | refine Run.drawW rfl (by decide +kernel) ?_); conv => whnf) | fail)
  obtain ⟨f1, f2, f3⟩ := readR_fit t c o hf
  · refine Run.callBX (same16_fn _ _ (by omega) (fun r hr => by have := f2 r hr; omega)) rfl rfl ⟨Le.refl _, Le.refl _, trivial⟩ rfl rfl rfl ?_
    (conv => whnf); repeat' (first | ((with_reducible refine Know.mk fun _ => ?_); conv => whnf) | ((with_reducible refine Need.mk ?_ ?_); (first | omega | (dsimp only; omega) | decide | exact bytes_le (by rfl) (by omega) | exact ⟨rfl, by omega, bytes_le (by rfl) (by omega), by omega⟩ | (refine ⟨?_, ?_⟩ <;> (rw [wrap64 (by omega) (by omega)]; omega))); conv => whnf) | ((with_reducible first | refine Both.mk ?_ ?_ | refine Any.mk fun b hb => ?_ | refine AskB.dec (fun hb => ?_) (fun hb => ?_) | refine AskB.ndec (fun hb => ?_) (fun hb => ?_) | refine AskB.mk (fun hb => ?_) (fun hb => ?_)) <;> conv => whnf) | ((with_reducible first | refine Run.drawX rfl (by decide +kernel) ?_ | refine Run.drawT rfl (by decide +kernel) ?_ | refine Run.drawW rfl (by decide +kernel) ?_); conv => whnf) | fail)
    all_goals try (exfalso; exact hb rfl)
    · refine Run.callBX (one_fn (majR t c o) (majR t c o) (by omega)) rfl rfl ⟨rd_agg _ (Le.refl _) (Le.refl _) (Le.refl _), rd_agg _ (Le.refl _) (Le.refl _) (Le.refl _), trivial⟩ rfl rfl rfl ?_
      (conv => whnf); repeat' (first | ((with_reducible refine Know.mk fun _ => ?_); conv => whnf) | ((with_reducible refine Need.mk ?_ ?_); (first | omega | (dsimp only; omega) | decide | exact bytes_le (by rfl) (by omega) | exact ⟨rfl, by omega, bytes_le (by rfl) (by omega), by omega⟩ | (refine ⟨?_, ?_⟩ <;> (rw [wrap64 (by omega) (by omega)]; omega))); conv => whnf) | ((with_reducible first | refine Both.mk ?_ ?_ | refine Any.mk fun b hb => ?_ | refine AskB.dec (fun hb => ?_) (fun hb => ?_) | refine AskB.ndec (fun hb => ?_) (fun hb => ?_) | refine AskB.mk (fun hb => ?_) (fun hb => ?_)) <;> conv => whnf) | ((with_reducible first | refine Run.drawX rfl (by decide +kernel) ?_ | refine Run.drawT rfl (by decide +kernel) ?_ | refine Run.drawW rfl (by decide +kernel) ?_); conv => whnf) | fail)
      all_goals first
        | exact absurd rfl hb
        | exact Run.leave (ts := [6]) (.inr ⟨_, rfl⟩) rfl Tryd.func6 rfl (Le.tt' (decide_eq_true rfl))
        | exact Run.leave (ts := [6]) (.inr ⟨_, rfl⟩) rfl Tryd.func6 rfl (Le.refl _)
  · exact absurd rfl hb
end Go.Proofs.YtnadacaoehpdnaaDoor.V

namespace Go.Proofs.YtnadacaoehpdnaaDoor.V
set_option linter.unusedVariables false
set_option linter.unusedSimpArgs false
open Go Go.Proofs Go.RowKit
set_option maxRecDepth 100000
def bkWit (w : Wit) : Nat := w.name.size + w.head.size + sumL bkW w.words + 4
theorem dWs : Dec Tryd.prog 36 (tL tWrd) (fun l => sumL bkW l + 1) := Dec.slice (e := 40) (by kernel_rfl) (by kernel_rfl) (by decide) dWord
theorem dWit : Dec Tryd.prog 38 tWit bkWit :=
  Dec.map (fun x : ByteArray × ByteArray × List Wrd × Unit => ⟨x.1, x.2.1, x.2.2.1⟩) rfl (fun x j hj => match j, hj with | 0, _ => Le.refl _ | 1, _ => Le.refl _ | 2, _ => Le.refl _) (fun x => by simp only [bkWit]; omega)
    (Dec.struct (t := 38) (fs := #[⟨"Name", 9, 0, false, "", "", 0⟩, ⟨"Head", 9, 1, false, "", "", 16⟩, ⟨"Words", 36, 2, false, "", "", 32⟩]) (by kernel_rfl) (by kernel_rfl)
      (DecF.cons rfl (Dec.str (by kernel_rfl) (by kernel_rfl)) (DecF.cons rfl (Dec.str (by kernel_rfl) (by kernel_rfl)) (DecF.cons rfl dWs DecF.nil))))
theorem dInt : Dec Tryd.prog 3 tI (fun _ => 1) := Dec.int (by kernel_rfl) (by kernel_rfl)
def bkI (l : List Int) : Nat := sumL (fun _ => 1) l + 1
theorem dIs : Dec Tryd.prog 27 (tL tI) bkI := Dec.slice (e := 3) (by kernel_rfl) (by kernel_rfl) (by decide) dInt
def tTab : Ty Tab := ⟨2, tabG, ⟨[], []⟩⟩
def bkTab (t : Tab) : Nat := sumL bkWit t.wits + sumL bkI t.cols + 3
theorem dTab : Dec Tryd.prog 25 tTab bkTab :=
  Dec.map (fun x : List Wit × List (List Int) × Unit => ⟨x.1, x.2.1⟩) rfl (fun x j hj => match j, hj with | 0, _ => Le.refl _ | 1, _ => Le.refl _) (fun x => by simp only [bkTab]; omega)
    (Dec.struct (t := 25) (fs := #[⟨"Wits", 22, 0, false, "", "", 0⟩, ⟨"Cols", 23, 1, false, "", "", 24⟩]) (by kernel_rfl) (by kernel_rfl)
      (DecF.cons rfl (Dec.slice (e := 38) (t := 22) (by kernel_rfl) (by kernel_rfl) (by decide) dWit) (DecF.cons rfl (Dec.slice (e := 27) (t := 23) (by kernel_rfl) (by kernel_rfl) (by decide) dIs) DecF.nil)))
theorem argTab : Arg Tryd.prog 25 tbA bkTab := Arg.struct (T := tTab) (fs := #[⟨"Wits", 22, 0, false, "", "", 0⟩, ⟨"Cols", 23, 1, false, "", "", 24⟩]) (by kernel_rfl) dTab
/-! ### bounds -/
theorem fitT_of {t : Tab} {n : Nat} (h : bkTab t ≤ n) (hn : n ≤ 1048576) : FitT t := by
  unfold bkTab at h
  have h1 := sumL_len bkWit (fun w => by unfold bkWit; omega) t.wits
  have h2 := sumL_len bkI (fun w => by unfold bkI; omega) t.cols
  refine ⟨by omega, by omega, fun l hl => ?_, fun w hw => ?_, fun w hw => ?_⟩
  · have h3 : sumL (fun _ : Int => 1) l + 1 ≤ sumL bkI t.cols := sumL_mem bkI hl
    have h4 := sumL_len (fun _ : Int => 1) (fun _ => Nat.le_refl _) l
    omega
  · have h3 : w.name.size + w.head.size + sumL bkW w.words + 4 ≤ sumL bkWit t.wits := sumL_mem bkWit hw
    omega
  · have h3 : w.name.size + w.head.size + sumL bkW w.words + 4 ≤ sumL bkWit t.wits := sumL_mem bkWit hw
    obtain ⟨f1, f2, f3⟩ := fitW_of (s := w.head) (l := w.words) (n := 1048576) (by omega) (by omega)
    have h4 := bkW_sum w.words
    exact ⟨f1, by omega, f3⟩
end Go.Proofs.YtnadacaoehpdnaaDoor.V

namespace Go.Proofs.YtnadacaoehpdnaaDoor.V
set_option linter.unusedVariables false
set_option linter.unusedSimpArgs false
open Go Go.Proofs Go.RowKit
set_option maxRecDepth 100000
set_option maxHeartbeats 4000000
theorem maxE_spec (l : List Rd) : ∀ k, (∀ j, j < k → (l.getD j rd0).wits.length ≤ (l.getD (maxE l k) rd0).wits.length) ∧ ∀ j, j < maxE l k → (l.getD j rd0).wits.length < (l.getD (maxE l k) rd0).wits.length
  | 0 => ⟨fun j h => absurd h (Nat.not_lt_zero _), fun j h => absurd h (Nat.not_lt_zero _)⟩
  | k + 1 => by
    obtain ⟨h1, h2⟩ := maxE_spec l k
    have hnx : maxE l (k + 1) = if (l.getD (maxE l k) rd0).wits.length < (l.getD k rd0).wits.length then k else maxE l k := rfl
    rw [hnx]
    split
    · refine ⟨fun j hj => ?_, fun j hj => ?_⟩
      · by_cases e : j = k
        · rw [e]; exact Nat.le_refl _
        · have := h1 j (by omega); omega
      · have := h1 j hj; omega
    · refine ⟨fun j hj => ?_, h2⟩
      by_cases e : j = k
      · rw [e]; omega
      · exact h1 j (by omega)
theorem majR_max (t : Tab) (c o : Int) : ∀ j, j < (readR t c o).length → ((readR t c o).getD j rd0).wits.length ≤ (majR t c o).wits.length := (maxE_spec _ _).1
theorem groupMajors_fn (t : Tab) (o : Int) (hf : FitT t) : Fn Tryd.prog 7 [tbA t, .int .i64 o] .tt := by
  refine Fn.of Tryd.f7 _ Tryd.func7 rfl (by decide) (by show 2 ≤ _; decide) tbOk 99 rfl fun S w0 gl => ?_
  refine Run.go ?_; (conv => whnf); repeat' (first | ((with_reducible refine Know.mk fun _ => ?_); conv => whnf) | ((with_reducible refine Need.mk ?_ ?_); (first | omega | (dsimp only; omega) | decide | exact bytes_le (by rfl) (by omega) | exact ⟨rfl, by omega, bytes_le (by rfl) (by omega), by omega⟩ | (refine ⟨?_, ?_⟩ <;> (rw [wrap64 (by omega) (by omega)]; omega))); conv => whnf) | ((with_reducible first | refine Both.mk ?_ ?_ | refine Any.mk fun b hb => ?_ | refine AskB.dec (fun hb => ?_) (fun hb => ?_) | refine AskB.ndec (fun hb => ?_) (fun hb => ?_) | refine AskB.mk (fun hb => ?_) (fun hb => ?_)) <;> conv => whnf) | ((with_reducible first | refine Run.drawX rfl (by decide +kernel) ?_ | refine Run.drawT rfl (by decide +kernel) ?_ | refine Run.drawW rfl (by decide +kernel) ?_); conv => whnf) | fail)
  refine Run.callBX awakeG_fn rfl rfl trivial rfl rfl rfl ?_
  (conv => whnf); repeat' (first | ((with_reducible refine Know.mk fun _ => ?_); conv => whnf) | ((with_reducible refine Need.mk ?_ ?_); (first | omega | (dsimp only; omega) | decide | exact bytes_le (by rfl) (by omega) | exact ⟨rfl, by omega, bytes_le (by rfl) (by omega), by omega⟩ | (refine ⟨?_, ?_⟩ <;> (rw [wrap64 (by omega) (by omega)]; omega))); conv => whnf) | ((with_reducible first | refine Both.mk ?_ ?_ | refine Any.mk fun b hb => ?_ | refine AskB.dec (fun hb => ?_) (fun hb => ?_) | refine AskB.ndec (fun hb => ?_) (fun hb => ?_) | refine AskB.mk (fun hb => ?_) (fun hb => ?_)) <;> conv => whnf) | ((with_reducible first | refine Run.drawX rfl (by decide +kernel) ?_ | refine Run.drawT rfl (by decide +kernel) ?_ | refine Run.drawW rfl (by decide +kernel) ?_); conv => whnf) | fail)
  refine Run.callBX (check_fn t hf) rfl rfl ⟨tb_le t (Le.refl _) (Le.refl _), trivial⟩ rfl rfl rfl ?_
  have hfc := hf.cols
  rcases chk_01 t with ⟨hok, he⟩ | ⟨hok, he⟩
  · rw [he]
    (conv => whnf); repeat' (first | ((with_reducible refine Know.mk fun _ => ?_); conv => whnf) | ((with_reducible refine Need.mk ?_ ?_); (first | omega | (dsimp only; omega) | decide | exact bytes_le (by rfl) (by omega) | exact ⟨rfl, by omega, bytes_le (by rfl) (by omega), by omega⟩ | (refine ⟨?_, ?_⟩ <;> (rw [wrap64 (by omega) (by omega)]; omega))); conv => whnf) | ((with_reducible refine Both.mk ?_ ?_) <;> conv => whnf) | ((with_reducible refine Any.mk fun b hb => ?_); conv => whnf) | ((with_reducible first | refine AskB.dec (fun hb => ?_) (fun hb => ?_) | refine AskB.ndec (fun hb => ?_) (fun hb => ?_) | refine AskB.mk (fun hb => ?_) (fun hb => ?_)) <;> first | (exfalso; omega) | (conv => whnf)) | ((with_reducible first | refine Run.drawX rfl (by decide +kernel) ?_ | refine Run.drawT rfl (by decide +kernel) ?_ | refine Run.drawW rfl (by decide +kernel) ?_); conv => whnf) | fail)
    all_goals try (exfalso; omega)
    all_goals try (exact Run.leave (ts := [4]) (.inr ⟨_, rfl⟩) rfl Tryd.func7 rfl (Le.refl _))
    have hbo : ¬ badO o := by unfold badO; omega
    have hnc := hok.nc
    refine Run.loop [1, 27] (fun (c : Nat) => [(2, .box 2 0), (28, .int .i64 (c : Int))]) (fun c => [(2, .box 25 [tWit.L t.wits, tIL.L t.cols])]) (fun c => c ≤ t.cols.length) (fun c => t.cols.length - c) 0 (Nat.zero_le _) ⟨Le.refl _, Le.refl _, trivial⟩ ⟨MOle.refl _, trivial⟩ ?_
    intro c hc IH
    have hwc : IntKind.i64.wrap ((c : Int) + 1) = ((c + 1 : Nat) : Int) := wrap64 (by omega) (by omega)
    show Run _ _ (lst (_ ++ [(2, .box 2 0), (28, .int .i64 (c : Int))])) (lstH [(2, .box 25 [tWit.L t.wits, tIL.L t.cols])])
    refine Run.go ?_; (conv => whnf); repeat' (first | ((with_reducible refine Know.mk fun _ => ?_); conv => whnf) | ((with_reducible refine Need.mk ?_ ?_); (first | omega | (dsimp only; omega) | decide | exact bytes_le (by rfl) (by omega) | exact ⟨rfl, by omega, bytes_le (by rfl) (by omega), by omega⟩ | (refine ⟨?_, ?_⟩ <;> (rw [wrap64 (by omega) (by omega)]; omega))); conv => whnf) | ((with_reducible first | refine Both.mk ?_ ?_ | refine Any.mk fun b hb => ?_ | refine AskB.dec (fun hb => ?_) (fun hb => ?_) | refine AskB.ndec (fun hb => ?_) (fun hb => ?_) | refine AskB.mk (fun hb => ?_) (fun hb => ?_)) <;> conv => whnf) | ((with_reducible first | refine Run.drawX rfl (by decide +kernel) ?_ | refine Run.drawT rfl (by decide +kernel) ?_ | refine Run.drawW rfl (by decide +kernel) ?_); conv => whnf) | fail)
    · have hcl : c < t.cols.length := by omega
      refine Run.callBX (readings_fn t c o hf) rfl rfl ⟨tb_le t (Le.refl _) (Le.refl _), Le.refl _, Le.refl _, trivial⟩ rfl rfl rfl ?_
      unfold readL
      (conv => whnf); repeat' (first | ((with_reducible refine Know.mk fun _ => ?_); conv => whnf) | ((with_reducible refine Need.mk ?_ ?_); (first | omega | (dsimp only; omega) | decide | exact bytes_le (by rfl) (by omega) | exact ⟨rfl, by omega, bytes_le (by rfl) (by omega), by omega⟩ | (refine ⟨?_, ?_⟩ <;> (rw [wrap64 (by omega) (by omega)]; omega))); conv => whnf) | ((with_reducible first | refine Both.mk ?_ ?_ | refine Any.mk fun b hb => ?_ | refine AskB.dec (fun hb => ?_) (fun hb => ?_) | refine AskB.ndec (fun hb => ?_) (fun hb => ?_) | refine AskB.mk (fun hb => ?_) (fun hb => ?_)) <;> conv => whnf) | ((with_reducible first | refine Run.drawX rfl (by decide +kernel) ?_ | refine Run.drawT rfl (by decide +kernel) ?_ | refine Run.drawW rfl (by decide +kernel) ?_); conv => whnf) | fail)
      refine Run.callBX (major_fn t c o hf) rfl rfl ⟨tb_le t (Le.refl _) (Le.refl _), Le.refl _, Le.refl _, trivial⟩ rfl rfl rfl ?_
      unfold majL
      obtain ⟨h1, h2⟩ := rc_ok (c := (c : Int)) hok hbo (fun h => by unfold badC at h; omega)
      have hpos : 0 < (readR t c o).length := by rw [h2]; exact read_pos t _ o _ hok.n1
      have hlen : (readR t c o).length ≤ 12 := by rw [h2]; have := read_len t (c : Int).toNat o t.wits.length; have := hok.n12; omega
      have hwl := (readR_fit t c o hf).2.1
      have hwm := (readR_fit t c o hf).2.2
      have hmx := majR_max t c o
      have hfi := (maxE_spec (readR t c o) (readR t c o).length).2
      have hml := maxE_lt (readR t c o) _ (Nat.le_refl _) hpos
      have hmj : (readR t c o).getD (maxE (readR t c o) (readR t c o).length) rd0 = majR t c o := rfl
      rw [hmj] at hfi
      rw [h1]
      generalize majR t c o = M at hmx hwm hfi hmj ⊢
      generalize readR t c o = l at hpos hlen hwl hmx hfi hml hmj ⊢
      generalize maxE l l.length = m at hfi hml hmj
      (conv => whnf); repeat' (first | ((with_reducible refine Know.mk fun _ => ?_); conv => whnf) | ((with_reducible refine Need.mk ?_ ?_); (first | omega | (dsimp only; omega) | decide | exact bytes_le (by rfl) (by omega) | exact ⟨rfl, by omega, bytes_le (by rfl) (by omega), by omega⟩ | (refine ⟨?_, ?_⟩ <;> (rw [wrap64 (by omega) (by omega)]; omega))); conv => whnf) | ((with_reducible refine Both.mk ?_ ?_) <;> conv => whnf) | ((with_reducible refine Any.mk fun b hb => ?_); conv => whnf) | ((with_reducible first | refine AskB.dec (fun hb => ?_) (fun hb => ?_) | refine AskB.ndec (fun hb => ?_) (fun hb => ?_) | refine AskB.mk (fun hb => ?_) (fun hb => ?_)) <;> first | (exfalso; omega) | (conv => whnf)) | ((with_reducible first | refine Run.drawX rfl (by decide +kernel) ?_ | refine Run.drawT rfl (by decide +kernel) ?_ | refine Run.drawW rfl (by decide +kernel) ?_); conv => whnf) | fail)
      all_goals try (exfalso; omega)
      refine Run.loop [1, 6, 27, 28, 57] (fun (i : Nat) => [(2, .box 2 0), (8, .box 8 0), (10, .int .i64 (if m < i then (m : Int) else -1)), (58, .int .i64 (i : Int))]) (fun i => [(2, .box 25 [tWit.L t.wits, tIL.L t.cols]), (8, .box 47 [.bool M.none, .str M.text, tI.L M.wits])]) (fun i => i ≤ l.length) (fun i => l.length - i) 0 (Nat.zero_le _) ⟨Le.refl _, Le.refl _, Le.int (by rw [if_neg (Nat.not_lt_zero _)]), Le.refl _, trivial⟩ ⟨MOle.refl _, MOle.refl _, trivial⟩ ?_
      intro i hi IH2
      have hwi : IntKind.i64.wrap ((i : Int) + 1) = ((i + 1 : Nat) : Int) := wrap64 (by omega) (by omega)
      generalize hq : (if m < i then (m : Int) else -1) = q
      have hqr : (m < i ∧ q = m) ∨ (¬ m < i ∧ q = -1) := by rw [← hq]; split <;> simp [*]
      show Run _ _ (lst (_ ++ [(2, .box 2 0), (8, .box 8 0), (10, .int .i64 q), (58, .int .i64 (i : Int))])) (lstH [(2, .box 25 [tWit.L t.wits, tIL.L t.cols]), (8, .box 47 [.bool M.none, .str M.text, tI.L M.wits])])
      have hli : (l.getD ((i : Nat) : Int).toNat tRd.z).wits.length = (l.getD i rd0).wits.length := rfl
      have hlm : (l.getD m rd0).wits.length = M.wits.length := by rw [hmj]
      have hmi := hmx i
      have hfi' := hfi i
      have hne : i = m → (l.getD i rd0).wits.length = M.wits.length := fun e => by rw [e, hmj]
      refine Run.go ?_; (conv => whnf); repeat' (first | ((with_reducible refine Know.mk fun _ => ?_); conv => whnf) | ((with_reducible refine Need.mk ?_ ?_); (first | omega | (dsimp only; omega) | decide | exact bytes_le (by rfl) (by omega) | exact ⟨rfl, by omega, bytes_le (by rfl) (by omega), by omega⟩ | (refine ⟨?_, ?_⟩ <;> (rw [wrap64 (by omega) (by omega)]; omega))); conv => whnf) | ((with_reducible first | refine Both.mk ?_ ?_ | refine Any.mk fun b hb => ?_ | refine AskB.dec (fun hb => ?_) (fun hb => ?_) | refine AskB.ndec (fun hb => ?_) (fun hb => ?_) | refine AskB.mk (fun hb => ?_) (fun hb => ?_)) <;> conv => whnf) | ((with_reducible first | refine Run.drawX rfl (by decide +kernel) ?_ | refine Run.drawT rfl (by decide +kernel) ?_ | refine Run.drawW rfl (by decide +kernel) ?_); conv => whnf) | fail)
      all_goals try (exfalso; omega)
      · refine Run.to _ _ ?_ ?_ (IH2 (i + 1) (by omega) (by omega))
        · exact ⟨Le.refl _, Le.refl _, Le.refl _, Le.refl _, Le.refl _, Le.refl _, Le.refl _, Le.int (by rw [if_pos (by omega)]; omega), Le.int hwi, trivial⟩
        · exact ⟨MOle.refl _, MOle.refl _, trivial⟩
      · refine Run.to _ _ ?_ ?_ (IH2 (i + 1) (by omega) (by omega))
        · exact ⟨Le.refl _, Le.refl _, Le.refl _, Le.refl _, Le.refl _, Le.refl _, Le.refl _, Le.int (by rw [if_neg (by omega)]; omega), Le.int hwi, trivial⟩
        · exact ⟨MOle.refl _, MOle.refl _, trivial⟩
      · refine Run.to _ _ ?_ ?_ (IH2 (i + 1) (by omega) (by omega))
        · exact ⟨Le.refl _, Le.refl _, Le.refl _, Le.refl _, Le.refl _, Le.refl _, Le.refl _, Le.int (by rw [if_pos (by omega)]; omega), Le.int hwi, trivial⟩
        · exact ⟨MOle.refl _, MOle.refl _, trivial⟩
      obtain rfl : q = (m : Int) := by omega
      refine CallQ.flat (one_fn (l.getD m tRd.z) M (by have := hwm; rw [show l.getD m tRd.z = M from hmj]; omega)) rfl ⟨rd_agg (l.getD m rd0) (Le.refl _) (Le.refl _) (Le.refl _), rd_agg M (Le.refl _) (Le.refl _) (Le.refl _), trivial⟩ rfl ?_
      (conv => whnf); repeat' (first | ((with_reducible refine Know.mk fun _ => ?_); conv => whnf) | ((with_reducible refine Need.mk ?_ ?_); (first | omega | (dsimp only; omega) | decide | exact bytes_le (by rfl) (by omega) | exact ⟨rfl, by omega, bytes_le (by rfl) (by omega), by omega⟩ | (refine ⟨?_, ?_⟩ <;> (rw [wrap64 (by omega) (by omega)]; omega))); conv => whnf) | ((with_reducible first | refine Both.mk ?_ ?_ | refine Any.mk fun b hb => ?_ | refine AskB.dec (fun hb => ?_) (fun hb => ?_) | refine AskB.ndec (fun hb => ?_) (fun hb => ?_) | refine AskB.mk (fun hb => ?_) (fun hb => ?_)) <;> conv => whnf) | ((with_reducible first | refine Run.drawX rfl (by decide +kernel) ?_ | refine Run.drawT rfl (by decide +kernel) ?_ | refine Run.drawW rfl (by decide +kernel) ?_); conv => whnf) | fail)
      · refine Run.to _ _ ?_ ?_ (IH (c + 1) (by omega) (by omega))
        · exact ⟨Le.refl _, Le.refl _, Le.refl _, Le.int hwc, trivial⟩
        · exact ⟨MOle.refl _, trivial⟩
      · exact absurd hmj hb
    · exact Run.leave (ts := [4]) (.inr ⟨_, rfl⟩) rfl Tryd.func7 rfl (Le.refl _)
  · rw [he]
    (conv => whnf); repeat' (first | ((with_reducible refine Know.mk fun _ => ?_); conv => whnf) | ((with_reducible refine Need.mk ?_ ?_); (first | omega | (dsimp only; omega) | decide | exact bytes_le (by rfl) (by omega) | exact ⟨rfl, by omega, bytes_le (by rfl) (by omega), by omega⟩ | (refine ⟨?_, ?_⟩ <;> (rw [wrap64 (by omega) (by omega)]; omega))); conv => whnf) | ((with_reducible refine Both.mk ?_ ?_) <;> conv => whnf) | ((with_reducible refine Any.mk fun b hb => ?_); conv => whnf) | ((with_reducible first | refine AskB.dec (fun hb => ?_) (fun hb => ?_) | refine AskB.ndec (fun hb => ?_) (fun hb => ?_) | refine AskB.mk (fun hb => ?_) (fun hb => ?_)) <;> first | (exfalso; omega) | (conv => whnf)) | ((with_reducible first | refine Run.drawX rfl (by decide +kernel) ?_ | refine Run.drawT rfl (by decide +kernel) ?_ | refine Run.drawW rfl (by decide +kernel) ?_); conv => whnf) | fail)
    all_goals try (exfalso; omega)
    exact Run.leave (ts := [4]) (.inr ⟨_, rfl⟩) rfl Tryd.func7 rfl (Le.refl _)
end Go.Proofs.YtnadacaoehpdnaaDoor.V

namespace Go.Proofs.YtnadacaoehpdnaaDoor.V
set_option linter.unusedVariables false
set_option linter.unusedSimpArgs false
open Go Go.Proofs Go.RowKit
set_option maxRecDepth 100000
/-! ### folding by nothing -/
theorem foldL_0 (r : Int) : foldL 0 r = [r] := by
  unfold foldL foldB
  simp [stepB]
theorem cells_0 (s : ByteArray) (p : Nat) : catC 0 (cells s p) = bl (s.data.toList.drop p) := by
  have h3 : s.data.toList.length = s.size := by simp
  by_cases hp : p < s.size
  · have hw := Lib.width_pos s p
    have ih := cells_0 s (p + (Utf8.decode s p).2)
    rw [cells_in hp, catC, ih]
    by_cases hv : (Utf8.decode s p).1 = 65533 ∧ (Utf8.decode s p).2 = 1
    · have hd : Utf8.decode s p = (65533, 1) := Prod.ext hv.1 hv.2
      rw [cellAt_bad s p hd, hd]
      have hb : cellF 0 ⟨p, 1, 65533, true, bt s p⟩ = bl [s.data.toList[p]'(by omega)] := by
        unfold cellF bt
        rw [if_pos rfl, List.getD, List.getElem?_eq_getElem (by omega)]
        apply ByteArray.ext; apply Array.ext'; simp [bl]
      rw [hb, ← bl_app, List.singleton_append, ← List.drop_eq_getElem_cons]
    · have hne : s.data.toList.drop p ≠ [] := fun e => by
        have h2 := congrArg List.length e
        rw [List.length_drop] at h2
        simp at h2; omega
      have he := Lib.encode_decode _ hne (by rw [Lib.decodeL_drop]; exact hv)
      rw [Lib.decodeL_drop] at he
      rw [cellAt_good s p (Utf8.decode s p).1 (Utf8.decode s p).2 rfl hv]
      unfold cellF
      rw [if_neg (by simp), foldR_eq, foldL_0, ← bl_app]
      simp only [encs, List.flatMap_cons, List.flatMap_nil, List.append_nil]
      rw [he, ← List.drop_drop, List.take_append_drop]
  · rw [cells_out hp, List.drop_eq_nil_of_le (by omega)]
    rfl
termination_by s.size - p
theorem text_0 (s : ByteArray) : textF s 0 = s := by
  unfold textF
  rw [cells_0, List.drop_zero, bl_of]
/-! ### a witness more -/
theorem add_miss {o : Int} {l : List Rd} {i : Int} {nn : Bool} {text key : ByteArray} (h : l.findIdx (sameR o nn key) = l.length) : addR o l i nn text key = l ++ [⟨nn, text, [i]⟩] := by
  unfold addR ensR pushW
  rw [h, if_pos rfl, getD_app2, List.set_append_right _ _ (Nat.le_refl _), Nat.sub_self]
  rfl
theorem add_hit {o : Int} {l : List Rd} {i : Int} {nn : Bool} {text key : ByteArray} (h : l.findIdx (sameR o nn key) < l.length) :
    addR o l i nn text key = pushW l (l.findIdx (sameR o nn key)) i ∧ (l.getD (l.findIdx (sameR o nn key)) rd0).none = nn ∧ textF (l.getD (l.findIdx (sameR o nn key)) rd0).text o = key := by
  unfold addR ensR
  rw [if_neg (by omega)]
  refine ⟨rfl, ?_⟩
  have h1 := List.findIdx_getElem (p := sameR o nn key) (xs := l) (w := h)
  have h2 : l.getD (l.findIdx (sameR o nn key)) rd0 = l[l.findIdx (sameR o nn key)] := by rw [List.getD, List.getElem?_eq_getElem h]; rfl
  rw [← h2] at h1
  generalize l.getD (l.findIdx (sameR o nn key)) rd0 = r at h1 ⊢
  unfold sameR at h1
  simpa using h1
theorem push_at (l : List Rd) (k : Nat) (i : Int) (hk : k < l.length) (j : Nat) : (pushW l k i).getD j rd0 = if j = k then ⟨(l.getD k rd0).none, (l.getD k rd0).text, (l.getD k rd0).wits ++ [i]⟩ else l.getD j rd0 := by
  unfold pushW
  rw [List.getD, List.getElem?_set]
  by_cases e : j = k
  · subst e; rw [if_pos rfl, if_pos hk, if_pos rfl]; rfl
  · rw [if_neg (fun x => e x.symm), if_neg e]; rfl
theorem sumL_set {α : Type} (f : α → Nat) (z y : α) : ∀ (l : List α) (k : Nat), k < l.length → sumL f (l.set k y) + f (l.getD k z) = sumL f l + f y
  | [], k, h => absurd h (Nat.not_lt_zero _)
  | x :: l, 0, _ => by simp only [List.set_cons_zero, sumL, List.getD_cons_zero]; omega
  | x :: l, k + 1, h => by
    have := sumL_set f z y l k (by simpa using h)
    simp only [List.set_cons_succ, sumL, List.getD_cons_succ]; omega
/-- What the witnesses of a reading have of it. -/
structure WsOk (t : Tab) (c : Nat) (o : Int) (n : Nat) (r : Rd) : Prop where
  pos : 0 < r.wits.length
  up : ∀ k, k + 1 < r.wits.length → r.wits.getD k 0 < r.wits.getD (k + 1) 0
  at' : ∀ k, k < r.wits.length → 0 ≤ r.wits.getD k 0 ∧ r.wits.getD k 0 < n ∧ r.none = decide (atC t c (r.wits.getD k 0).toNat < 0) ∧ textF r.text o = keyAt t c o (r.wits.getD k 0).toNat
  text : r.text = textAt t c (r.wits.getD 0 0).toNat
structure RInv (t : Tab) (c : Nat) (o : Int) (n : Nat) (l : List Rd) : Prop where
  hit : ∀ j, j < n → ∃ r ∈ l, r.none = decide (atC t c j < 0) ∧ textF r.text o = keyAt t c o j
  ws : ∀ i, i < l.length → WsOk t c o n (l.getD i rd0)
  up : ∀ i, i + 1 < l.length → (l.getD i rd0).wits.getD 0 0 < (l.getD (i + 1) rd0).wits.getD 0 0
  sum : sumL (fun r : Rd => r.wits.length) l = n
theorem WsOk.mono {t : Tab} {c n : Nat} {o : Int} {r : Rd} (h : WsOk t c o n r) : WsOk t c o (n + 1) r :=
  ⟨h.pos, h.up, fun k hk => by obtain ⟨a, b, d⟩ := h.at' k hk; exact ⟨a, by omega, d⟩, h.text⟩
theorem key_text (t : Tab) (c : Nat) (o : Int) (i : Nat) : textF (textAt t c i) o = keyAt t c o i := by
  unfold keyAt
  split
  · unfold textAt
    rw [if_pos (by assumption), textF_empty]
  · rfl
theorem read_inv (t : Tab) (c : Nat) (o : Int) : ∀ n, RInv t c o n (readE t c o n)
  | 0 => ⟨fun j h => absurd h (Nat.not_lt_zero _), fun i h => absurd h (Nat.not_lt_zero _), fun i h => absurd h (Nat.not_lt_zero _), rfl⟩
  | n + 1 => by
    have ih := read_inv t c o n
    have hstep : readE t c o (n + 1) = addR o (readE t c o n) n (decide (atC t c n < 0)) (textAt t c n) (keyAt t c o n) := rfl
    generalize readE t c o n = l at ih hstep
    rw [hstep]
    by_cases hk : l.findIdx (sameR o (decide (atC t c n < 0)) (keyAt t c o n)) < l.length
    · obtain ⟨e1, e2, e3⟩ := add_hit (i := (n : Int)) (text := textAt t c n) hk
      rw [e1]
      generalize l.findIdx (sameR o (decide (atC t c n < 0)) (keyAt t c o n)) = k at hk e2 e3
      have hw := ih.ws k hk
      have hlen : (pushW l k n).length = l.length := push_len l k n
      have hfirst : ∀ i, ((pushW l k n).getD i rd0).wits.getD 0 0 = (l.getD i rd0).wits.getD 0 0 := fun i => by
        rw [push_at l k n hk]
        split
        · rename_i e; subst e
          exact getD_app1 hw.pos
        · rfl
      refine ⟨fun j hj => ?_, fun i hi => ?_, fun i hi => ?_, ?_⟩
      · have key : ∀ r ∈ l, ∃ r' ∈ pushW l k n, r'.none = r.none ∧ r'.text = r.text := fun r hr => by
          obtain ⟨i, hi, rfl⟩ := List.getElem_of_mem hr
          have hg : l.getD i rd0 = l[i] := by rw [List.getD, List.getElem?_eq_getElem hi]; rfl
          refine ⟨(pushW l k n).getD i rd0, getD_mem' i (by rw [hlen]; exact hi), ?_⟩
          rw [push_at l k n hk, ← hg]
          split
          · rename_i e; subst e; exact ⟨rfl, rfl⟩
          · exact ⟨rfl, rfl⟩
        by_cases hjn : j < n
        · obtain ⟨r, hr, h1, h2⟩ := ih.hit j hjn
          obtain ⟨r', hr', g1, g2⟩ := key r hr
          exact ⟨r', hr', by rw [g1, h1], by rw [g2, h2]⟩
        · obtain rfl : j = n := by omega
          obtain ⟨r', hr', g1, g2⟩ := key _ (getD_mem' (z := rd0) k hk)
          exact ⟨r', hr', by rw [g1, e2], by rw [g2, e3]⟩
      · rw [hlen] at hi
        rw [push_at l k n hk]
        split
        · rename_i e; subst e
          have hl : ((l.getD i rd0).wits ++ [(n : Int)]).length = (l.getD i rd0).wits.length + 1 := by simp
          have hold : ∀ q, q < (l.getD i rd0).wits.length → ((l.getD i rd0).wits ++ [(n : Int)]).getD q 0 = (l.getD i rd0).wits.getD q 0 := fun q hq => getD_app1 hq
          have hnew : ((l.getD i rd0).wits ++ [(n : Int)]).getD (l.getD i rd0).wits.length 0 = n := getD_app2
          refine ⟨by show 0 < ((l.getD i rd0).wits ++ [(n : Int)]).length; omega, fun q hq => ?_, fun q hq => ?_, ?_⟩
          · replace hq : q + 1 < ((l.getD i rd0).wits ++ [(n : Int)]).length := hq
            show ((l.getD i rd0).wits ++ [(n : Int)]).getD q 0 < ((l.getD i rd0).wits ++ [(n : Int)]).getD (q + 1) 0
            rw [hold q (by omega)]
            by_cases e : q + 1 = (l.getD i rd0).wits.length
            · rw [e, hnew]; exact (hw.at' q (by omega)).2.1
            · rw [hold (q + 1) (by omega)]; exact hw.up q (by omega)
          · replace hq : q < ((l.getD i rd0).wits ++ [(n : Int)]).length := hq
            show 0 ≤ ((l.getD i rd0).wits ++ [(n : Int)]).getD q 0 ∧ ((l.getD i rd0).wits ++ [(n : Int)]).getD q 0 < ((n + 1 : Nat) : Int) ∧ (l.getD i rd0).none = decide (atC t c (((l.getD i rd0).wits ++ [(n : Int)]).getD q 0).toNat < 0) ∧ textF (l.getD i rd0).text o = keyAt t c o (((l.getD i rd0).wits ++ [(n : Int)]).getD q 0).toNat
            by_cases e : q = (l.getD i rd0).wits.length
            · rw [e, hnew]
              exact ⟨by omega, by omega, e2, e3⟩
            · rw [hold q (by omega)]
              obtain ⟨a, b, d⟩ := hw.at' q (by omega)
              exact ⟨a, by omega, d⟩
          · show (l.getD i rd0).text = textAt t c (((l.getD i rd0).wits ++ [(n : Int)]).getD 0 0).toNat
            rw [hold 0 hw.pos]; exact hw.text
        · exact (ih.ws i hi).mono
      · rw [hlen] at hi
        rw [hfirst, hfirst]; exact ih.up i hi
      · have h1 := sumL_set (fun r : Rd => r.wits.length) rd0 ⟨(l.getD k rd0).none, (l.getD k rd0).text, (l.getD k rd0).wits ++ [(n : Int)]⟩ l k hk
        have h2 := ih.sum
        simp only [List.length_append, List.length_singleton] at h1
        show sumL (fun r : Rd => r.wits.length) (l.set k _) = n + 1
        omega
    · have hm : l.findIdx (sameR o (decide (atC t c n < 0)) (keyAt t c o n)) = l.length := by
        have := List.findIdx_le_length (p := sameR o (decide (atC t c n < 0)) (keyAt t c o n)) (xs := l)
        omega
      rw [add_miss hm]
      have hold : ∀ i, i < l.length → (l ++ [(⟨decide (atC t c n < 0), textAt t c n, [(n : Int)]⟩ : Rd)]).getD i rd0 = l.getD i rd0 := fun i hi => getD_app1 hi
      have hnew : (l ++ [(⟨decide (atC t c n < 0), textAt t c n, [(n : Int)]⟩ : Rd)]).getD l.length rd0 = ⟨decide (atC t c n < 0), textAt t c n, [(n : Int)]⟩ := getD_app2
      have hl : (l ++ [(⟨decide (atC t c n < 0), textAt t c n, [(n : Int)]⟩ : Rd)]).length = l.length + 1 := by simp
      refine ⟨fun j hj => ?_, fun i hi => ?_, fun i hi => ?_, ?_⟩
      · by_cases hjn : j < n
        · obtain ⟨r, hr, h⟩ := ih.hit j hjn
          exact ⟨r, List.mem_append_left _ hr, h⟩
        · obtain rfl : j = n := by omega
          exact ⟨_, List.mem_append_right _ (List.mem_singleton.mpr rfl), rfl, key_text t c o j⟩
      · by_cases e : i = l.length
        · rw [e, hnew]
          refine ⟨Nat.one_pos, fun q hq => absurd hq (by simp), one0 ⟨Int.natCast_nonneg n, by show (n : Int) < ((n + 1 : Nat) : Int); omega, rfl, key_text t c o n⟩, rfl⟩
        · rw [hold i (by omega)]; exact (ih.ws i (by omega)).mono
      · rw [hold i (by omega)]
        by_cases e : i + 1 = l.length
        · rw [e, hnew]
          exact ((ih.ws i (by omega)).at' 0 (ih.ws i (by omega)).pos).2.1
        · rw [hold (i + 1) (by omega)]; exact ih.up i (by omega)
      · rw [sumL_append, ih.sum]; rfl
end Go.Proofs.YtnadacaoehpdnaaDoor.V

namespace Go.Proofs.YtnadacaoehpdnaaDoor.V
set_option linter.unusedVariables false
set_option linter.unusedSimpArgs false
open Go Go.Proofs Go.RowKit
set_option maxRecDepth 100000
set_option maxHeartbeats 4000000
noncomputable def cellL (t : Tab) (c i : Nat) : AV := tupL [.str (textAt t c i), .bool (!decide (atC t c i < 0)), .int .i64 0]
theorem tcell_fn (t : Tab) (c i : Nat) (hf : FitT t) (hok : OkT t) (hc : c < t.cols.length) (hi : i < t.wits.length) : Fn Tryd.prog 21 [tbA t, .int .i64 c, .int .i64 i] (cellL t c i) := by
  refine Fn.of Tryd.f21 _ Tryd.func21 rfl (by decide) (by show 3 ≤ _; decide) tbOk 56 rfl fun S w0 gl => ?_
  have hfc := hf.cols
  have hfw := hf.wits
  refine Run.go ?_; (conv => whnf); repeat' (first | ((with_reducible refine Know.mk fun _ => ?_); conv => whnf) | ((with_reducible refine Need.mk ?_ ?_); (first | omega | (dsimp only; omega) | decide | exact bytes_le (by rfl) (by omega) | exact ⟨rfl, by omega, bytes_le (by rfl) (by omega), by omega⟩ | (refine ⟨?_, ?_⟩ <;> (rw [wrap64 (by omega) (by omega)]; omega))); conv => whnf) | ((with_reducible first | refine Both.mk ?_ ?_ | refine Any.mk fun b hb => ?_ | refine AskB.dec (fun hb => ?_) (fun hb => ?_) | refine AskB.ndec (fun hb => ?_) (fun hb => ?_) | refine AskB.mk (fun hb => ?_) (fun hb => ?_)) <;> conv => whnf) | ((with_reducible first | refine Run.drawX rfl (by decide +kernel) ?_ | refine Run.drawT rfl (by decide +kernel) ?_ | refine Run.drawW rfl (by decide +kernel) ?_); conv => whnf) | fail)
  refine Run.callBX (check_fn t hf) rfl rfl ⟨tb_le t (Le.refl _) (Le.refl _), trivial⟩ rfl rfl rfl ?_
  rw [chk_ok hok]
  obtain ⟨hlen, hat⟩ := at_ok hok hc hi
  have hfi : (witAt t i).words.length ≤ 2000000 := (hf.wit (witAt t i) (getD_mem' i hi)).2.1
  have hx : (t.cols.getD (c : Int).toNat tIL.z).getD (i : Int).toNat tI.z = atC t c i := rfl
  have hlc : (t.cols.getD (c : Int).toNat tIL.z).length = t.wits.length := hlen
  have hlw2 : (t.wits.getD (i : Int).toNat tWit.z).words.length = (witAt t i).words.length := rfl
  unfold cellL textAt
  (conv => whnf); repeat' (first | ((with_reducible refine Know.mk fun _ => ?_); conv => whnf) | ((with_reducible refine Need.mk ?_ ?_); (first | omega | (dsimp only; omega) | decide | exact bytes_le (by rfl) (by omega) | exact ⟨rfl, by omega, bytes_le (by rfl) (by omega), by omega⟩ | (refine ⟨?_, ?_⟩ <;> (rw [wrap64 (by omega) (by omega)]; omega))); conv => whnf) | ((with_reducible refine Both.mk ?_ ?_) <;> conv => whnf) | ((with_reducible refine Any.mk fun b hb => ?_); conv => whnf) | ((with_reducible first | refine AskB.dec (fun hb => ?_) (fun hb => ?_) | refine AskB.ndec (fun hb => ?_) (fun hb => ?_) | refine AskB.mk (fun hb => ?_) (fun hb => ?_)) <;> first | (exfalso; omega) | (conv => whnf)) | ((with_reducible first | refine Run.drawX rfl (by decide +kernel) ?_ | refine Run.drawT rfl (by decide +kernel) ?_ | refine Run.drawW rfl (by decide +kernel) ?_); conv => whnf) | fail)
  all_goals try (exfalso; omega)
  · have hx0 : ¬ atC t c i < 0 := by omega
    rw [if_neg hx0]
    exact Run.leave (ts := [6,7,8]) (.inr ⟨_, rfl⟩) rfl Tryd.func21 rfl (resT ⟨Le.refl _, Le.tt.trans (Le.bool (by rw [decide_eq_false hx0]; rfl)), Le.refl _, trivial⟩)
  · have hx0 : atC t c i < 0 := by omega
    rw [if_pos hx0]
    exact Run.leave (ts := [6,7,8]) (.inr ⟨_, rfl⟩) rfl Tryd.func21 rfl (resT ⟨Le.refl _, Le.ff.trans (Le.bool (by rw [decide_eq_true hx0]; rfl)), Le.refl _, trivial⟩)
theorem groupParts_fn (t : Tab) (o : Int) (hf : FitT t) : Fn Tryd.prog 5 [tbA t, .int .i64 o] .tt := by
  refine Fn.of Tryd.f5 _ Tryd.func5 rfl (by decide) (by show 2 ≤ _; decide) tbOk 140 rfl fun S w0 gl => ?_
  refine Run.go ?_; (conv => whnf); repeat' (first | ((with_reducible refine Know.mk fun _ => ?_); conv => whnf) | ((with_reducible refine Need.mk ?_ ?_); (first | omega | (dsimp only; omega) | decide | exact bytes_le (by rfl) (by omega) | exact ⟨rfl, by omega, bytes_le (by rfl) (by omega), by omega⟩ | (refine ⟨?_, ?_⟩ <;> (rw [wrap64 (by omega) (by omega)]; omega))); conv => whnf) | ((with_reducible first | refine Both.mk ?_ ?_ | refine Any.mk fun b hb => ?_ | refine AskB.dec (fun hb => ?_) (fun hb => ?_) | refine AskB.ndec (fun hb => ?_) (fun hb => ?_) | refine AskB.mk (fun hb => ?_) (fun hb => ?_)) <;> conv => whnf) | ((with_reducible first | refine Run.drawX rfl (by decide +kernel) ?_ | refine Run.drawT rfl (by decide +kernel) ?_ | refine Run.drawW rfl (by decide +kernel) ?_); conv => whnf) | fail)
  refine Run.callBX awakeG_fn rfl rfl trivial rfl rfl rfl ?_
  (conv => whnf); repeat' (first | ((with_reducible refine Know.mk fun _ => ?_); conv => whnf) | ((with_reducible refine Need.mk ?_ ?_); (first | omega | (dsimp only; omega) | decide | exact bytes_le (by rfl) (by omega) | exact ⟨rfl, by omega, bytes_le (by rfl) (by omega), by omega⟩ | (refine ⟨?_, ?_⟩ <;> (rw [wrap64 (by omega) (by omega)]; omega))); conv => whnf) | ((with_reducible first | refine Both.mk ?_ ?_ | refine Any.mk fun b hb => ?_ | refine AskB.dec (fun hb => ?_) (fun hb => ?_) | refine AskB.ndec (fun hb => ?_) (fun hb => ?_) | refine AskB.mk (fun hb => ?_) (fun hb => ?_)) <;> conv => whnf) | ((with_reducible first | refine Run.drawX rfl (by decide +kernel) ?_ | refine Run.drawT rfl (by decide +kernel) ?_ | refine Run.drawW rfl (by decide +kernel) ?_); conv => whnf) | fail)
  refine Run.callBX (check_fn t hf) rfl rfl ⟨tb_le t (Le.refl _) (Le.refl _), trivial⟩ rfl rfl rfl ?_
  have hfc := hf.cols
  have hfw := hf.wits
  rcases chk_01 t with ⟨hok, he⟩ | ⟨hok, he⟩
  · rw [he]
    (conv => whnf); repeat' (first | ((with_reducible refine Know.mk fun _ => ?_); conv => whnf) | ((with_reducible refine Need.mk ?_ ?_); (first | omega | (dsimp only; omega) | decide | exact bytes_le (by rfl) (by omega) | exact ⟨rfl, by omega, bytes_le (by rfl) (by omega), by omega⟩ | (refine ⟨?_, ?_⟩ <;> (rw [wrap64 (by omega) (by omega)]; omega))); conv => whnf) | ((with_reducible refine Both.mk ?_ ?_) <;> conv => whnf) | ((with_reducible refine Any.mk fun b hb => ?_); conv => whnf) | ((with_reducible first | refine AskB.dec (fun hb => ?_) (fun hb => ?_) | refine AskB.ndec (fun hb => ?_) (fun hb => ?_) | refine AskB.mk (fun hb => ?_) (fun hb => ?_)) <;> first | (exfalso; omega) | (conv => whnf)) | ((with_reducible first | refine Run.drawX rfl (by decide +kernel) ?_ | refine Run.drawT rfl (by decide +kernel) ?_ | refine Run.drawW rfl (by decide +kernel) ?_); conv => whnf) | fail)
    all_goals try (exfalso; omega)
    all_goals try (exact Run.leave (ts := [4]) (.inr ⟨_, rfl⟩) rfl Tryd.func5 rfl (Le.refl _))
    have hbo : ¬ badO o := by unfold badO; omega
    have hnc := hok.nc
    refine Run.loop [1, 31] (fun (c : Nat) => [(2, .box 2 0), (32, .int .i64 (c : Int))]) (fun c => [(2, .box 25 [tWit.L t.wits, tIL.L t.cols])]) (fun c => c ≤ t.cols.length) (fun c => t.cols.length - c) 0 (Nat.zero_le _) ⟨Le.refl _, Le.refl _, trivial⟩ ⟨MOle.refl _, trivial⟩ ?_
    intro c hc IH
    have hwc : IntKind.i64.wrap ((c : Int) + 1) = ((c + 1 : Nat) : Int) := wrap64 (by omega) (by omega)
    show Run _ _ (lst (_ ++ [(2, .box 2 0), (32, .int .i64 (c : Int))])) (lstH [(2, .box 25 [tWit.L t.wits, tIL.L t.cols])])
    refine Run.go ?_; (conv => whnf); repeat' (first | ((with_reducible refine Know.mk fun _ => ?_); conv => whnf) | ((with_reducible refine Need.mk ?_ ?_); (first | omega | (dsimp only; omega) | decide | exact bytes_le (by rfl) (by omega) | exact ⟨rfl, by omega, bytes_le (by rfl) (by omega), by omega⟩ | (refine ⟨?_, ?_⟩ <;> (rw [wrap64 (by omega) (by omega)]; omega))); conv => whnf) | ((with_reducible first | refine Both.mk ?_ ?_ | refine Any.mk fun b hb => ?_ | refine AskB.dec (fun hb => ?_) (fun hb => ?_) | refine AskB.ndec (fun hb => ?_) (fun hb => ?_) | refine AskB.mk (fun hb => ?_) (fun hb => ?_)) <;> conv => whnf) | ((with_reducible first | refine Run.drawX rfl (by decide +kernel) ?_ | refine Run.drawT rfl (by decide +kernel) ?_ | refine Run.drawW rfl (by decide +kernel) ?_); conv => whnf) | fail)
    · have hcl : c < t.cols.length := by omega
      refine Run.callBX (readings_fn t c o hf) rfl rfl ⟨tb_le t (Le.refl _) (Le.refl _), Le.refl _, Le.refl _, trivial⟩ rfl rfl rfl ?_
      unfold readL
      obtain ⟨h1, h2⟩ := rc_ok (c := (c : Int)) hok hbo (fun h => by unfold badC at h; omega)
      have hlen : (readR t c o).length ≤ 12 := by rw [h2]; have := read_len t (c : Int).toNat o t.wits.length; have := hok.n12; omega
      have hinv : RInv t c o t.wits.length (readR t c o) := by rw [h2]; exact read_inv t c o t.wits.length
      have hwl := (readR_fit t c o hf).2.1
      rw [h1]
      generalize readR t c o = l at hlen hinv hwl ⊢
      (conv => whnf); repeat' (first | ((with_reducible refine Know.mk fun _ => ?_); conv => whnf) | ((with_reducible refine Need.mk ?_ ?_); (first | omega | (dsimp only; omega) | decide | exact bytes_le (by rfl) (by omega) | exact ⟨rfl, by omega, bytes_le (by rfl) (by omega), by omega⟩ | (refine ⟨?_, ?_⟩ <;> (rw [wrap64 (by omega) (by omega)]; omega))); conv => whnf) | ((with_reducible refine Both.mk ?_ ?_) <;> conv => whnf) | ((with_reducible refine Any.mk fun b hb => ?_); conv => whnf) | ((with_reducible first | refine AskB.dec (fun hb => ?_) (fun hb => ?_) | refine AskB.ndec (fun hb => ?_) (fun hb => ?_) | refine AskB.mk (fun hb => ?_) (fun hb => ?_)) <;> first | (exfalso; omega) | (conv => whnf)) | ((with_reducible first | refine Run.drawX rfl (by decide +kernel) ?_ | refine Run.drawT rfl (by decide +kernel) ?_ | refine Run.drawW rfl (by decide +kernel) ?_); conv => whnf) | fail)
      all_goals try (exfalso; omega)
      refine Run.loop [1, 5, 6, 31, 32, 44, 45] (fun (i : Nat) => [(2, .box 2 0), (8, .int .i64 ((sumL (fun r : Rd => r.wits.length) (l.take i) : Nat) : Int)), (46, .int .i64 (i : Int))]) (fun i => [(2, .box 25 [tWit.L t.wits, tIL.L t.cols])]) (fun i => i ≤ l.length) (fun i => l.length - i) 0 (Nat.zero_le _) ⟨Le.refl _, Le.refl _, Le.refl _, trivial⟩ ⟨MOle.refl _, trivial⟩ ?_
      intro i hi IH2
      have hwi : IntKind.i64.wrap ((i : Int) + 1) = ((i + 1 : Nat) : Int) := wrap64 (by omega) (by omega)
      have hsum : i < l.length → sumL (fun r : Rd => r.wits.length) (l.take (i + 1)) = sumL (fun r : Rd => r.wits.length) (l.take i) + (l.getD i rd0).wits.length := fun h => by
        rw [take_at l i rd0 h, sumL_append]; simp [sumL]
      have hpos : i < l.length → 0 < (l.getD (i : Int).toNat tRd.z).wits.length := fun h => (hinv.ws i h).pos
      have hprev : 0 < i → i < l.length → 0 < (l.getD (IntKind.i64.wrap ((i : Int) - 1)).toNat tRd.z).wits.length ∧ (l.getD (IntKind.i64.wrap ((i : Int) - 1)).toNat tRd.z).wits.getD (0 : Int).toNat tI.z < (l.getD (i : Int).toNat tRd.z).wits.getD (0 : Int).toNat tI.z := fun h0 h => by
        obtain ⟨k, rfl⟩ : ∃ k, i = k + 1 := ⟨i - 1, by omega⟩
        have e : IntKind.i64.wrap (((k + 1 : Nat) : Int) - 1) = (k : Int) := by rw [wrap64 (by omega) (by omega)]; omega
        rw [e]
        exact ⟨(hinv.ws k (by omega)).pos, hinv.up k h⟩
      have hq0 : i = l.length → sumL (fun r : Rd => r.wits.length) (l.take i) = t.wits.length := fun e => by rw [e, List.take_length]; exact hinv.sum
      generalize sumL (fun r : Rd => r.wits.length) (l.take i) = q at hsum hq0
      show Run _ _ (lst (_ ++ [(2, .box 2 0), (8, .int .i64 (q : Int)), (46, .int .i64 (i : Int))])) (lstH [(2, .box 25 [tWit.L t.wits, tIL.L t.cols])])
      by_cases hil : i < l.length
      · have hp0 := hpos hil
        have hpv := fun h => hprev h hil
        have hup := (hinv.ws i hil).up
        have hat := (hinv.ws i hil).at'
        have htx := (hinv.ws i hil).text
        have hml : (l.getD ((i : Nat) : Int).toNat tRd.z).wits.length ≤ 2000000 := hwl _ (getD_mem' i hil)
        have hsn := hsum hil
        have hid : l.getD i rd0 = (l.getD ((i : Nat) : Int).toNat tRd.z) := rfl
        rw [hid] at hup hat htx hsn
        have hql : q + (l.getD ((i : Nat) : Int).toNat tRd.z).wits.length ≤ 24000000 := by
          have h3 := hinv.sum
          have h4 : sumL (fun r : Rd => r.wits.length) (l.take (i + 1)) + sumL (fun r : Rd => r.wits.length) (l.drop (i + 1)) = sumL (fun r : Rd => r.wits.length) l := by rw [← sumL_append, List.take_append_drop]
          omega
        refine Run.go ?_; (conv => whnf); repeat' (first | ((with_reducible refine Know.mk fun _ => ?_); conv => whnf) | ((with_reducible refine Need.mk ?_ ?_); (first | omega | (dsimp only; omega) | decide | exact bytes_le (by rfl) (by omega) | exact ⟨rfl, by omega, bytes_le (by rfl) (by omega), by omega⟩ | (refine ⟨?_, ?_⟩ <;> (rw [wrap64 (by omega) (by omega)]; omega))); conv => whnf) | ((with_reducible refine Both.mk ?_ ?_) <;> conv => whnf) | ((with_reducible refine Any.mk fun b hb => ?_); conv => whnf) | ((with_reducible first | refine AskB.dec (fun hb => ?_) (fun hb => ?_) | refine AskB.ndec (fun hb => ?_) (fun hb => ?_) | refine AskB.mk (fun hb => ?_) (fun hb => ?_)) <;> first | (exfalso; omega) | (conv => whnf)) | ((with_reducible first | refine Run.drawX rfl (by decide +kernel) ?_ | refine Run.drawT rfl (by decide +kernel) ?_ | refine Run.drawW rfl (by decide +kernel) ?_); conv => whnf) | fail)
        all_goals try (exfalso; omega)
        all_goals (
          refine Run.loop [1, 5, 6, 31, 32, 44, 45, 46, 75, 76] (fun (j : Nat) => [(2, .box 2 0), (8, .int .i64 ((q + j : Nat) : Int)), (10, .box 10 0), (77, .int .i64 (j : Int))]) (fun j => [(2, .box 25 [tWit.L t.wits, tIL.L t.cols]), (10, .box 47 [.bool (l.getD ((i : Nat) : Int).toNat tRd.z).none, .str (l.getD ((i : Nat) : Int).toNat tRd.z).text, tI.L (l.getD ((i : Nat) : Int).toNat tRd.z).wits])]) (fun j => j ≤ (l.getD ((i : Nat) : Int).toNat tRd.z).wits.length) (fun j => (l.getD ((i : Nat) : Int).toNat tRd.z).wits.length - j) 0 (Nat.zero_le _) ⟨Le.refl _, Le.refl _, Le.refl _, Le.refl _, trivial⟩ ⟨MOle.refl _, MOle.refl _, trivial⟩ ?_
          intro j hj IH3
          have hwj : IntKind.i64.wrap ((j : Int) + 1) = ((j + 1 : Nat) : Int) := wrap64 (by omega) (by omega)
          have hwq : IntKind.i64.wrap (((q + j : Nat) : Int) + 1) = ((q + (j + 1) : Nat) : Int) := by rw [wrap64 (by omega) (by omega)]; omega
          have hpj : 0 < j → j < (l.getD ((i : Nat) : Int).toNat tRd.z).wits.length → (IntKind.i64.wrap ((j : Int) - 1)).toNat < (l.getD ((i : Nat) : Int).toNat tRd.z).wits.length ∧ 0 ≤ IntKind.i64.wrap ((j : Int) - 1) ∧ (l.getD ((i : Nat) : Int).toNat tRd.z).wits.getD (IntKind.i64.wrap ((j : Int) - 1)).toNat tI.z < (l.getD ((i : Nat) : Int).toNat tRd.z).wits.getD ((j : Nat) : Int).toNat tI.z := fun h0 h => by
            obtain ⟨k, rfl⟩ : ∃ k, j = k + 1 := ⟨j - 1, by omega⟩
            have e : IntKind.i64.wrap (((k + 1 : Nat) : Int) - 1) = (k : Int) := by rw [wrap64 (by omega) (by omega)]; omega
            rw [e]
            exact ⟨by omega, by omega, hup k h⟩
          show Run _ _ (lst (_ ++ [(2, .box 2 0), (8, .int .i64 ((q + j : Nat) : Int)), (10, .box 10 0), (77, .int .i64 (j : Int))])) (lstH [(2, .box 25 [tWit.L t.wits, tIL.L t.cols]), (10, .box 47 [.bool (l.getD ((i : Nat) : Int).toNat tRd.z).none, .str (l.getD ((i : Nat) : Int).toNat tRd.z).text, tI.L (l.getD ((i : Nat) : Int).toNat tRd.z).wits])])
          by_cases hjl : j < (l.getD ((i : Nat) : Int).toNat tRd.z).wits.length
          · obtain ⟨w0, w1, w2, w3⟩ := hat j hjl
            have hwd : (l.getD ((i : Nat) : Int).toNat tRd.z).wits.getD j 0 = (l.getD ((i : Nat) : Int).toNat tRd.z).wits.getD ((j : Nat) : Int).toNat tI.z := rfl
            rw [hwd] at w0 w1 w2 w3
            have hpj' := fun h => hpj h hjl
            have hn : ¬ (!decide (atC t c ((l.getD ((i : Nat) : Int).toNat tRd.z).wits.getD ((j : Nat) : Int).toNat tI.z).toNat < 0)) = (l.getD ((i : Nat) : Int).toNat tRd.z).none := by rw [w2]; cases decide (atC t c ((l.getD ((i : Nat) : Int).toNat tRd.z).wits.getD ((j : Nat) : Int).toNat tI.z).toNat < 0) <;> simp
            have ho0 : o = 0 → textAt t c ((l.getD ((i : Nat) : Int).toNat tRd.z).wits.getD ((j : Nat) : Int).toNat tI.z).toNat = (l.getD ((i : Nat) : Int).toNat tRd.z).text := fun e => by
              rw [e, ← key_text, text_0, text_0] at w3; exact w3.symm
            have hj0 : (j : Int) = 0 → textAt t c ((l.getD ((i : Nat) : Int).toNat tRd.z).wits.getD ((j : Nat) : Int).toNat tI.z).toNat = (l.getD ((i : Nat) : Int).toNat tRd.z).text := fun e => by
              obtain rfl : j = 0 := by omega
              exact htx.symm
            refine Run.go ?_; (conv => whnf); repeat' (first | ((with_reducible refine Know.mk fun _ => ?_); conv => whnf) | ((with_reducible refine Need.mk ?_ ?_); (first | omega | (dsimp only; omega) | decide | exact bytes_le (by rfl) (by omega) | exact ⟨rfl, by omega, bytes_le (by rfl) (by omega), by omega⟩ | (refine ⟨?_, ?_⟩ <;> (rw [wrap64 (by omega) (by omega)]; omega))); conv => whnf) | ((with_reducible refine Both.mk ?_ ?_) <;> conv => whnf) | ((with_reducible refine Any.mk fun b hb => ?_); conv => whnf) | ((with_reducible first | refine AskB.dec (fun hb => ?_) (fun hb => ?_) | refine AskB.ndec (fun hb => ?_) (fun hb => ?_) | refine AskB.mk (fun hb => ?_) (fun hb => ?_)) <;> first | (exfalso; omega) | (conv => whnf)) | ((with_reducible first | refine Run.drawX rfl (by decide +kernel) ?_ | refine Run.drawT rfl (by decide +kernel) ?_ | refine Run.drawW rfl (by decide +kernel) ?_); conv => whnf) | fail)
            all_goals try (exfalso; omega)
            all_goals (
              refine Run.callBX (tcell_fn t c ((l.getD ((i : Nat) : Int).toNat tRd.z).wits.getD ((j : Nat) : Int).toNat tI.z).toNat hf hok hcl (by omega)) rfl rfl ⟨tb_le t (Le.refl _) (Le.refl _), Le.refl _, Le.int (by omega), trivial⟩ rfl rfl rfl ?_
              unfold cellL
              (conv => whnf); repeat' (first | ((with_reducible refine Know.mk fun _ => ?_); conv => whnf) | ((with_reducible refine Need.mk ?_ ?_); (first | omega | (dsimp only; omega) | decide | exact bytes_le (by rfl) (by omega) | exact ⟨rfl, by omega, bytes_le (by rfl) (by omega), by omega⟩ | (refine ⟨?_, ?_⟩ <;> (rw [wrap64 (by omega) (by omega)]; omega))); conv => whnf) | ((with_reducible refine Both.mk ?_ ?_) <;> conv => whnf) | ((with_reducible refine Any.mk fun b hb => ?_); conv => whnf) | ((with_reducible first | refine AskB.dec (fun hb => ?_) (fun hb => ?_) | refine AskB.ndec (fun hb => ?_) (fun hb => ?_) | refine AskB.mk (fun hb => ?_) (fun hb => ?_)) <;> first | (exfalso; omega) | (conv => whnf)) | ((with_reducible first | refine Run.drawX rfl (by decide +kernel) ?_ | refine Run.drawT rfl (by decide +kernel) ?_ | refine Run.drawW rfl (by decide +kernel) ?_); conv => whnf) | fail)
              all_goals try (exfalso; first | omega | exact hn hb | (simp_all; done))
              all_goals try (
                refine Run.to _ _ ?_ ?_ (IH3 (j + 1) (by omega) (by omega))
                · exact ⟨Le.refl _, Le.refl _, Le.refl _, Le.refl _, Le.refl _, Le.refl _, Le.refl _, Le.refl _, Le.refl _, Le.refl _, Le.refl _, Le.int hwq, Le.refl _, Le.int hwj, trivial⟩
                · exact ⟨MOle.refl _, MOle.refl _, trivial⟩))
          · obtain rfl : j = (l.getD ((i : Nat) : Int).toNat tRd.z).wits.length := by omega
            refine Run.go ?_; (conv => whnf); repeat' (first | ((with_reducible refine Know.mk fun _ => ?_); conv => whnf) | ((with_reducible refine Need.mk ?_ ?_); (first | omega | (dsimp only; omega) | decide | exact bytes_le (by rfl) (by omega) | exact ⟨rfl, by omega, bytes_le (by rfl) (by omega), by omega⟩ | (refine ⟨?_, ?_⟩ <;> (rw [wrap64 (by omega) (by omega)]; omega))); conv => whnf) | ((with_reducible first | refine Both.mk ?_ ?_ | refine Any.mk fun b hb => ?_ | refine AskB.dec (fun hb => ?_) (fun hb => ?_) | refine AskB.ndec (fun hb => ?_) (fun hb => ?_) | refine AskB.mk (fun hb => ?_) (fun hb => ?_)) <;> conv => whnf) | ((with_reducible first | refine Run.drawX rfl (by decide +kernel) ?_ | refine Run.drawT rfl (by decide +kernel) ?_ | refine Run.drawW rfl (by decide +kernel) ?_); conv => whnf) | fail)
            all_goals try (exfalso; omega)
            refine Run.to _ _ ?_ ?_ (IH2 (i + 1) (by omega) (by omega))
            · exact ⟨Le.refl _, Le.refl _, Le.refl _, Le.refl _, Le.refl _, Le.refl _, Le.refl _, Le.refl _, Le.int (by rw [hsn]), Le.int hwi, trivial⟩
            · exact ⟨MOle.refl _, trivial⟩)
      · obtain rfl : i = l.length := by omega
        have hq1 := hq0 rfl
        refine Run.go ?_; (conv => whnf); repeat' (first | ((with_reducible refine Know.mk fun _ => ?_); conv => whnf) | ((with_reducible refine Need.mk ?_ ?_); (first | omega | (dsimp only; omega) | decide | exact bytes_le (by rfl) (by omega) | exact ⟨rfl, by omega, bytes_le (by rfl) (by omega), by omega⟩ | (refine ⟨?_, ?_⟩ <;> (rw [wrap64 (by omega) (by omega)]; omega))); conv => whnf) | ((with_reducible refine Both.mk ?_ ?_) <;> conv => whnf) | ((with_reducible refine Any.mk fun b hb => ?_); conv => whnf) | ((with_reducible first | refine AskB.dec (fun hb => ?_) (fun hb => ?_) | refine AskB.ndec (fun hb => ?_) (fun hb => ?_) | refine AskB.mk (fun hb => ?_) (fun hb => ?_)) <;> first | (exfalso; omega) | (conv => whnf)) | ((with_reducible first | refine Run.drawX rfl (by decide +kernel) ?_ | refine Run.drawT rfl (by decide +kernel) ?_ | refine Run.drawW rfl (by decide +kernel) ?_); conv => whnf) | fail)
        all_goals try (exfalso; omega)
        refine Run.to _ _ ?_ ?_ (IH (c + 1) (by omega) (by omega))
        · exact ⟨Le.refl _, Le.refl _, Le.refl _, Le.int hwc, trivial⟩
        · exact ⟨MOle.refl _, trivial⟩
    · exact Run.leave (ts := [4]) (.inr ⟨_, rfl⟩) rfl Tryd.func5 rfl (Le.refl _)
  · rw [he]
    (conv => whnf); repeat' (first | ((with_reducible refine Know.mk fun _ => ?_); conv => whnf) | ((with_reducible refine Need.mk ?_ ?_); (first | omega | (dsimp only; omega) | decide | exact bytes_le (by rfl) (by omega) | exact ⟨rfl, by omega, bytes_le (by rfl) (by omega), by omega⟩ | (refine ⟨?_, ?_⟩ <;> (rw [wrap64 (by omega) (by omega)]; omega))); conv => whnf) | ((with_reducible refine Both.mk ?_ ?_) <;> conv => whnf) | ((with_reducible refine Any.mk fun b hb => ?_); conv => whnf) | ((with_reducible first | refine AskB.dec (fun hb => ?_) (fun hb => ?_) | refine AskB.ndec (fun hb => ?_) (fun hb => ?_) | refine AskB.mk (fun hb => ?_) (fun hb => ?_)) <;> first | (exfalso; omega) | (conv => whnf)) | ((with_reducible first | refine Run.drawX rfl (by decide +kernel) ?_ | refine Run.drawT rfl (by decide +kernel) ?_ | refine Run.drawW rfl (by decide +kernel) ?_); conv => whnf) | fail)
    all_goals try (exfalso; omega)
    exact Run.leave (ts := [4]) (.inr ⟨_, rfl⟩) rfl Tryd.func5 rfl (Le.refl _)
end Go.Proofs.YtnadacaoehpdnaaDoor.V

