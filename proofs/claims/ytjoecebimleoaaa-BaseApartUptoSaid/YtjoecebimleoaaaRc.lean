/-
Plain facts on rebuilt tables: the first row is the one that was handed in; columns without an entry stay.
-/
import Derived.Test.YtjoecebimleoaaaRb
namespace Go.Proofs.Ytjoecebimleoaaa.V
open Go
set_option linter.unusedVariables false
theorem set_same {α : Type} (l : List α) (i : Nat) (d : α) (h : i < l.length) : l.set i (l.getD i d) = l := by
  refine List.ext_getElem (by simp) fun j h1 h2 => ?_
  rw [List.getElem_set]
  split
  · rename_i e; subst e; simp [List.getD, h]
  · rfl
theorem getD_set_ne {α : Type} (l : List α) (i j : Nat) (x d : α) (h : i ≠ j) : (l.set i x).getD j d = l.getD j d := by
  simp [List.getD, List.getElem?_set_ne h]
theorem appT_same (w : Int) (row : List ByteArray) : ∀ (l : List Sayn), (∀ s ∈ l, s.w = w → s.t = row.getD s.c ByteArray.empty ∧ s.c < row.length) → appT w l row = row := by
  intro l
  induction l with
  | nil => intro _; rfl
  | cons s l ih =>
    intro h
    unfold appT at ih ⊢
    rw [List.foldl_cons]
    by_cases e : s.w = w
    · rw [if_pos e]
      obtain ⟨h1, h2⟩ := h s (by simp) e
      rw [h1, set_same _ _ _ h2]
      exact ih fun s' hs' => h s' (by simp [hs'])
    · rw [if_neg e]
      exact ih fun s' hs' => h s' (by simp [hs'])
theorem appH_same (w : Int) (row : List Bool) : ∀ (l : List Sayn), (∀ s ∈ l, s.w = w → s.h = row.getD s.c false ∧ s.c < row.length) → appH w l row = row := by
  intro l
  induction l with
  | nil => intro _; rfl
  | cons s l ih =>
    intro h
    unfold appH at ih ⊢
    rw [List.foldl_cons]
    by_cases e : s.w = w
    · rw [if_pos e]
      obtain ⟨h1, h2⟩ := h s (by simp) e
      rw [h1, set_same _ _ _ h2]
      exact ih fun s' hs' => h s' (by simp [hs'])
    · rw [if_neg e]
      exact ih fun s' hs' => h s' (by simp [hs'])
theorem appT_off (w : Int) (c : Nat) (d : ByteArray) : ∀ (l : List Sayn) (row : List ByteArray), (∀ s ∈ l, s.c ≠ c) → (appT w l row).getD c d = row.getD c d := by
  intro l
  induction l with
  | nil => intro row _; rfl
  | cons s l ih =>
    intro row h
    unfold appT at ih ⊢
    rw [List.foldl_cons, ih _ fun s' hs' => h s' (by simp [hs'])]
    split
    · exact getD_set_ne _ _ _ _ _ (h s (by simp))
    · rfl
theorem appH_off (w : Int) (c : Nat) (d : Bool) : ∀ (l : List Sayn) (row : List Bool), (∀ s ∈ l, s.c ≠ c) → (appH w l row).getD c d = row.getD c d := by
  intro l
  induction l with
  | nil => intro row _; rfl
  | cons s l ih =>
    intro row h
    unfold appH at ih ⊢
    rw [List.foldl_cons, ih _ fun s' hs' => h s' (by simp [hs'])]
    split
    · exact getD_set_ne _ _ _ _ _ (h s (by simp))
    · rfl
theorem says_mem {es : List En} {s : Sayn} (h : s ∈ says es) : ∃ e ∈ es, ∃ r ∈ e.rds, s.w ∈ r.wits ∧ s.c = e.col.toNat ∧ s.t = r.text ∧ s.h = !r.none := by
  unfold says at h
  obtain ⟨e, he, h⟩ := List.mem_flatMap.mp h
  unfold sayE at h
  obtain ⟨r, hr, h⟩ := List.mem_flatMap.mp h
  unfold sayR at h
  obtain ⟨w, hw, rfl⟩ := List.mem_map.mp h
  exact ⟨e, he, r, hr, hw, rfl, rfl, rfl⟩
theorem head_le {l : List Int} (h : l.Pairwise (· < ·)) {w : Int} (hw : w ∈ l) : l.headD 0 ≤ w := by
  cases l with
  | nil => cases hw
  | cons a l =>
    rcases List.mem_cons.mp hw with e | h'
    · subst e; exact Int.le_refl _
    · exact Int.le_of_lt ((List.pairwise_cons.mp h).1 w h')
theorem head_mem {l : List Int} (h : l ≠ []) : l.headD 0 ∈ l := by
  cases l with
  | nil => exact absurd rfl h
  | cons a l => simp
theorem say_first {row : List ByteArray} {has : List Bool} {n : Int} {es : List En} (hl : row.length = has.length) (hr : rowOk row has) (hg : Good n row.length es) (hf : firstOk row has es) : ∀ s ∈ says es, s.w = 0 → s.t = row.getD s.c ByteArray.empty ∧ s.h = has.getD s.c false ∧ s.c < row.length := by
  intro s hs hw
  obtain ⟨e, he, r, hrr, hsw, h1, h2, h3⟩ := says_mem hs
  obtain ⟨g1, g2, g3⟩ := hg.each e he
  have hr0 : r = e.rds.getD 0 rd0 := by
    obtain ⟨k, hk, rfl⟩ := List.getElem_of_mem hrr
    by_cases hk0 : k = 0
    · subst hk0; simp [List.getD, hk]
    · exfalso
      have a1 := pair_atG (z := tRd.z) g3.1.apart (show 0 < k by omega) hk
      have a2 := g3.1.each _ (getD_mem (z := tRd.z) (l := e.rds) 0 (by omega))
      have a3 := (a2.rng _ (head_mem a2.some)).1
      have a4 := g3.1.each _ hrr
      have a5 := head_le a4.up hsw
      have a6 : e.rds.getD k tRd.z = e.rds[k] := by simp [List.getD, hk]
      rw [a6] at a1
      have := a1.2
      omega
  have hfe := hf e he
  rw [h1, h2, h3, hr0]
  refine ⟨hfe.2, ?_, by omega⟩
  have := hfe.1
  cases hq : (e.rds.getD 0 rd0).none <;> cases hq2 : has.getD e.col.toNat false <;> simp_all
theorem rows_first {row : List ByteArray} {has : List Bool} {n : Int} {es : List En} (hc : rbCode row has es n = 0) : (rbRows row has es n).getD 0 [] = row ∧ (rbHas row has es n).getD 0 [] = has := by
  obtain ⟨h1, h2, h3, h4, h5, h6, h7⟩ := rb_ok hc
  have hs := say_first h3 h5 h6 h7
  unfold rbRows rbHas
  rw [if_pos hc, if_pos hc, rowsT_at _ _ (by omega), rowsH_at _ _ (by omega)]
  exact ⟨appT_same _ _ _ fun s hs' hw => ⟨(hs s hs' hw).1, (hs s hs' hw).2.2⟩, appH_same _ _ _ fun s hs' hw => ⟨(hs s hs' hw).2.1, by have := (hs s hs' hw).2.2; omega⟩⟩
theorem rows_off {row : List ByteArray} {has : List Bool} {n : Int} {es : List En} (hc : rbCode row has es n = 0) {i c : Nat} (hi : i < (rbRows row has es n).length) (hcol : (c : Int) ∉ es.map (·.col)) :
    ((rbRows row has es n).getD i []).getD c ByteArray.empty = row.getD c ByteArray.empty ∧ ((rbHas row has es n).getD i []).getD c false = has.getD c false := by
  obtain ⟨h1, h2, h3, h4, h5, h6, h7⟩ := rb_ok hc
  unfold rbRows rbHas at *
  rw [if_pos hc] at hi ⊢
  rw [if_pos hc]
  rw [rowsT_len] at hi
  rw [rowsT_at _ _ hi, rowsH_at _ _ hi]
  have : ∀ s ∈ says es, s.c ≠ c := by
    intro s hs e
    obtain ⟨x, hx, r, _, _, hsc, _⟩ := says_mem hs
    have := (h6.each x hx).1
    exact hcol (List.mem_map.mpr ⟨x, hx, by omega⟩)
  exact ⟨appT_off _ _ _ _ _ this, appH_off _ _ _ _ _ this⟩
end Go.Proofs.Ytjoecebimleoaaa.V
