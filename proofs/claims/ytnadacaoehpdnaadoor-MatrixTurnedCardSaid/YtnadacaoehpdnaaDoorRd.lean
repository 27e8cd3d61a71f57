/-
A matrix printed and read; a text read and printed; two rows exchanged: in plain words.
-/
import Derived.Test.YtnadacaoehpdnaaDoorRc
import Derived.Test.YtnadacaoehpdnaaDoorRb
import Derived.Test.YtnadacaoehpdnaaDoorWh
namespace Go.Proofs.YtnadacaoehpdnaaDoor.V
open Go
set_option linter.unusedVariables false
set_option linter.unusedSimpArgs false
def joinL : List (List UInt8) → List UInt8
  | [] => []
  | [x] => x
  | x :: y :: r => x ++ 10 :: joinL (y :: r)
theorem joinL_cons {x : List UInt8} {r : List (List UInt8)} (h : r ≠ []) : joinL (x :: r) = x ++ 10 :: joinL r := by
  cases r with
  | nil => exact absurd rfl h
  | cons y r => rfl
theorem joinL_split : ∀ l : List UInt8, joinL (splitL l) = l
  | [] => rfl
  | b :: l => by
    have ih := joinL_split l
    rw [splitL]
    split
    · rename_i h
      rw [joinL_cons (splitL_ne l), ih, h]; rfl
    · cases hs : splitL l with
      | nil => exact absurd hs (splitL_ne l)
      | cons y t =>
        rw [hs] at ih
        simp only [List.headD_cons, List.tail_cons]
        cases t with
        | nil => simp only [joinL] at ih ⊢; rw [ih]
        | cons z t => simp only [joinL] at ih ⊢; rw [← ih]; rfl
theorem prL_app (a b : List (List Int)) : prL (a ++ b) = prL a ++ prL b := by unfold prL; rw [List.flatMap_append]
theorem goP_res : ∀ (ls : List (List UInt8)) (R : List (List Int)), ls ≠ [] → (OkM R ∨ R = []) →
    ((goP ls R).2.2 = 0 → (goP ls R).2.1 = 0 ∧ OkM (goP ls R).1 ∧ prL (goP ls R).1 = prL R ++ joinL ls) ∧ ((goP ls R).2.2 ≠ 0 → (goP ls R).1 = [] ∧ 0 ≤ (goP ls R).2.1)
  | [], R, h, _ => absurd rfl h
  | [l], R, _, hok => by
    rw [goP_last]
    split
    · rename_i h
      refine ⟨fun _ => ⟨rfl, ?_, ?_⟩, fun h => absurd rfl h⟩
      · rcases hok with h2 | h2
        · exact h2
        · exact absurd h2 h.2
      · rw [h.1]; simp [joinL]
    · exact ⟨fun h => (by cases h), fun _ => ⟨rfl, Int.natCast_nonneg _⟩⟩
  | l :: l2 :: r, R, _, hok => by
    by_cases h : OkM (R ++ [l.map ixB])
    · rw [goP_ok (by simp) h]
      obtain ⟨h1, h2⟩ := goP_res (l2 :: r) (R ++ [l.map ixB]) (by simp) (.inl h)
      refine ⟨fun h0 => ?_, h2⟩
      obtain ⟨g1, g2, g3⟩ := h1 h0
      refine ⟨g1, g2, ?_⟩
      have hall := ((ok_push hok).mp h).2.2.2
      have hl : (l.map ixB).map signC = l := by
        rw [List.map_map]
        refine List.ext_getElem (by simp) (fun j a1 a2 => ?_)
        rw [List.getElem_map]
        have h3 := hall j (by simpa using a1)
        have h4 : (l.map ixB).getD j tI.z = ixB l[j] := by
          rw [List.getD, List.getElem?_map, List.getElem?_eq_getElem a2]; rfl
        rw [h4] at h3
        exact ix_sign _ h3.1
      rw [g3, prL_app, joinL_cons (x := l) (r := l2 :: r) (by simp)]
      have : prL [l.map ixB] = l ++ [10] := by
        show ((l.map ixB).map signC ++ [10]) ++ [] = _
        rw [hl]; simp
      rw [this]; simp
    · rw [goP_no (by simp) h]
      exact ⟨fun h => (by cases h), fun _ => ⟨rfl, Int.natCast_nonneg _⟩⟩
theorem parse_res (l : List UInt8) : ((parseA l).2.2 = 0 → (parseA l).2.1 = 0 ∧ OkM (parseA l).1 ∧ prL (parseA l).1 = l) ∧ ((parseA l).2.2 ≠ 0 → (parseA l).1 = [] ∧ 0 ≤ (parseA l).2.1) := by
  unfold parseA
  split
  · exact ⟨fun h => (by cases h), fun _ => ⟨rfl, Int.le_refl _⟩⟩
  · have := goP_res (splitL l) [] (splitL_ne l) (.inr rfl)
    rw [joinL_split] at this
    exact this
theorem ok_take {m : List (List Int)} (h : OkM m) {k : Nat} (h0 : 0 < k) (hk : k ≤ m.length) : OkM (m.take k) := by
  have hz : (m.take k).getD 0 tRow.z = m.getD 0 tRow.z := by rw [List.getD, List.getD, List.getElem?_take_of_lt h0]
  refine ⟨by rw [List.length_take]; omega, by have := h.2.1; rw [List.length_take]; omega, fun i hi => ?_⟩
  rw [List.length_take] at hi
  have he : (m.take k).getD i tRow.z = m.getD i tRow.z := by rw [List.getD, List.getD, List.getElem?_take_of_lt (by omega)]
  unfold RowOk
  rw [he, hz]
  exact h.2.2 i (by omega)
theorem row_round {r : List Int} (h : ∀ j, j < r.length → -1 ≤ r.getD j tI.z ∧ r.getD j tI.z < 12) : (r.map signC).map ixB = r ∧ ∀ b ∈ r.map signC, b ≠ 10 := by
  have h2 : ∀ j (hj : j < r.length), -1 ≤ r[j] ∧ r[j] < 12 := fun j hj => by
    have := h j hj
    rw [List.getD, List.getElem?_eq_getElem hj] at this
    exact this
  refine ⟨?_, fun b hb => ?_⟩
  · rw [List.map_map]
    refine List.ext_getElem (by simp) (fun j a1 a2 => ?_)
    rw [List.getElem_map]
    exact (sign_ix _ (h2 j a2)).1
  · obtain ⟨x, hx, rfl⟩ := List.mem_map.mp hb
    obtain ⟨j, hj, rfl⟩ := List.getElem_of_mem hx
    exact (sign_ix _ (h2 j hj)).2
theorem split_print : ∀ m : List (List Int), (∀ r ∈ m, ∀ b ∈ r.map signC, b ≠ 10) → splitL (prL m) = m.map (fun r => r.map signC) ++ [[]]
  | [], _ => rfl
  | r :: m, h => by
    have e : prL (r :: m) = r.map signC ++ 10 :: prL m := by
      show (r.map signC ++ [10]) ++ prL m = _
      simp
    rw [e, splitL_cut _ _ (h r (by simp)), split_print m (fun x hx => h x (by simp [hx]))]; rfl
theorem goP_all : ∀ (ms R : List (List Int)), R ++ ms ≠ [] → (∀ k, 0 < k → k ≤ (R ++ ms).length → OkM ((R ++ ms).take k)) → (∀ r ∈ ms, (r.map signC).map ixB = r) → goP (ms.map (fun r => r.map signC) ++ [[]]) R = (R ++ ms, 0, 0)
  | [], R, hne, _, _ => by
    rw [List.append_nil] at hne
    show goP [[]] R = _
    rw [goP_last, if_pos ⟨rfl, hne⟩, List.append_nil]
  | r :: ms, R, hne, hok, hr => by
    have e : R ++ r :: ms = (R ++ [r]) ++ ms := by simp
    show goP (r.map signC :: (ms.map (fun r => r.map signC) ++ [[]])) R = _
    have h1 : OkM (R ++ [(r.map signC).map ixB]) := by
      rw [hr r (by simp)]
      have := hok (R.length + 1) (by omega) (by simp)
      rw [e, List.take_left' (by simp)] at this
      exact this
    rw [goP_ok (by simp) h1, hr r (by simp), goP_all ms (R ++ [r]) (by simp) (by rw [← e]; exact hok) (fun x hx => hr x (by simp [hx])), ← e]
theorem parse_print {m : List (List Int)} (h : OkM m) : parseA (prL m) = (m, 0, 0) := by
  have hlen := prL_len m (row_le h)
  have h12 := h.2.1
  have h3 := Nat.mul_le_mul_right 4097 h12
  have hround : ∀ r ∈ m, (r.map signC).map ixB = r ∧ ∀ b ∈ r.map signC, b ≠ 10 := fun r hr => by
    obtain ⟨i, hi, e⟩ := List.getElem_of_mem hr
    have := (h.2.2 i hi).2.2
    rw [List.getD, List.getElem?_eq_getElem hi] at this
    subst e
    exact row_round this
  unfold parseA
  rw [if_neg (by omega), split_print m (fun r hr => (hround r hr).2), goP_all m [] (fun e => by have := h.1; rw [List.nil_append] at e; rw [e] at this; exact absurd this (Nat.lt_irrefl _)) (fun k h0 hk => by
    rw [List.nil_append] at hk ⊢; exact ok_take h h0 hk) (fun r hr => (hround r hr).1), List.nil_append]
/-! ### what awake asks -/
def awM : List (List Int) := [[0, -1], [11, 2]]
theorem awM_ok : OkM awM := by
  refine ⟨by decide, by decide, fun i hi => ?_⟩
  have hi2 : i < 2 := hi
  rcases (by omega : i = 0 ∨ i = 1) with rfl | rfl
  · refine ⟨rfl, by decide, fun j hj => ?_⟩
    have hj2 : j < 2 := hj
    rcases (by omega : j = 0 ∨ j = 1) with rfl | rfl <;> decide
  · refine ⟨rfl, by decide, fun j hj => ?_⟩
    have hj2 : j < 2 := hj
    rcases (by omega : j = 0 ∨ j = 1) with rfl | rfl <;> decide
theorem awPrint : printS awM = bs [48, 63, 10, 98, 50, 10] := by
  unfold printS
  rw [if_pos awM_ok]; rfl
theorem awParse : parseA [48, 49, 10, 48, 10] = ([], 1, 190) := by
  unfold parseA
  rw [if_neg (by decide)]
  have e : splitL [48, 49, 10, 48, 10] = [[48, 49], [48], []] := by decide
  rw [e]
  have h1 : OkM ([] ++ [[48, 49].map ixB]) := by
    have e1 : ([48, 49] : List UInt8).map ixB = [0, 1] := by decide +kernel
    rw [e1]
    refine ⟨by decide, by decide, fun i hi => ?_⟩
    have hi2 : i < 1 := hi
    have : i = 0 := by omega
    subst this
    refine ⟨rfl, by decide, fun j hj => ?_⟩
    have hj2 : j < 2 := hj
    rcases (by omega : j = 0 ∨ j = 1) with rfl | rfl <;> decide
  rw [goP_ok (by simp) h1, goP_no (by simp) (fun h => by
    have := (h.2.2 1 (by decide)).1
    exact absurd this (by decide))]
  rfl
/-! ### two rows exchanged -/
def swapL (m : List (List Int)) (i j : Nat) : List (List Int) := (m.set i (m.getD j tRow.z)).set j (m.getD i tRow.z)
theorem swapL_len (m : List (List Int)) (i j : Nat) : (swapL m i j).length = m.length := by simp [swapL]
theorem swapL_at (m : List (List Int)) {i j k : Nat} (hi : i < m.length) (hj : j < m.length) (hk : k < m.length) : (swapL m i j).getD k tRow.z = m.getD (if k = j then i else if k = i then j else k) tRow.z := by
  unfold swapL
  simp only [List.getD, List.getElem?_set, List.length_set]
  by_cases h1 : j = k
  · subst h1
    simp [hk]
  · by_cases h2 : i = k
    · subst h2
      simp [h1, hi, Ne.symm h1]
    · simp [h1, h2, Ne.symm h1, Ne.symm h2]
theorem ok_swap {m : List (List Int)} {i j : Nat} (hi : i < m.length) (hj : j < m.length) (h : OkM m) : OkM (swapL m i j) := by
  have hall : ∀ k, k < m.length → (m.getD k tRow.z).length = (m.getD 0 tRow.z).length := fun k hk => (h.2.2 k hk).1
  have hσ : ∀ k, k < m.length → (if k = j then i else if k = i then j else k) < m.length := fun k hk => by split <;> (try split) <;> omega
  refine ⟨by rw [swapL_len]; exact h.1, by rw [swapL_len]; exact h.2.1, fun k hk => ?_⟩
  rw [swapL_len] at hk
  have := h.2.2 _ (hσ k hk)
  unfold RowOk at this ⊢
  rw [swapL_at m hi hj hk, swapL_at m hi hj h.1]
  exact ⟨by rw [hall _ (hσ k hk), hall _ (hσ 0 h.1)], this.2.1, this.2.2⟩
theorem swap_swap {m : List (List Int)} {i j : Nat} (hi : i < m.length) (hj : j < m.length) : swapL (swapL m i j) i j = m := by
  refine List.ext_getElem (by rw [swapL_len, swapL_len]) (fun k h1 h2 => ?_)
  have hl := swapL_len m i j
  have e := swapL_at (swapL m i j) (i := i) (j := j) (k := k) (by omega) (by omega) (by omega)
  have hσ : (if k = j then i else if k = i then j else k) < m.length := by split <;> (try split) <;> omega
  rw [swapL_at m hi hj hσ] at e
  have e2 : (if (if k = j then i else if k = i then j else k) = j then i else if (if k = j then i else if k = i then j else k) = i then j else (if k = j then i else if k = i then j else k)) = k := by
    by_cases a : k = j
    · subst a
      by_cases b : i = k
      · subst b; simp
      · simp [b]
    · by_cases b : k = i
      · subst b; simp [a]
      · simp [a, b]
  rw [e2] at e
  rw [List.getD, List.getD, List.getElem?_eq_getElem h1, List.getElem?_eq_getElem h2] at e
  exact e
theorem cnt_set (m : List (List Int)) (s : Nat) (k : Int) {i : Nat} (hi : i < m.length) (r : List Int) : ∀ n, cntN (m.set i r) s n k + (if i < n ∧ (m.getD i tRow.z).getD s tI.z = k then 1 else 0) = cntN m s n k + (if i < n ∧ r.getD s tI.z = k then 1 else 0)
  | 0 => by simp [cntN]
  | n + 1 => by
    have ih := cnt_set m s k hi r n
    unfold cntN
    by_cases e : i = n
    · subst e
      have e1 : (m.set i r).getD i tRow.z = r := by simp [List.getD, hi]
      rw [e1]
      simp only [Nat.lt_irrefl, false_and, if_false, Nat.add_zero, Nat.lt_succ_self, true_and] at ih ⊢
      omega
    · have e1 : (m.set i r).getD n tRow.z = m.getD n tRow.z := by simp [List.getD, List.getElem?_set_ne e]
      rw [e1]
      have e2 : (i < n + 1) ↔ (i < n) := by omega
      simp only [e2]
      omega
theorem cnt_swap {m : List (List Int)} {i j : Nat} (hi : i < m.length) (hj : j < m.length) (s : Nat) (k : Int) : cntN (swapL m i j) s m.length k = cntN m s m.length k := by
  unfold swapL
  have h1 := cnt_set m s k hi (m.getD j tRow.z) m.length
  have h2 := cnt_set (m.set i (m.getD j tRow.z)) s k (i := j) (by simpa using hj) (m.getD i tRow.z) m.length
  by_cases e : i = j
  · subst e
    have e1 : (m.set i (m.getD i tRow.z)).getD i tRow.z = m.getD i tRow.z := by simp [List.getD, hi]
    rw [e1] at h2
    omega
  · have e1 : (m.set i (m.getD j tRow.z)).getD j tRow.z = m.getD j tRow.z := by simp [List.getD, List.getElem?_set_ne e]
    rw [e1] at h2
    simp only [hi, hj, true_and] at h1 h2
    omega
theorem tells_swap {m : List (List Int)} {i j : Nat} (hi : i < m.length) (hj : j < m.length) (s : Nat) : tells (swapL m i j) s ↔ tells m s := by
  unfold tells
  rw [swapL_len]
  rw [twN_congr (f := fun k => cntN (swapL m i j) s m.length (k : Int)) (g := fun k => cntN m s m.length (k : Int)) (fun k _ => cnt_swap hi hj s (k : Int))]
theorem tellN_swap {m : List (List Int)} {i j : Nat} (hi : i < m.length) (hj : j < m.length) : ∀ s, tellN (swapL m i j) s = tellN m s
  | 0 => rfl
  | s + 1 => by
    unfold tellN
    rw [tellN_swap hi hj s]
    by_cases h : tells m s
    · rw [if_pos h, if_pos ((tells_swap hi hj s).mpr h)]
    · rw [if_neg h, if_neg (fun h2 => h ((tells_swap hi hj s).mp h2))]
theorem tellA_swap {m : List (List Int)} {i j : Nat} (hi : i < m.length) (hj : j < m.length) : tellA (swapL m i j) = tellA m ∧ codeM (swapL m i j) = codeM m := by
  by_cases h : OkM m
  · have h2 := ok_swap hi hj h
    refine ⟨?_, by rw [codeM_yes h, codeM_yes h2]⟩
    unfold tellA
    rw [if_pos h, if_pos h2, tellN_swap hi hj]
    have hall : ∀ k, k < m.length → (m.getD k tRow.z).length = (m.getD 0 tRow.z).length := fun k hk => (h.2.2 k hk).1
    rw [swapL_at m hi hj h.1, hall _ (by split <;> (try split) <;> omega)]
  · have h2 : ¬ OkM (swapL m i j) := fun h3 => h (by
      have := ok_swap (m := swapL m i j) (i := i) (j := j) (by rw [swapL_len]; exact hi) (by rw [swapL_len]; exact hj) h3
      rw [swap_swap hi hj] at this
      exact this)
    refine ⟨?_, by rw [codeM_no h, codeM_no h2]⟩
    unfold tellA
    rw [if_neg h, if_neg h2]
end Go.Proofs.YtnadacaoehpdnaaDoor.V
