/-
A text cut ahead of a word: its tokens are those up to there.
-/
import Derived.Test.YtfodjmemdkibpaaDoorRq
namespace Go.Proofs.YtfodjmemdkibpaaDoor.V
open Go
set_option linter.unusedVariables false
set_option linter.unusedSimpArgs false
theorem decodeN_pre (n m b0 b1 b2 b3 c1 c2 c3 : Nat) (hn : 0 < n) (hm : n ≤ m) (h1 : 1 < n → c1 = b1) (h2 : 2 < n → c2 = b2) (h3 : 3 < n → c3 = b3) (hw : (Lib.decodeN m b0 c1 c2 c3).2 ≤ n) :
    Lib.decodeN n b0 b1 b2 b3 = Lib.decodeN m b0 c1 c2 c3 := by
  revert hw
  unfold Lib.decodeN
  rcases (by omega : n = 1 ∨ n = 2 ∨ n = 3 ∨ 3 < n) with e | e | e | e
  · subst e
    by_cases hb : b0 < 128
    · rw [if_pos hb, if_pos hb]; intro _; rfl
    · rw [if_neg hb, if_neg hb]
      simp only [show ¬ (1 < 1) by decide, show ¬ (2 < 1) by decide, show ¬ (3 < 1) by decide, false_and, and_false, if_false]
      repeat' split
      all_goals (intro hw; first | rfl | (simp only [] at hw; omega))
  · subst e
    have := h1 (by decide); subst this
    simp only [show (1 < 2) by decide, show ¬ (2 < 2) by decide, show ¬ (3 < 2) by decide, show 1 < m by omega, false_and, and_false, true_and, if_false]
    repeat' split
    all_goals (intro hw; first | rfl | (simp only [] at hw; omega) | (exfalso; omega))
  · subst e
    have := h1 (by decide); subst this
    have := h2 (by decide); subst this
    simp only [show (1 < 3) by decide, show (2 < 3) by decide, show ¬ (3 < 3) by decide, show 1 < m by omega, show 2 < m by omega, false_and, and_false, true_and, if_false]
    repeat' split
    all_goals (intro hw; first | rfl | (simp only [] at hw; omega) | (exfalso; omega))
  · have := h1 (by omega); subst this
    have := h2 (by omega); subst this
    have := h3 (by omega); subst this
    simp only [show (1 < n) by omega, show (2 < n) by omega, show (3 < n) by omega, show 1 < m by omega, show 2 < m by omega, show 3 < m by omega]
    intro _; first | trivial | rfl
theorem bt_extract (s : ByteArray) (p i : Nat) (hp : p ≤ s.size) (h : i < p) : bt (s.extract 0 p) i = bt s i := by
  unfold bt
  have e : (s.extract 0 p).data.toList = s.data.toList.take p := by simp
  rw [e, List.getD, List.getD, List.getElem?_take_of_lt h]
theorem pre_size (s : ByteArray) (p : Nat) (hp : p ≤ s.size) : (s.extract 0 p).size = p := by simp; omega
theorem dec_pre (s : ByteArray) (p q : Nat) (hp : p ≤ s.size) (hq : q < p) (hw : q + (Utf8.decode s q).2 ≤ p) : Utf8.decode (s.extract 0 p) q = Utf8.decode s q := by
  rw [dec_at] at hw
  rw [dec_at, dec_at, pre_size s p hp, bt_extract s p q hp hq]
  refine decodeN_pre _ _ _ _ _ _ _ _ _ (by omega) (by omega) (fun h => ?_) (fun h => ?_) (fun h => ?_) (by omega)
  all_goals rw [bt_extract s p _ hp (by omega)]
theorem cellAt_pre (s : ByteArray) (p q : Nat) (hp : p ≤ s.size) (hq : q < p) (hw : q + (Utf8.decode s q).2 ≤ p) : cellAt (s.extract 0 p) q = cellAt s q := by
  unfold cellAt
  rw [dec_pre s p q hp hq hw, bt_extract s p q hp hq]
/-- Where cell j of the cells from q on lies. -/
def posC (s : ByteArray) (L : List Cel) (j : Nat) : Nat := if j < L.length then (L.getD j cel0).pos else s.size
theorem cellAt_pos (s : ByteArray) (q : Nat) : (cellAt s q).pos = q := by unfold cellAt; split <;> rfl
theorem cells_take (s : ByteArray) : ∀ (j q : Nat), q ≤ s.size → j ≤ (cells s q).length → q ≤ posC s (cells s q) j ∧ posC s (cells s q) j ≤ s.size ∧ cells (s.extract 0 (posC s (cells s q) j)) q = (cells s q).take j
  | 0, q, hq, _ => by
    have hp : posC s (cells s q) 0 = q := by
      unfold posC
      by_cases h : q < s.size
      · rw [cells_in h]; simp [cellAt_pos]
      · rw [cells_out h]; simp; omega
    rw [hp]
    refine ⟨Nat.le_refl _, hq, ?_⟩
    rw [cells_out (by rw [pre_size s q hq]; omega), List.take_zero]
  | j + 1, q, hq, hj => by
    by_cases h : q < s.size
    · have hw := Lib.width_pos s q
      have hf := decode_fit s q h
      have e := cells_in h
      have hj' : j ≤ (cells s (q + (Utf8.decode s q).2)).length := by rw [e] at hj; simpa using hj
      obtain ⟨i1, i2, i3⟩ := cells_take s j (q + (Utf8.decode s q).2) (by omega) hj'
      have hp : posC s (cells s q) (j + 1) = posC s (cells s (q + (Utf8.decode s q).2)) j := by
        unfold posC
        rw [e]
        simp
      rw [hp]
      refine ⟨by omega, i2, ?_⟩
      rw [cells_in (show q < (s.extract 0 _).size by rw [pre_size s _ i2]; omega), dec_pre s _ q i2 (by omega) i1, i3, cellAt_pre s _ q i2 (by omega) i1]
      rw [e]; rfl
    · rw [cells_out h] at hj; simp at hj
theorem posAt_posC (s : ByteArray) (L : List Cel) (j : Nat) : posAt s L j = posC s L j := rfl

/-! ### kinds and tokens of the cells up to j -/
section
variable {L : List Cel} {j : Nat}
theorem knd_take {i : Nat} (h : i < j) : knd (L.take j) i = knd L i := by
  unfold knd
  by_cases hl : i < L.length
  · rw [if_pos (by rw [List.length_take]; omega), if_pos hl, List.getD, List.getD, List.getElem?_take_of_lt h]
  · rw [if_neg (by rw [List.length_take]; omega), if_neg hl]
theorem knd_take_out {i : Nat} (h : j ≤ i) : knd (L.take j) i = -1 := by
  unfold knd
  rw [if_neg (by rw [List.length_take]; omega)]
theorem wy_take_out {i : Nat} (h : j ≤ i) : ¬ wy (L.take j) i := by
  unfold wy; rw [knd_take_out h]; decide
theorem wordE_take : ∀ (d i : Nat), j - i = d → i ≤ j → j ≤ L.length → wordE L i ≤ j → wordE (L.take j) i = wordE L i := by
  intro d
  induction d using Nat.strongRecOn with
  | _ d ih =>
    intro i hd hi hj he
    by_cases hij : i < j
    · have hl : i < L.length := by omega
      have hl2 : i < (L.take j).length := by rw [List.length_take]; omega
      have e1 : wordE L i = if wy L i then wordE L (i + 1) else if knd L i = 4 ∧ wy L (i + 1) then wordE L (i + 2) else i := by rw [wordE, dif_pos hl]
      have e2 : wordE (L.take j) i = if wy (L.take j) i then wordE (L.take j) (i + 1) else if knd (L.take j) i = 4 ∧ wy (L.take j) (i + 1) then wordE (L.take j) (i + 2) else i := by rw [wordE, dif_pos hl2]
      rw [e1] at he
      rw [e1, e2]
      have hwi : wy (L.take j) i ↔ wy L i := by unfold wy; rw [knd_take hij]
      by_cases h1 : wy L i
      · rw [if_pos h1] at he ⊢
        rw [if_pos (hwi.mpr h1)]
        exact ih (j - (i + 1)) (by omega) (i + 1) rfl (by omega) hj he
      · rw [if_neg h1] at he ⊢
        rw [if_neg (fun h => h1 (hwi.mp h)), knd_take hij]
        by_cases h2 : knd L i = 4 ∧ wy L (i + 1)
        · rw [if_pos h2] at he ⊢
          have hge := (wordE_ge L (i + 2)).1
          have h3 : wy (L.take j) (i + 1) := by unfold wy; rw [knd_take (by omega)]; exact h2.2
          rw [if_pos ⟨h2.1, h3⟩]
          exact ih (j - (i + 2)) (by omega) (i + 2) rfl (by omega) hj he
        · rw [if_neg h2]
          have h3 : ¬ (knd L i = 4 ∧ wy (L.take j) (i + 1)) := fun h => h2 ⟨h.1, by
            by_cases h4 : i + 1 < j
            · have := h.2; unfold wy at this; rw [knd_take h4] at this; exact this
            · exact absurd h.2 (wy_take_out (by omega))⟩
          rw [if_neg h3]
    · have : i = j := by omega
      subst this
      have hge := (wordE_ge L i).1
      rw [wordE, dif_neg (by rw [List.length_take]; omega)]; omega
theorem blankE_take : ∀ (d i : Nat), j - i = d → i ≤ j → j ≤ L.length → blankE L i ≤ j → blankE (L.take j) i = blankE L i := by
  intro d
  induction d using Nat.strongRecOn with
  | _ d ih =>
    intro i hd hi hj he
    by_cases hij : i < j
    · have hl : i < L.length := by omega
      have hl2 : i < (L.take j).length := by rw [List.length_take]; omega
      have e1 : blankE L i = if knd L i = 5 then blankE L (i + 1) else i := by rw [blankE, dif_pos hl]
      have e2 : blankE (L.take j) i = if knd (L.take j) i = 5 then blankE (L.take j) (i + 1) else i := by rw [blankE, dif_pos hl2]
      rw [e1] at he
      rw [e1, e2, knd_take hij]
      by_cases h1 : knd L i = 5
      · rw [if_pos h1] at he ⊢
        rw [if_pos h1]
        exact ih (j - (i + 1)) (by omega) (i + 1) rfl (by omega) hj he
      · rw [if_neg h1, if_neg h1]
    · have : i = j := by omega
      subst this
      have hge := (blankE_ge L i).1
      rw [blankE, dif_neg (by rw [List.length_take]; omega)]; omega
theorem tokE_take {i : Nat} (hi : i < j) (hj : j ≤ L.length) (he : (tokE L i).2 ≤ j) : tokE (L.take j) i = tokE L i := by
  have hwi : wy (L.take j) i ↔ wy L i := by unfold wy; rw [knd_take hi]
  have hgi : (L.take j).getD i cel0 = L.getD i cel0 := by rw [List.getD, List.getD, List.getElem?_take_of_lt hi]
  unfold tokE at he ⊢
  by_cases h1 : wy L i
  · rw [if_pos h1] at he ⊢
    rw [if_pos (hwi.mpr h1), wordE_take _ i rfl (by omega) hj he]
  · rw [if_neg h1] at he ⊢
    rw [if_neg (fun h => h1 (hwi.mp h)), knd_take hi]
    by_cases h2 : knd L i = 5
    · rw [if_pos h2] at he ⊢
      rw [if_pos h2, blankE_take _ i rfl (by omega) hj he]
    · rw [if_neg h2] at he ⊢
      rw [if_neg h2]
      by_cases h3 : knd L i = 6
      · rw [if_pos h3] at he ⊢
        rw [if_pos h3, hgi]
        by_cases h4 : (L.getD i cel0).r = 13 ∧ i + 1 < L.length ∧ (L.getD (i + 1) cel0).r = 10
        · rw [if_pos h4] at he ⊢
          simp only [] at he
          rw [if_pos ⟨h4.1, by rw [List.length_take]; omega, by rw [List.getD, List.getElem?_take_of_lt (by omega)]; exact h4.2.2⟩]
        · rw [if_neg h4, if_neg (fun h => h4 ⟨h.1, by have := h.2.1; rw [List.length_take] at this; omega, by
            have h5 := h.2.1; rw [List.length_take] at h5
            have := h.2.2; rw [List.getD, List.getElem?_take_of_lt (by omega)] at this; exact this⟩)]
      · rw [if_neg h3, if_neg h3]
end
/-- From i on by whole tokens to j. -/
inductive Reach (L : List Cel) : Nat → Nat → Prop
  | here (i : Nat) : Reach L i i
  | step {i j : Nat} (h : i < L.length) (r : Reach L (tokE L i).2 j) : Reach L i j
theorem Reach.le {L : List Cel} {i j : Nat} (r : Reach L i j) : i ≤ j := by
  induction r with
  | here => exact Nat.le_refl _
  | step h _ ih => have := (tokE_gt L _ h).1; omega
theorem toks_cut (s : ByteArray) (j : Nat) (hj : j ≤ (cells s 0).length) {i : Nat} (r : Reach (cells s 0) i j) :
    ∃ A, toks s 0 (cells s 0) i = A ++ toks s 0 (cells s 0) j ∧ toks (s.extract 0 (posAt s (cells s 0) j)) 0 ((cells s 0).take j) i = A ∧ catT A = s.extract (posAt s (cells s 0) i) (posAt s (cells s 0) j) := by
  generalize hL : cells s 0 = L at *
  induction r with
  | here i => exact ⟨[], rfl, by rw [toks_out (by rw [List.length_take]; omega)], by rw [extract_nil]; rfl⟩
  | @step i j h r ih =>
    obtain ⟨A, h1, h2, h3⟩ := ih hj
    have hle := r.le
    have hg := tokE_gt L i h
    have hpj : posAt s L j ≤ s.size := by rw [← hL]; exact posAt_le s j
    have hm1 : posAt s L i ≤ posAt s L (tokE L i).2 := by rw [← hL]; exact posAt_mono s _ _ (by rw [hL]; omega)
    have hm2 : posAt s L (tokE L i).2 ≤ posAt s L j := by rw [← hL]; exact posAt_mono s _ _ (by rw [hL]; omega)
    have hpa : ∀ k, k ≤ j → posAt (s.extract 0 (posAt s L j)) (L.take j) k = posAt s L k := fun k hk => by
      unfold posAt
      by_cases hkj : k < j
      · rw [if_pos (by rw [List.length_take]; omega), if_pos (show k < L.length by omega), List.getD, List.getD, List.getElem?_take_of_lt hkj]
      · have : k = j := by omega
        subst this
        rw [if_neg (by rw [List.length_take]; omega)]
        exact pre_size s _ hpj
    refine ⟨⟨(tokE L i).1, 0 + posAt s L i, s.extract (posAt s L i) (posAt s L (tokE L i).2)⟩ :: A, ?_, ?_, ?_⟩
    · rw [toks_in h, h1]; rfl
    · rw [toks_in (by rw [List.length_take]; omega), tokE_take (by omega) hj (by omega), h2, hpa i (by omega), hpa _ (by omega)]
      congr 2
      rw [ByteArray.extract_extract]
      congr 1 <;> omega
    · show s.extract _ _ ++ catT A = _
      rw [h3]
      exact extract_join s _ _ _ hm1 hm2
/-- Word n begins at a place that is come to by whole tokens. -/
theorem word_at (s : ByteArray) : ∀ (d i n : Nat), (cells s 0).length - i = d → n < (specW (toks s 0 (cells s 0) i)).2.length → ∃ j, Reach (cells s 0) i j ∧ j < (cells s 0).length ∧ (tokE (cells s 0) j).1 = 1 ∧ (specW (toks s 0 (cells s 0) j)).2.length + n = (specW (toks s 0 (cells s 0) i)).2.length := by
  intro d
  induction d using Nat.strongRecOn with
  | _ d ih =>
    intro i n hd hn
    by_cases h : i < (cells s 0).length
    · have hg := tokE_gt (cells s 0) i h
      rw [toks_in h, specW_cons1] at hn ⊢
      by_cases hk : (tokE (cells s 0) i).1 = 1
      · rw [if_pos hk] at hn ⊢
        cases n with
        | zero => exact ⟨i, .here i, h, hk, by rw [toks_in h, specW_cons1, if_pos hk]; rfl⟩
        | succ n =>
          simp only [List.length_cons] at hn ⊢
          obtain ⟨j, r, j1, j2, j3⟩ := ih _ (by omega) (tokE (cells s 0) i).2 n rfl (by omega)
          exact ⟨j, .step h r, j1, j2, by omega⟩
      · rw [if_neg hk] at hn ⊢
        obtain ⟨j, r, j1, j2, j3⟩ := ih _ (by omega) (tokE (cells s 0) i).2 n rfl hn
        exact ⟨j, .step h r, j1, j2, j3⟩
    · rw [toks_out h] at hn; simp [specW] at hn
theorem specW_appW : ∀ (A B : List Tok), (specW B).1 = .empty → specW (A ++ B) = ((specW A).1, (specW A).2 ++ (specW B).2)
  | [], B, h => by
    show specW B = (ByteArray.empty, [] ++ (specW B).2)
    rw [← h]; rfl
  | t :: A, B, h => by
    rw [List.cons_append, specW_cons1, specW_cons1, specW_appW A B h]
    by_cases hk : t.kind = 1
    · rw [if_pos hk, if_pos hk]; rfl
    · rw [if_neg hk, if_neg hk]
theorem wordsOf_cut (s : ByteArray) (h : (wordsOf s).2 = 0) (n : Nat) (hn : n < (wordsOf s).1.2.length) : wordsOf ((wordsOf s).1.1 ++ catW ((wordsOf s).1.2.take n)) = (((wordsOf s).1.1, (wordsOf s).1.2.take n), 0) := by
  have hsz : ¬ 65536 < s.size := fun h1 => by rw [wordsOf_long h1] at h; cases h
  have hfew : ¬ 1024 < (specW (toksOf s)).2.length := fun h1 => by rw [wordsOf_many hsz h1] at h; cases h
  have ht := toksOf_fit hsz
  rw [wordsOf_fit hsz hfew] at hn ⊢
  rw [ht] at hn hfew ⊢
  simp only [] at hn ⊢
  obtain ⟨j, r, hj, hk, hlen⟩ := word_at s _ 0 n rfl hn
  obtain ⟨A, h1, h2, h3⟩ := toks_cut s j (by omega) r
  obtain ⟨-, c2, c3⟩ := cells_take s j 0 (Nat.zero_le _) (by omega)
  have hB : (specW (toks s 0 (cells s 0) j)).1 = .empty := by rw [toks_in hj, specW_cons1, if_pos hk]
  have happ := specW_appW A _ hB
  rw [← h1] at happ
  have hl : (specW A).2.length = n := by
    rw [happ] at hlen
    simp only [List.length_append] at hlen
    omega
  rw [happ]
  simp only []
  rw [List.take_left' hl, specW_catT, h3, posAt_zero]
  have hp : posAt s (cells s 0) j ≤ s.size := posAt_le s j
  have hsz2 : ¬ 65536 < (s.extract 0 (posAt s (cells s 0) j)).size := by rw [pre_size s _ hp]; omega
  have ht2 : toksOf (s.extract 0 (posAt s (cells s 0) j)) = A := by
    rw [toksOf_fit hsz2]
    have : cells (s.extract 0 (posAt s (cells s 0) j)) 0 = (cells s 0).take j := c3
    rw [this]; exact h2
  rw [wordsOf_fit hsz2 (by rw [ht2]; omega), ht2]
end Go.Proofs.YtfodjmemdkibpaaDoor.V
