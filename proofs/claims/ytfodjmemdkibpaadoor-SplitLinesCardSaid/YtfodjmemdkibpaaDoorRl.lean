/-
Two texts with a newline between them: the words of the whole, in plain words.
-/
import Derived.Test.YtfodjmemdkibpaaDoorWk
namespace Go.Proofs.YtfodjmemdkibpaaDoor.V
open Go
set_option linter.unusedVariables false
set_option linter.unusedSimpArgs false
set_option maxRecDepth 100000
theorem bt_append (a b : ByteArray) (i : Nat) : bt (a ++ b) i = if i < a.size then bt a i else bt b (i - a.size) := by
  unfold bt
  have e : (a ++ b).data.toList = a.data.toList ++ b.data.toList := by simp
  rw [e]
  by_cases h : i < a.size
  · rw [if_pos h, List.getD, List.getD, List.getElem?_append_left (by simpa using h)]
  · rw [if_neg h, List.getD, List.getD, List.getElem?_append_right (by simpa using h)]
    simp
theorem bt_out {s : ByteArray} {i : Nat} (h : ¬ i < s.size) : bt s i = 0 := by
  unfold bt
  have : s.data.toList.length ≤ i := by simpa using h
  simp [List.getD, List.getElem?_eq_none this]
def nl : ByteArray := ⟨#[10]⟩
def joinT (s t : ByteArray) : ByteArray := s ++ nl ++ t
theorem joinT_size (s t : ByteArray) : (joinT s t).size = s.size + 1 + t.size := by
  unfold joinT
  rw [ByteArray.size_append, ByteArray.size_append]; rfl
theorem bt_join_lo {s t : ByteArray} {i : Nat} (h : i < s.size) : bt (joinT s t) i = bt s i := by
  unfold joinT
  rw [bt_append, if_pos (by rw [ByteArray.size_append]; omega), bt_append, if_pos h]
theorem bt_join_mid (s t : ByteArray) : bt (joinT s t) s.size = 10 := by
  unfold joinT
  rw [bt_append, if_pos (by rw [ByteArray.size_append]; show s.size < s.size + 1; omega), bt_append, if_neg (by omega), Nat.sub_self]; rfl
theorem bt_join_hi (s t : ByteArray) (i : Nat) : bt (joinT s t) (s.size + 1 + i) = bt t i := by
  unfold joinT
  have e : (s ++ nl).size = s.size + 1 := by rw [ByteArray.size_append]; rfl
  rw [bt_append, if_neg (by omega), e]
  congr 1; omega
theorem dec_hi (s t : ByteArray) (q : Nat) : Utf8.decode (joinT s t) (s.size + 1 + q) = Utf8.decode t q := by
  rw [dec_at, dec_at, joinT_size]
  have e : ∀ k, bt (joinT s t) (s.size + 1 + q + k) = bt t (q + k) := fun k => by rw [Nat.add_assoc (s.size + 1)]; exact bt_join_hi s t (q + k)
  have e0 := bt_join_hi s t q
  rw [e0, e, e, e]
  congr 1; omega
theorem dec_mid (s t : ByteArray) : Utf8.decode (joinT s t) s.size = (10, 1) := by
  rw [dec_at, bt_join_mid]
  unfold Lib.decodeN
  rw [if_pos (by decide)]; rfl
/-- A byte that is none behind a first one ends what is decoded as the text's end does. -/
theorem decodeN_cut (n m b0 b1 b2 b3 c1 c2 c3 : Nat) (hn : 0 < n) (hm : n < m) (h1 : 1 < n → c1 = b1) (h2 : 2 < n → c2 = b2) (h3 : 3 < n → c3 = b3) (k1 : n = 1 → c1 = 10) (k2 : n = 2 → c2 = 10) (k3 : n = 3 → c3 = 10) :
    Lib.decodeN m b0 c1 c2 c3 = Lib.decodeN n b0 b1 b2 b3 := by
  rcases (by omega : n = 1 ∨ n = 2 ∨ n = 3 ∨ 3 < n) with e | e | e | e
  · subst e
    have := k1 rfl; subst this
    unfold Lib.decodeN
    simp
  · subst e
    have := k2 rfl; subst this
    have := h1 (by decide); subst this
    unfold Lib.decodeN
    have e1 : (1 < m) = True := eq_true (by omega)
    simp [e1]
  · subst e
    have := k3 rfl; subst this
    have := h1 (by decide); subst this
    have := h2 (by decide); subst this
    unfold Lib.decodeN
    have e1 : (1 < m) = True := eq_true (by omega)
    have e2 : (2 < m) = True := eq_true (by omega)
    simp [e1, e2]
  · have := h1 (by omega); subst this
    have := h2 (by omega); subst this
    have := h3 (by omega); subst this
    unfold Lib.decodeN
    have e1 : (1 < m) = True := eq_true (by omega)
    have e2 : (2 < m) = True := eq_true (by omega)
    have e3 : (3 < m) = True := eq_true (by omega)
    have f1 : (1 < n) = True := eq_true (by omega)
    have f2 : (2 < n) = True := eq_true (by omega)
    have f3 : (3 < n) = True := eq_true (by omega)
    simp [e1, e2, e3, f1, f2, f3]
theorem dec_lo {s t : ByteArray} {p : Nat} (h : p < s.size) : Utf8.decode (joinT s t) p = Utf8.decode s p := by
  rw [dec_at, dec_at, joinT_size, bt_join_lo h]
  have lo : ∀ k, k < s.size - p → (bt (joinT s t) (p + k)).toNat = (bt s (p + k)).toNat := fun k hk => by rw [bt_join_lo (by omega)]
  have mid : ∀ k, s.size - p = k → (bt (joinT s t) (p + k)).toNat = 10 := fun k hk => by rw [show p + k = s.size by omega, bt_join_mid]; rfl
  exact decodeN_cut _ _ _ _ _ _ _ _ _ (by omega) (by omega) (lo 1) (lo 2) (lo 3) (mid 1) (mid 2) (mid 3)
def shiftC (d : Nat) (c : Cel) : Cel := ⟨c.pos + d, c.w, c.r, c.bad, c.byte⟩
theorem cellAt_lo {s t : ByteArray} {p : Nat} (h : p < s.size) : cellAt (joinT s t) p = cellAt s p := by
  unfold cellAt
  rw [dec_lo h, bt_join_lo h]
theorem cellAt_hi (s t : ByteArray) (q : Nat) : cellAt (joinT s t) (s.size + 1 + q) = shiftC (s.size + 1) (cellAt t q) := by
  unfold cellAt
  rw [dec_hi, bt_join_hi]
  split <;> simp [shiftC] <;> omega
theorem cells_hi (s t : ByteArray) (q : Nat) : cells (joinT s t) (s.size + 1 + q) = (cells t q).map (shiftC (s.size + 1)) := by
  by_cases h : q < t.size
  · have hw := Lib.width_pos t q
    rw [cells_in (show s.size + 1 + q < (joinT s t).size by rw [joinT_size]; omega), cells_in h, dec_hi, cellAt_hi, Nat.add_assoc (s.size + 1), cells_hi s t (q + (Utf8.decode t q).2)]
    rfl
  · rw [cells_out (by rw [joinT_size]; omega), cells_out h]; rfl
termination_by t.size - q
def nlC (n : Nat) : Cel := ⟨n, 1, 10, false, 0⟩
theorem cells_mid (s t : ByteArray) : cells (joinT s t) s.size = nlC s.size :: (cells t 0).map (shiftC (s.size + 1)) := by
  rw [cells_in (by rw [joinT_size]; omega), cellAt_good _ _ _ _ (dec_mid s t) (by decide), dec_mid]
  have := cells_hi s t 0
  rw [Nat.add_zero] at this
  rw [this]; rfl
theorem cells_lo (s t : ByteArray) (p : Nat) (hp : p ≤ s.size) : cells (joinT s t) p = cells s p ++ nlC s.size :: (cells t 0).map (shiftC (s.size + 1)) := by
  by_cases h : p < s.size
  · have hw := Lib.width_pos s p
    have hf := decode_fit s p h
    rw [cells_in (show p < (joinT s t).size by rw [joinT_size]; omega), cells_in h, dec_lo h, cellAt_lo h, cells_lo s t (p + (Utf8.decode s p).2) (by omega)]
    rfl
  · have : p = s.size := by omega
    subst this
    rw [cells_mid, cells_out h]; rfl
termination_by s.size - p
end Go.Proofs.YtfodjmemdkibpaaDoor.V
