/-
A text's words, in plain words.
-/
import Derived.Test.YtfodjmemdkibpaaDoorRt
namespace Go.Proofs.YtfodjmemdkibpaaDoor.V
open Go
set_option linter.unusedVariables false
set_option linter.unusedSimpArgs false
structure Wrd where
  text : ByteArray
  tail : ByteArray
deriving DecidableEq
def tWrd : Ty Wrd := ⟨2, fun w j => match j with | 0 => .str w.text | _ => .str w.tail, ⟨.empty, .empty⟩⟩
def isW (t : Tok) : Bool := decide (t.kind = 1)
/-- What stands ahead of the first word, and the words. -/
def specW : List Tok → ByteArray × List Wrd
  | [] => (.empty, [])
  | t :: ts => if t.kind = 1 then (.empty, ⟨t.text, (specW ts).1⟩ :: (specW ts).2) else (t.text ++ (specW ts).1, (specW ts).2)
/-- Token by token a text is gone through whole. -/
def Contig (s : ByteArray) : Nat → List Tok → Prop
  | p, [] => p = s.size
  | p, t :: ts => t.at' = p ∧ t.text = s.extract p (p + t.text.size) ∧ p + t.text.size ≤ s.size ∧ Contig s (p + t.text.size) ts
def startsI (ts : List Tok) : List Int := (ts.filter isW).map (·.at')
def endsI (ts : List Tok) : List Int := (ts.filter isW).map (fun t => t.at' + (t.text.size : Int))
/-- Where the first word begins. -/
def nextS (s : ByteArray) (ts : List Tok) : Int := (startsI ts).headD s.size
theorem Contig.pos {s : ByteArray} : ∀ {ts : List Tok} {p : Nat}, Contig s p ts → p ≤ s.size
  | [], p, h => by have : p = s.size := h; omega
  | t :: ts, p, h => by have := h.2.2.1; omega
theorem Contig.next {s : ByteArray} : ∀ {ts : List Tok} {p : Nat}, Contig s p ts → (p : Int) ≤ nextS s ts ∧ nextS s ts ≤ s.size
  | [], p, h => by have : p = s.size := h; simp [nextS, startsI]; omega
  | t :: ts, p, h => by
    obtain ⟨h1, h2, h3, h4⟩ := h
    have ih := Contig.next h4
    unfold nextS startsI at *
    by_cases hk : isW t
    · rw [List.filter_cons_of_pos hk]
      simp only [List.map_cons, List.headD_cons]
      omega
    · rw [List.filter_cons_of_neg hk]
      omega
theorem extract_join (s : ByteArray) (a b c : Nat) (h1 : a ≤ b) (h2 : b ≤ c) : s.extract a b ++ s.extract b c = s.extract a c := by
  rw [ByteArray.extract_append_extract]
  congr 1 <;> omega
theorem extract_nil (s : ByteArray) (a : Nat) : s.extract a a = ByteArray.empty := by
  apply ByteArray.ext
  simp
/-- The words as the program cuts them. -/
def cutW (s : ByteArray) : List Int → List Int → List Wrd
  | a :: st, e :: en => ⟨s.extract a.toNat e.toNat, s.extract e.toNat (st.headD s.size).toNat⟩ :: cutW s st en
  | _, _ => []
theorem specW_cut {s : ByteArray} : ∀ {ts : List Tok} {p : Nat}, Contig s p ts → specW ts = (s.extract p (nextS s ts).toNat, cutW s (startsI ts) (endsI ts))
  | [], p, h => by
    have : p = s.size := h
    simp only [specW, nextS, startsI, endsI, cutW, List.filter_nil, List.map_nil, List.headD_nil]
    rw [this]
    congr 1
    exact (extract_nil s _).symm
  | t :: ts, p, h => by
    obtain ⟨h1, h2, h3, h4⟩ := h
    have ih := specW_cut h4
    have hn := Contig.next h4
    unfold specW
    by_cases hk : t.kind = 1
    · have hw : isW t = true := decide_eq_true hk
      rw [if_pos hk, ih]
      have e1 : nextS s (t :: ts) = t.at' := by unfold nextS startsI; rw [List.filter_cons_of_pos hw]; rfl
      have e2 : startsI (t :: ts) = t.at' :: startsI ts := by unfold startsI; rw [List.filter_cons_of_pos hw]; rfl
      have e3 : endsI (t :: ts) = (t.at' + (t.text.size : Int)) :: endsI ts := by unfold endsI; rw [List.filter_cons_of_pos hw]; rfl
      rw [e1, e2, e3, h1]
      have e4 : ((p : Int)).toNat = p := rfl
      have e5 : ((p : Int) + (t.text.size : Int)).toNat = p + t.text.size := by omega
      simp only [cutW, e4, e5, extract_nil]
      congr 2
      rw [← h2]; rfl
    · have hw : ¬ isW t = true := by unfold isW; simpa using hk
      rw [if_neg hk, ih]
      have e2 : startsI (t :: ts) = startsI ts := by unfold startsI; rw [List.filter_cons_of_neg hw]
      have e3 : endsI (t :: ts) = endsI ts := by unfold endsI; rw [List.filter_cons_of_neg hw]
      have e1 : nextS s (t :: ts) = nextS s ts := by unfold nextS; rw [e2]
      rw [e1, e2, e3]
      congr 1
      show t.text ++ s.extract (p + t.text.size) (nextS s ts).toNat = _
      conv => lhs; arg 1; rw [h2]
      exact extract_join s _ _ _ (by omega) (by omega)
theorem toks_contig (s : ByteArray) (i : Nat) : Contig s (posAt s (cells s 0) i) (toks s 0 (cells s 0) i) := by
  by_cases h : i < (cells s 0).length
  · rw [toks_in h]
    have hg := tokE_gt (cells s 0) i h
    have hm := posAt_mono s i (tokE (cells s 0) i).2 (by omega)
    have hrec := toks_contig s (tokE (cells s 0) i).2
    have hl := posAt_le s (tokE (cells s 0) i).2
    have hsz : (s.extract (posAt s (cells s 0) i) (posAt s (cells s 0) (tokE (cells s 0) i).2)).size = posAt s (cells s 0) (tokE (cells s 0) i).2 - posAt s (cells s 0) i := by simp; omega
    have hq : posAt s (cells s 0) i + (s.extract (posAt s (cells s 0) i) (posAt s (cells s 0) (tokE (cells s 0) i).2)).size = posAt s (cells s 0) (tokE (cells s 0) i).2 := by rw [hsz]; omega
    refine ⟨by simp, ?_, ?_, ?_⟩
    · simp only [hq]
    · simp only [hq]; omega
    · simp only [hq]; exact hrec
  · rw [toks_out h]
    unfold posAt
    rw [if_neg h]; rfl
termination_by (cells s 0).length - i
theorem posAt_zero (s : ByteArray) : posAt s (cells s 0) 0 = 0 := by
  unfold posAt
  by_cases h : 0 < s.size
  · have hp : (cellAt s 0).pos = 0 := by unfold cellAt; split <;> rfl
    rw [cells_in h]; simp [hp]
  · rw [cells_out h]; simp; exact Classical.byContradiction fun hc => h (Nat.pos_of_ne_zero (fun e => hc (by apply ByteArray.ext; apply Array.ext (by simpa using e); intro i h1 h2; simp at h2)))
/-- The document's way: token by token, what is no word is hung to the last word. -/
def absorb : ByteArray × List Wrd → List Tok → ByteArray × List Wrd
  | st, [] => st
  | (ld, ws), t :: ts => if t.kind = 1 then absorb (ld, ws ++ [⟨t.text, .empty⟩]) ts
    else if ws.length = 0 then absorb (ld ++ t.text, ws) ts
    else absorb (ld, ws.set (ws.length - 1) ⟨(ws.getD (ws.length - 1) tWrd.z).text, (ws.getD (ws.length - 1) tWrd.z).tail ++ t.text⟩) ts
theorem absorb_some : ∀ (ts : List Tok) (ld : ByteArray) (ws : List Wrd) (w : Wrd), absorb (ld, ws ++ [w]) ts = (ld, ws ++ ⟨w.text, w.tail ++ (specW ts).1⟩ :: (specW ts).2)
  | [], ld, ws, w => by simp [absorb, specW]
  | t :: ts, ld, ws, w => by
    unfold absorb specW
    by_cases hk : t.kind = 1
    · rw [if_pos hk, if_pos hk, absorb_some ts ld (ws ++ [w])]
      simp
    · rw [if_neg hk, if_neg hk, if_neg (by simp)]
      have e : (ws ++ [w]).length - 1 = ws.length := by simp
      rw [e]
      have e2 : (ws ++ [w]).getD ws.length tWrd.z = w := by simp [List.getD]
      rw [e2, List.set_append_right _ _ (Nat.le_refl _), Nat.sub_self]
      show absorb (ld, ws ++ [⟨w.text, w.tail ++ t.text⟩]) ts = _
      rw [absorb_some ts ld ws]
      simp [ByteArray.append_assoc]
theorem absorb_none : ∀ (ts : List Tok) (ld : ByteArray), absorb (ld, []) ts = (ld ++ (specW ts).1, (specW ts).2)
  | [], ld => by simp [absorb, specW]
  | t :: ts, ld => by
    unfold absorb specW
    by_cases hk : t.kind = 1
    · rw [if_pos hk, if_pos hk]
      have := absorb_some ts ld [] ⟨t.text, .empty⟩
      rw [this]; simp
    · rw [if_neg hk, if_neg hk, if_pos (show ([] : List Wrd).length = 0 from rfl), absorb_none ts]
      simp [ByteArray.append_assoc]
theorem absorb_spec (ts : List Tok) : absorb (.empty, []) ts = specW ts := by rw [absorb_none]; simp
theorem toks_small (s : ByteArray) (L : List Cel) (i : Nat) : (toks s 0 L i).length ≤ L.length - i ∧ ∀ t ∈ toks s 0 L i, t.text.size ≤ s.size := by
  by_cases h : i < L.length
  · have hg := tokE_gt L i h
    obtain ⟨h1, h2⟩ := toks_small s L (tokE L i).2
    rw [toks_in h]
    refine ⟨by rw [List.length_cons]; omega, fun t ht => ?_⟩
    rcases List.mem_cons.mp ht with e | ht
    · rw [e]; simp; omega
    · exact h2 t ht
  · rw [toks_out h]; simp
termination_by L.length - i
theorem startsI_len (ts : List Tok) : (startsI ts).length ≤ ts.length ∧ (endsI ts).length = (startsI ts).length := by
  unfold startsI endsI
  exact ⟨by rw [List.length_map]; exact List.length_filter_le _ _, by simp⟩
theorem startsI_take (T : List Tok) (i : Nat) (h : i < T.length) :
    startsI (T.take (i + 1)) = startsI (T.take i) ++ (if (T.getD i tTok.z).kind = 1 then [(T.getD i tTok.z).at'] else []) ∧
    endsI (T.take (i + 1)) = endsI (T.take i) ++ (if (T.getD i tTok.z).kind = 1 then [(T.getD i tTok.z).at' + ((T.getD i tTok.z).text.size : Int)] else []) := by
  have e : T.getD i tTok.z = T[i] := by rw [List.getD, List.getElem?_eq_getElem h, Option.getD_some]
  rw [e, List.take_succ_eq_append_getElem h]
  unfold startsI endsI
  rw [List.filter_append, List.map_append, List.map_append]
  by_cases hk : T[i].kind = 1
  · have hw : isW T[i] = true := decide_eq_true hk
    rw [if_pos hk, if_pos hk, List.filter_cons_of_pos hw]; exact ⟨rfl, rfl⟩
  · have hw : ¬ isW T[i] = true := by unfold isW; simpa using hk
    rw [if_neg hk, if_neg hk, List.filter_cons_of_neg hw]; exact ⟨rfl, rfl⟩
theorem Contig.mem {s : ByteArray} : ∀ {ts : List Tok} {p : Nat}, Contig s p ts → ∀ t ∈ ts, (p : Int) ≤ t.at' ∧ t.at' + (t.text.size : Int) ≤ s.size
  | [], p, h, t, ht => absurd ht (by simp)
  | u :: ts, p, h, t, ht => by
    obtain ⟨h1, h2, h3, h4⟩ := h
    rcases List.mem_cons.mp ht with e | ht
    · rw [e]; omega
    · have := Contig.mem h4 t ht; omega
theorem Contig.sorted {s : ByteArray} : ∀ {ts : List Tok} {p : Nat}, Contig s p ts → ∀ i, i < (startsI ts).length →
    (p : Int) ≤ (startsI ts).getD i 0 ∧ (startsI ts).getD i 0 ≤ (endsI ts).getD i 0 ∧ (endsI ts).getD i 0 ≤ (startsI ts ++ [(s.size : Int)]).getD (i + 1) 0 ∧ (startsI ts ++ [(s.size : Int)]).getD (i + 1) 0 ≤ s.size
  | [], p, h, i, hi => absurd hi (by simp [startsI])
  | t :: ts, p, h, i, hi => by
    obtain ⟨h1, h2, h3, h4⟩ := h
    have hn := Contig.next h4
    by_cases hk : t.kind = 1
    · have hw : isW t = true := decide_eq_true hk
      have e2 : startsI (t :: ts) = t.at' :: startsI ts := by unfold startsI; rw [List.filter_cons_of_pos hw]; rfl
      have e3 : endsI (t :: ts) = (t.at' + (t.text.size : Int)) :: endsI ts := by unfold endsI; rw [List.filter_cons_of_pos hw]; rfl
      rw [e2] at hi ⊢
      rw [e3]
      cases i with
      | zero =>
        have : (t.at' :: startsI ts ++ [(s.size : Int)]).getD (0 + 1) 0 = nextS s ts := by
          unfold nextS
          cases startsI ts <;> rfl
        rw [this]
        simp only [List.getD_cons_zero]
        omega
      | succ i =>
        have ih := Contig.sorted h4 i (by simpa using hi)
        simp only [List.cons_append, List.getD_cons_succ]
        omega
    · have hw : ¬ isW t = true := by unfold isW; simpa using hk
      have e2 : startsI (t :: ts) = startsI ts := by unfold startsI; rw [List.filter_cons_of_neg hw]
      have e3 : endsI (t :: ts) = endsI ts := by unfold endsI; rw [List.filter_cons_of_neg hw]
      rw [e2] at hi ⊢
      rw [e3]
      have ih := Contig.sorted h4 i hi
      omega
theorem cutW_len (s : ByteArray) : ∀ (st en : List Int), en.length = st.length → (cutW s st en).length = st.length
  | [], _, _ => by unfold cutW; rfl
  | a :: st, [], h => absurd h (by simp)
  | a :: st, e :: en, h => by unfold cutW; rw [List.length_cons, cutW_len s st en (by simpa using h), List.length_cons]
theorem cutW_get (s : ByteArray) : ∀ (st en : List Int) (i : Nat), en.length = st.length → i < st.length →
    (cutW s st en).getD i tWrd.z = ⟨s.extract (st.getD i 0).toNat (en.getD i 0).toNat, s.extract (en.getD i 0).toNat ((st ++ [(s.size : Int)]).getD (i + 1) 0).toNat⟩
  | [], _, _, _, h => absurd h (by simp)
  | a :: st, [], _, h, _ => absurd h (by simp)
  | a :: st, e :: en, 0, h, hi => by
    unfold cutW
    simp only [List.getD_cons_zero]
    congr 2
    cases st <;> rfl
  | a :: st, e :: en, i + 1, h, hi => by
    unfold cutW
    simp only [List.getD_cons_succ, List.cons_append]
    exact cutW_get s st en i (by simpa using h) (by simpa using hi)
/-- The first i of a list, the others still empty. -/
def part {α : Type} (l : List α) (z : α) (i : Nat) : List α := l.take i ++ List.replicate (l.length - i) z
theorem part_len {α : Type} (l : List α) (z : α) (i : Nat) (h : i ≤ l.length) : (part l z i).length = l.length := by simp [part]; omega
theorem part_set {α : Type} (l : List α) (z : α) (i : Nat) (h : i < l.length) : (part l z i).set i (l.getD i z) = part l z (i + 1) := by
  unfold part
  refine List.ext_getElem (by simp; omega) fun j h1 h2 => ?_
  rw [List.getElem_set]
  by_cases e : i = j
  · subst e
    rw [if_pos rfl, List.getElem_append_left (by simp; omega)]
    simp [List.getD, h]
  · rw [if_neg e]
    rcases Nat.lt_or_ge j i with h3 | h3
    · rw [List.getElem_append_left (by simp; omega), List.getElem_append_left (by simp; omega)]; simp
    · rw [List.getElem_append_right (by simp; omega), List.getElem_append_right (by simp; omega)]; simp
theorem part_all {α : Type} (l : List α) (z : α) : part l z l.length = l := by simp [part]
theorem part_none {α : Type} (l : List α) (z : α) : part l z 0 = List.replicate l.length z := by simp [part]
end Go.Proofs.YtfodjmemdkibpaaDoor.V
