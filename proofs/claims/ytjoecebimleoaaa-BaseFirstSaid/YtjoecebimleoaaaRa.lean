/-
What the apparatus's checks ask for, in plain words: no program in sight.
-/
import Derived.Test.YtjoecebimleoaaaVs
namespace Go.Proofs.Ytjoecebimleoaaa.V
open Go
set_option linter.unusedVariables false
set_option linter.deprecated false
structure Rd where
  none : Bool
  text : ByteArray
  wits : List Int
structure En where
  col : Int
  rds : List Rd
def rd0 : Rd := ⟨false, .empty, []⟩
def tRd : Ty Rd := ⟨3, fun r j => match j with | 0 => .bool r.none | 1 => .str r.text | _ => tI.L r.wits, rd0⟩
def tEn : Ty En := ⟨2, fun e j => match j with | 0 => .int .i64 e.col | _ => tRd.L e.rds, ⟨0, []⟩⟩
def fl (rds : List Rd) : List Int := rds.flatMap (·.wits)
def seenL (n : Int) (l : List Int) : List Bool := (List.range n.toNat).map fun (w : Nat) => decide ((w : Int) ∈ l)
structure RdOk (n : Int) (r : Rd) : Prop where
  some : r.wits ≠ []
  nons : r.none = decide (r.text = ⟨#[]⟩)
  up : r.wits.Pairwise (· < ·)
  rng : ∀ w ∈ r.wits, 0 ≤ w ∧ w < n
structure Part (n : Int) (rds : List Rd) : Prop where
  each : ∀ r ∈ rds, RdOk n r
  nodup : (fl rds).Nodup
  apart : rds.Pairwise (fun p r => p.text ≠ r.text ∧ p.wits.headD 0 < r.wits.headD 0)
def Right (n : Int) (rds : List Rd) : Prop := Part n rds ∧ 2 ≤ rds.length ∧ ((fl rds).length : Int) = n
noncomputable instance (n : Int) (rds : List Rd) : Decidable (Right n rds) := Classical.propDecidable _

theorem seen_len (n : Int) (l : List Int) : (seenL n l).length = n.toNat := by simp [seenL]
theorem seen_at {n : Int} {l : List Int} {w : Int} (h0 : 0 ≤ w) (h1 : w < n) : (seenL n l).getD w.toNat false = decide (w ∈ l) := by
  have h2 : w.toNat < n.toNat := by omega
  have h3 : ((w.toNat : Nat) : Int) = w := by omega
  simp [seenL, List.getD, h2, h3]
theorem seen_set {n : Int} {l : List Int} {w : Int} (h0 : 0 ≤ w) (h1 : w < n) : (seenL n l).set w.toNat true = seenL n (l ++ [w]) := by
  refine List.ext_getElem (by simp [seenL]) fun i h2 h3 => ?_
  rw [List.getElem_set]
  by_cases e : w.toNat = i
  · subst e
    have h4 : ((w.toNat : Nat) : Int) = w := by omega
    simp [seenL, h4]
  · have h4 : ¬ ((i : Nat) : Int) = w := by omega
    simp [seenL, e, h4]
theorem getD_mem {α : Type} {z : α} {l : List α} (i : Nat) (h : i < l.length) : l.getD i z ∈ l := by
  rw [List.getD, List.getElem?_eq_getElem h]; exact List.getElem_mem h
theorem take_get {α : Type} (z : α) (l : List α) (i : Nat) (h : i < l.length) : l.take (i + 1) = l.take i ++ [l.getD i z] := by
  rw [List.take_succ, List.getD, List.getElem?_eq_getElem h]; rfl
theorem all_get {α : Type} (z : α) (l : List α) (i : Nat) (h : i < l.length) : l = l.take i ++ l.getD i z :: l.drop (i + 1) := by
  rw [List.getD, List.getElem?_eq_getElem h, Option.getD_some, List.getElem_cons_drop, List.take_append_drop]
theorem fl_append (a b : List Rd) : fl (a ++ b) = fl a ++ fl b := by simp [fl]
theorem fl_take (z : Rd) (l : List Rd) (i : Nat) (h : i < l.length) : fl (l.take (i + 1)) = fl (l.take i) ++ (l.getD i z).wits := by
  rw [take_get z l i h, fl_append]; simp [fl]
theorem fl_sub (z : Rd) (l : List Rd) (i : Nat) (h : i < l.length) : ∃ rest, fl l = fl (l.take i) ++ (l.getD i z).wits ++ rest := by
  refine ⟨fl (l.drop (i + 1)), ?_⟩
  have := congrArg fl (all_get z l i h)
  rw [fl_append] at this
  rw [this]; simp [fl]
theorem pair_at {R : Int → Int → Prop} {l : List Int} (h : l.Pairwise R) {i j : Nat} (hij : i < j) (hj : j < l.length) : R (l.getD i 0) (l.getD j 0) := by
  rw [List.getD, List.getD, List.getElem?_eq_getElem hj, List.getElem?_eq_getElem (by omega)]
  exact List.pairwise_iff_getElem.mp h i j (by omega) hj hij
theorem pair_push {R : Int → Int → Prop} (tr : ∀ a b c, R a b → R b c → R a c) {l : List Int} {k : Nat} (hk : k < l.length) (h : (l.take k).Pairwise R) (hl : 0 < k → R (l.getD (k - 1) 0) (l.getD k 0)) : (l.take (k + 1)).Pairwise R := by
  rw [take_get 0 l k hk]
  refine List.pairwise_append.mpr ⟨h, by simp, fun a ha b hb => ?_⟩
  have hb' : b = l.getD k 0 := by simpa using hb
  subst hb'
  obtain ⟨j, hj, rfl⟩ := List.getElem_of_mem ha
  have hj' : j < k := by simp at hj; omega
  by_cases e : j = k - 1
  · subst e
    have := hl (by omega)
    simpa [List.getD, show k - 1 < l.length by omega] using this
  · have h1 := List.pairwise_iff_getElem.mp h j (k - 1) hj (by simp; omega) (by omega)
    refine tr _ _ _ h1 ?_
    have := hl (by omega)
    simpa [List.getD, show k - 1 < l.length by omega] using this

theorem nodup_len : ∀ (m : Nat) (l : List Int), l.Nodup → (∀ w ∈ l, 0 ≤ w ∧ w < (m : Int)) → l.length ≤ m
  | 0, l, _, h => by
    cases l with
    | nil => simp
    | cons a l => have := h a (by simp); omega
  | m + 1, l, hn, h => by
    have h1 := nodup_len m (l.erase (m : Int)) (hn.erase _) (fun w hw => by
      have h2 := h w (List.mem_of_mem_erase hw)
      have h3 : w ≠ (m : Int) := fun e => by rw [e] at hw; exact hn.not_mem_erase hw
      omega)
    have h4 : l.length ≤ (l.erase (m : Int)).length + 1 := by rw [List.length_erase]; split <;> omega
    omega
theorem seen_upd {n : Int} {l : List Int} {w : Int} (h0 : 0 ≤ w) (h1 : w < n) (c : List AV) (hc : c = [.tt]) : MOle (.row 4 1 n.toNat (updRow (tB.G (seenL n l)) w.toNat 0 c)) (.row 4 1 n.toNat (tB.G (seenL n (l ++ [w])))) := by
  subst hc
  refine ⟨rfl, rfl, rfl, fun i j hi hj => ?_⟩
  have : j = 0 := by omega
  subst this
  have e1 : ∀ l : List Int, (seenL n l).getD i false = decide ((i : Int) ∈ l) := fun l => by
    have := seen_at (n := n) (l := l) (w := (i : Int)) (by omega) (by omega)
    simpa using this
  unfold updRow
  by_cases hiw : i = w.toNat
  · rw [if_pos ⟨hiw, Nat.le_refl _, by simp⟩]
    refine Le.tt.trans (Le.bool ?_)
    show true = (seenL n (l ++ [w])).getD i false
    rw [e1, eq_comm, decide_eq_true_eq]
    exact List.mem_append.mpr (.inr (by simp; omega))
  · rw [if_neg (fun h => hiw h.1)]
    refine Le.bool ?_
    show (seenL n l).getD i false = (seenL n (l ++ [w])).getD i false
    rw [e1, e1, decide_eq_decide, List.mem_append]
    have : ¬ (i : Int) = w := by omega
    simp [this]

theorem pair_atG {α : Type} {R : α → α → Prop} {z : α} {l : List α} (h : l.Pairwise R) {i j : Nat} (hij : i < j) (hj : j < l.length) : R (l.getD i z) (l.getD j z) := by
  rw [List.getD, List.getD, List.getElem?_eq_getElem hj, List.getElem?_eq_getElem (by omega)]
  exact List.pairwise_iff_getElem.mp h i j (by omega) hj hij
theorem head_get (l : List Int) : l.headD 0 = l.getD 0 0 := by cases l <;> rfl

def lastW (l : List Rd) : Int := (l.getLast?.map fun r => r.wits.headD 0).getD (-1)
theorem ins_new {α : Type} [DecidableEq α] {k : α} : ∀ {l : List α}, k ∉ l → ins k l = l ++ [k]
  | [], _ => rfl
  | p :: l, h => by
    have h1 : ¬ k = p := fun e => h (by simp [e])
    rw [ins, if_neg h1, ins_new (fun h2 => h (by simp [h2]))]; rfl
theorem lastW_lt {n : Int} {rds : List Rd} (h : Part n rds) {i : Nat} (hi : i < rds.length) : lastW (rds.take i) < (rds.getD i tRd.z).wits.headD 0 := by
  have hr := h.each _ (getD_mem (z := tRd.z) i hi)
  cases i with
  | zero =>
    have h1 : (rds.getD 0 tRd.z).wits.headD 0 ∈ (rds.getD 0 tRd.z).wits := by
      cases hq : (rds.getD 0 tRd.z).wits with
      | nil => exact absurd hq hr.some
      | cons a l => simp
    have := (hr.rng _ h1).1
    simp only [lastW, List.take_zero, List.getLast?_nil, Option.map_none, Option.getD_none]
    omega
  | succ i =>
    have := (pair_atG (z := tRd.z) h.apart (Nat.lt_succ_self i) hi).2
    rw [take_get tRd.z rds i (by omega)]
    simpa [lastW] using this
theorem lastW_ge {n : Int} {l : List Rd} (h : Part n l) {p : Rd} (hp : p ∈ l) : p.wits.headD 0 ≤ lastW l := by
  obtain ⟨m, hm, rfl⟩ := List.getElem_of_mem hp
  have hl : 0 < l.length := by omega
  have e1 : lastW l = l[l.length - 1].wits.headD 0 := by
    unfold lastW
    rw [List.getLast?_eq_getElem?, List.getElem?_eq_getElem (by omega)]; rfl
  rw [e1]
  by_cases e : m = l.length - 1
  · subst e; exact Int.le_refl _
  · exact Int.le_of_lt (List.pairwise_iff_getElem.mp h.apart m (l.length - 1) hm (by omega) (by omega)).2

structure Good (n c : Int) (es : List En) : Prop where
  each : ∀ e ∈ es, 0 ≤ e.col ∧ e.col < c ∧ Right n e.rds
  up : (es.map (·.col)).Pairwise (· < ·)
noncomputable instance (n c : Int) (es : List En) : Decidable (Good n c es) := Classical.propDecidable _
noncomputable def chk (es : List En) (n c : Int) : Int := if n < 1 ∨ 12 < n ∨ c < 0 ∨ 4096 < c then 2 else if Good n c es then 0 else 170
theorem good_at {n c : Int} {es : List En} (h : Good n c es) {i j : Nat} (hij : i < j) (hj : j < es.length) : (es.getD i tEn.z).col < (es.getD j tEn.z).col := by
  have := List.pairwise_iff_getElem.mp h.up i j (by simp; omega) (by simpa using hj) hij
  rw [List.getD, List.getD, List.getElem?_eq_getElem hj, List.getElem?_eq_getElem (by omega)]
  simpa using this
theorem good_up {n c : Int} {es : List En} (h : Good n c es) {i : Nat} (hi : i < es.length) : (if i = 0 then -1 else (es.getD (i - 1) tEn.z).col) < (es.getD i tEn.z).col := by
  by_cases h0 : i = 0
  · rw [if_pos h0]
    have := (h.each _ (getD_mem (z := tEn.z) i hi)).1
    omega
  · rw [if_neg h0]; exact good_at h (by omega) hi
theorem good_push {n c : Int} {es : List En} {i : Nat} (h : Good n c (es.take i)) (hi : i < es.length) (h1 : (if i = 0 then -1 else (es.getD (i - 1) tEn.z).col) < (es.getD i tEn.z).col) (h2 : (es.getD i tEn.z).col < c) (h3 : Right n (es.getD i tEn.z).rds) : Good n c (es.take (i + 1)) := by
  have hlast : ∀ p ∈ es.take i, p.col < (es.getD i tEn.z).col := by
    intro p hp
    obtain ⟨m, hm, rfl⟩ := List.getElem_of_mem hp
    have hmi : m < i := by simp at hm; omega
    rw [if_neg (by omega)] at h1
    by_cases e : m = i - 1
    · subst e; simpa [List.getD, show i - 1 < es.length by omega] using h1
    · have h5 : (es.take i).getD m tEn.z = (es.take i)[m] := by rw [List.getD, List.getElem?_eq_getElem hm]; rfl
      have h6 : (es.take i).getD (i - 1) tEn.z = es.getD (i - 1) tEn.z := by simp [List.getD, show i - 1 < i by omega]
      have := good_at h (show m < i - 1 by omega) (by simp; omega)
      rw [h5, h6] at this
      exact Int.lt_trans this h1
  have hpos : 0 ≤ (es.getD i tEn.z).col := by
    by_cases h0 : i = 0
    · rw [if_pos h0] at h1; omega
    · have := (h.each _ (getD_mem (z := tEn.z) (l := es.take i) (i - 1) (by simp; omega))).1
      have h7 := hlast _ (getD_mem (z := tEn.z) (l := es.take i) (i - 1) (by simp; omega))
      omega
  rw [take_get tEn.z es i hi]
  refine ⟨fun e he => ?_, ?_⟩
  · rcases List.mem_append.mp he with h' | h'
    · exact h.each e h'
    · have : e = es.getD i tEn.z := by simpa using h'
      rw [this]; exact ⟨hpos, h2, h3⟩
  · rw [List.map_append]
    refine List.pairwise_append.mpr ⟨h.up, by simp, fun a ha b hb => ?_⟩
    obtain ⟨p, hp, rfl⟩ := List.mem_map.mp ha
    have : b = (es.getD i tEn.z).col := by simpa using hb
    rw [this]; exact hlast p hp

end Go.Proofs.Ytjoecebimleoaaa.V
