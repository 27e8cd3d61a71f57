/-
The texts BGa, BXq, BTd, BGb, BGc, BGd, BGe, BGh, BMc, BBh, BAf, BAp, BTe, BAq, of each what the law needs.
-/
import Derived.Test.YteklnpgiloebcaaGreatDoorQAo4
namespace Go.Proofs.YteklnpgiloebcaaGreatDoor.V
set_option linter.unusedVariables false
set_option linter.unusedSimpArgs false
open Go Go.Proofs Go.RowKit
theorem getD_app1 {α : Type} {l : List α} {x z : α} {i : Nat} (h : i < l.length) : (l ++ [x]).getD i z = l.getD i z := by
  rw [List.getD, List.getD, List.getElem?_append_left h]
theorem getD_app2 {α : Type} {l : List α} {x z : α} : (l ++ [x]).getD l.length z = x := by simp [List.getD]
def rdG (l : List Rd) : Nat → Nat → AV := fun i j => match j with | 0 => .bool (l.getD i rd0).none | _ => .str (l.getD i rd0).text
def rdN (l : List Rd) : Nat → Nat := fun i => (l.getD i rd0).wits.length
def rdW (l : List Rd) : Nat → Nat → Nat → AV := fun i => tI.G (l.getD i rd0).wits
/-- Readings as nested rows. -/
def rdM (l : List Rd) : MO := .mat 62 3 l.length (rdG l) 2 3 1 (rdN l) (rdW l) none
/-- Is it the reading of these witnesses? -/
def sameR (o : Int) (nn : Bool) (key : ByteArray) (r : Rd) : Bool := r.none == nn && decide (textF r.text o = key)
def ensR (l : List Rd) (k : Nat) (nn : Bool) (text : ByteArray) : List Rd := if k = l.length then l ++ [⟨nn, text, []⟩] else l
def pushW (l : List Rd) (k : Nat) (i : Int) : List Rd := l.set k ⟨(l.getD k rd0).none, (l.getD k rd0).text, (l.getD k rd0).wits ++ [i]⟩
def addR (o : Int) (l : List Rd) (i : Int) (nn : Bool) (text key : ByteArray) : List Rd := pushW (ensR l (l.findIdx (sameR o nn key)) nn text) (l.findIdx (sameR o nn key)) i
/-- A cell's text. -/
def textAt (t : Tab) (c i : Nat) : ByteArray := if atC t c i < 0 then .empty else ((witAt t i).words.getD (atC t c i).toNat tWrd.z).text
def keyAt (t : Tab) (c : Nat) (o : Int) (i : Nat) : ByteArray := if atC t c i < 0 then .empty else textF (textAt t c i) o
/-- The readings of the first witnesses. -/
def readE (t : Tab) (c : Nat) (o : Int) : Nat → List Rd
  | 0 => []
  | i + 1 => addR o (readE t c o i) i (decide (atC t c i < 0)) (textAt t c i) (keyAt t c o i)
theorem ens_len (l : List Rd) (k : Nat) (nn : Bool) (text : ByteArray) (h : k ≤ l.length) : k < (ensR l k nn text).length ∧ (ensR l k nn text).length ≤ l.length + 1 := by
  unfold ensR
  split
  · rw [List.length_append, List.length_singleton]; omega
  · omega
theorem push_len (l : List Rd) (k : Nat) (i : Int) : (pushW l k i).length = l.length := by simp [pushW]
theorem add_len (o : Int) (l : List Rd) (i : Int) (nn : Bool) (text key : ByteArray) : (addR o l i nn text key).length ≤ l.length + 1 := by
  unfold addR
  rw [push_len]
  exact (ens_len l _ nn text List.findIdx_le_length).2
theorem read_len (t : Tab) (c : Nat) (o : Int) : ∀ n, (readE t c o n).length ≤ n
  | 0 => Nat.le_refl _
  | n + 1 => Nat.le_trans (add_len _ _ _ _ _ _) (Nat.succ_le_succ (read_len t c o n))
/-- No reading has more witnesses than there are. -/
theorem wits_le (t : Tab) (c : Nat) (o : Int) : ∀ n, ∀ r ∈ readE t c o n, r.wits.length ≤ n
  | 0, r, h => by cases h
  | n + 1, r, h => by
    have ih := wits_le t c o n
    have key : ∀ (l : List Rd) k i (r : Rd), (∀ x ∈ l, x.wits.length ≤ n) → r ∈ pushW l k i → r.wits.length ≤ n + 1 := by
      intro l k i r hl hr
      unfold pushW at hr
      rcases List.mem_or_eq_of_mem_set hr with h1 | h1
      · have := hl r h1; omega
      · subst h1
        simp only [List.length_append, List.length_singleton]
        have : (l.getD k rd0).wits.length ≤ n := by
          by_cases hk : k < l.length
          · exact hl _ (getD_mem' k hk)
          · rw [List.getD, List.getElem?_eq_none (by omega)]; exact Nat.zero_le _
        omega
    refine key _ _ _ r (fun x hx => ?_) h
    unfold ensR at hx
    split at hx
    · rcases List.mem_append.mp hx with h1 | h1
      · exact ih x h1
      · rw [List.mem_singleton] at h1; subst h1; exact Nat.zero_le _
    · exact ih x hx
theorem fidx_hit {α : Type} {p : α → Bool} {z : α} : ∀ {l : List α} {k : Nat}, k ≤ l.findIdx p → k < l.length → p (l.getD k z) = true → l.findIdx p = k
  | [], k, _, h, _ => absurd h (Nat.not_lt_zero _)
  | x :: l, 0, _, _, h => by rw [List.findIdx_cons]; rw [List.getD_cons_zero] at h; rw [h]; rfl
  | x :: l, k + 1, hk, hl, h => by
    rw [List.findIdx_cons] at hk ⊢
    cases hx : p x with
    | true => rw [hx] at hk; exact absurd hk (by simp)
    | false =>
      rw [hx] at hk
      simp only [cond_false] at hk ⊢
      rw [fidx_hit (p := p) (l := l) (k := k) (z := z) (by omega) (by simpa using hl) (by rw [List.getD_cons_succ] at h; exact h)]
theorem fidx_miss {α : Type} {p : α → Bool} {z : α} : ∀ {l : List α} {k : Nat}, k ≤ l.findIdx p → k < l.length → p (l.getD k z) = false → k + 1 ≤ l.findIdx p
  | [], k, _, h, _ => absurd h (Nat.not_lt_zero _)
  | x :: l, 0, _, _, h => by rw [List.findIdx_cons]; rw [List.getD_cons_zero] at h; rw [h]; simp
  | x :: l, k + 1, hk, hl, h => by
    rw [List.findIdx_cons] at hk ⊢
    cases hx : p x with
    | true => rw [hx] at hk; exact absurd hk (by simp)
    | false =>
      rw [hx] at hk
      simp only [cond_false] at hk ⊢
      have := fidx_miss (p := p) (l := l) (z := z) (k := k) (by omega) (by simpa using hl) (by rw [List.getD_cons_succ] at h; exact h)
      omega
theorem mem_add {o : Int} {l : List Rd} {i : Int} {nn : Bool} {text key : ByteArray} {r : Rd} (h : r ∈ addR o l i nn text key) : r.text = text ∨ ∃ x ∈ l, r.text = x.text := by
  have he : ∀ x ∈ ensR l (l.findIdx (sameR o nn key)) nn text, x.text = text ∨ ∃ y ∈ l, x.text = y.text := fun x hx => by
    unfold ensR at hx
    split at hx
    · rcases List.mem_append.mp hx with h1 | h1
      · exact .inr ⟨x, h1, rfl⟩
      · rw [List.mem_singleton] at h1; subst h1; exact .inl rfl
    · exact .inr ⟨x, hx, rfl⟩
  unfold addR pushW at h
  rcases List.mem_or_eq_of_mem_set h with h1 | h1
  · exact he r h1
  · subst h1
    exact he ((ensR l (l.findIdx (sameR o nn key)) nn text).getD (l.findIdx (sameR o nn key)) rd0) (getD_mem' _ (ens_len l _ nn text List.findIdx_le_length).1)
theorem read_text (t : Tab) (c : Nat) (o : Int) (B : Nat) : ∀ n, (∀ j, j < n → (textAt t c j).size ≤ B) → ∀ r ∈ readE t c o n, r.text.size ≤ B
  | 0, _, r, h => by cases h
  | n + 1, hb, r, h => by
    rcases mem_add h with h1 | ⟨x, hx, h1⟩
    · rw [h1]; exact hb n (by omega)
    · rw [h1]; exact read_text t c o B n (fun j hj => hb j (by omega)) x hx
/-! ### readings as nested rows -/
theorem rdM_nil (g : Nat → Nat → AV) (gg : Nat → Nat → Nat → AV) (len : Nat → Nat) : MOle (.mat 62 3 0 g 2 3 1 len gg none) (rdM []) :=
  MOle.mat' rfl (fun i j hi => absurd hi (Nat.not_lt_zero _)) (fun i hi => absurd hi (Nat.not_lt_zero _))
theorem rdM_app (l : List Rd) (nn : Bool) (text : ByteArray) (g : Nat → Nat → AV) (h0 : Le (g 0 0) (.bool nn)) (h1 : Le (g 0 1) (.str text)) :
    MOle (.mat 62 3 (l.length + 1) (joinRow l.length (rdG l) g) 2 3 1 (fun i => if i < l.length then rdN l i else 0) (fun i => if i < l.length then rdW l i else fun _ _ => .u) none) (rdM (l ++ [⟨nn, text, []⟩])) := by
  have ha : ∀ i, i < l.length → (l ++ [(⟨nn, text, []⟩ : Rd)]).getD i rd0 = l.getD i rd0 := fun i hi => getD_app1 hi
  have hz : (l ++ [(⟨nn, text, []⟩ : Rd)]).getD l.length rd0 = ⟨nn, text, []⟩ := getD_app2
  refine MOle.mat' (by simp) (fun i j hi hj hne => ?_) (fun i hi _ => ?_)
  · unfold joinRow rdG
    by_cases hil : i < l.length
    · rw [if_pos hil, ha i hil]; exact Le.refl _
    · obtain rfl : i = l.length := by omega
      rw [if_neg hil, hz, Nat.sub_self]
      match j, hj, hne with
      | 0, _, _ => exact h0
      | 1, _, _ => exact h1
      | 2, _, h => exact absurd rfl h
  · unfold rdN rdW
    by_cases hil : i < l.length
    · rw [if_pos hil, if_pos hil, ha i hil]
      exact ⟨rfl, fun _ _ _ _ => Le.refl _⟩
    · obtain rfl : i = l.length := by omega
      rw [if_neg hil, if_neg hil, hz]
      exact ⟨rfl, fun a b ha' => absurd ha' (Nat.not_lt_zero _)⟩
theorem rdM_push (l : List Rd) (k : Nat) (i : Int) (hk : k < l.length) (g : Nat → Nat → AV) (hg : g 0 0 = .int .i64 i) :
    MOle (.mat 62 3 l.length (rdG l) 2 3 1 (updIn (rdN l) k (rdN l k + 1)) (updIn (rdW l) k (joinRow (rdN l k) (rdW l k) g)) none) (rdM (pushW l k i)) := by
  have ho : ∀ j, j ≠ k → (pushW l k i).getD j rd0 = l.getD j rd0 := fun j hj => by unfold pushW; simp [List.getD, List.getElem?_set_ne (Ne.symm hj)]
  have hs : (pushW l k i).getD k rd0 = ⟨(l.getD k rd0).none, (l.getD k rd0).text, (l.getD k rd0).wits ++ [i]⟩ := by unfold pushW; rw [List.getD, List.getElem?_set_self hk]; rfl
  refine MOle.mat' (push_len l k i).symm (fun j c hj hc hne => ?_) (fun j hj _ => ?_)
  · unfold rdG
    by_cases e : j = k
    · subst e; rw [hs]; exact Le.refl _
    · rw [ho j e]; exact Le.refl _
  · unfold updIn
    by_cases e : j = k
    · subst e
      rw [if_pos rfl, if_pos rfl]
      unfold rdN rdW
      rw [hs]
      refine ⟨by simp, fun a b ha hb => ?_⟩
      obtain rfl : b = 0 := by omega
      unfold joinRow Ty.G
      by_cases hal : a < (l.getD j rd0).wits.length
      · rw [if_pos hal]
        rw [getD_app1 hal]; exact Le.refl _
      · rw [if_neg hal]
        obtain rfl : a = (l.getD j rd0).wits.length := by omega
        rw [getD_app2, Nat.sub_self, hg]; exact Le.refl _
    · rw [if_neg e, if_neg e]
      unfold rdN rdW
      rw [ho j e]
      exact ⟨rfl, fun _ _ _ _ => Le.refl _⟩
/-- Readings handed back. -/
theorem rdM_out (l : List Rd) : Le (.sl l.length 3 (fun i j => cond (Nat.beq j 2) (.sl (rdN l i) 1 (rdW l i)) (rdG l i j))) (tRd.L l) :=
  Le.sl (fun i j hi hj => by
    match j, hj with
    | 0, _ => exact Le.refl _
    | 1, _ => exact Le.refl _
    | 2, _ => exact Le.refl _)
end Go.Proofs.YteklnpgiloebcaaGreatDoor.V

namespace Go.Proofs.YteklnpgiloebcaaGreatDoor.V
set_option linter.unusedVariables false
set_option linter.unusedSimpArgs false
open Go Go.Proofs Go.RowKit
set_option maxRecDepth 100000
set_option maxHeartbeats 4000000
open Go Go.Proofs Go.Proofs.YteklnpgiloebcaaGreatDoor.V
theorem bytesG_join2 (e : Nat) (t a b : ByteArray) : MOle (.row e 1 (t.size + a.size + b.size) (joinRow (t.size + a.size) (joinRow t.size (bytesG t) (fun i _ => .int .u8 (bt a i))) (fun i _ => .int .u8 (bt b i)))) (.row e 1 (t ++ (a ++ b)).size (bytesG (t ++ (a ++ b)))) := by
  refine ⟨rfl, rfl, by simp [Nat.add_assoc], fun i j hi hj => ?_⟩
  unfold joinRow bytesG
  rw [bt_app, bt_app]
  by_cases hc : i < t.size
  · rw [if_pos (by omega), if_pos hc, if_pos hc]; exact Le.refl _
  · rw [if_neg hc, if_neg hc]
    by_cases hc2 : i < t.size + a.size
    · rw [if_pos hc2, if_pos (by omega)]; exact Le.refl _
    · rw [if_neg hc2, if_neg (by omega), Nat.sub_sub]; exact Le.refl _
theorem join20_fn (s : ByteArray) (l : List Wrd) (hl : l.length ≤ 1000000000) (hs : s.size + (catW l).size ≤ 1000000000000) : Fn Tryz.prog 71 [.str s, tWrd.L l] (.str (s ++ catW l)) := by
  refine Fn.of Tryz.f71 _ Tryz.func71 rfl (by decide) (by show 2 ≤ _; decide) tbOk 31 rfl fun S w0 gl => ?_
  refine Run.go ?_; (conv => whnf); repeat' (first | ((with_reducible refine Know.mk fun _ => ?_); conv => whnf) | ((with_reducible refine Need.mk ?_ ?_); exact nd; conv => whnf) | ((with_reducible first | refine Both.mk ?_ ?_ | refine Any.mk fun b hb => ?_ | refine AskB.dec (fun hb => ?_) (fun hb => ?_) | refine AskB.ndec (fun hb => ?_) (fun hb => ?_) | refine AskB.mk (fun hb => ?_) (fun hb => ?_)) <;> conv => whnf) | ((with_reducible first | refine Run.drawX rfl (by decide +kernel) ?_ | refine Run.drawT rfl (by decide +kernel) ?_ | refine Run.drawW rfl (by decide +kernel) ?_); conv => whnf) | fail)
  refine Run.toBytesR (d := 8) (e := 5) s rfl rfl rfl rfl rfl rfl (by kernel_rfl) (by kernel_rfl) (by kernel_rfl) ?_
  refine Run.go ?_; (conv => whnf); repeat' (first | ((with_reducible refine Know.mk fun _ => ?_); conv => whnf) | ((with_reducible refine Need.mk ?_ ?_); exact nd; conv => whnf) | ((with_reducible first | refine Both.mk ?_ ?_ | refine Any.mk fun b hb => ?_ | refine AskB.dec (fun hb => ?_) (fun hb => ?_) | refine AskB.ndec (fun hb => ?_) (fun hb => ?_) | refine AskB.mk (fun hb => ?_) (fun hb => ?_)) <;> conv => whnf) | ((with_reducible first | refine Run.drawX rfl (by decide +kernel) ?_ | refine Run.drawT rfl (by decide +kernel) ?_ | refine Run.drawW rfl (by decide +kernel) ?_); conv => whnf) | fail)
  refine Run.hold (z := 8) 5 1000 (by rfl) (by rfl) (by rfl) ?_
  have hT : ∀ i, (s ++ catW (l.take i)).size ≤ 1000000000000 := fun i => by
    have h1 := catW_takeLe l i
    rw [ByteArray.size_append]; omega
  refine Run.loop [1] (fun (i : Nat) => [(5, .row 1000), (6, .int .i64 (i : Int))]) (fun i => [(1000, .row 5 1 (s ++ catW (l.take i)).size (bytesG (s ++ catW (l.take i))))]) (fun i => i ≤ l.length) (fun i => l.length - i) 0 (Nat.zero_le _) ⟨Le.refl _, Le.refl _, trivial⟩ ⟨?_, trivial⟩ ?_
  · have : s = s ++ catW (l.take 0) := by simp [catW]
    rw [← this]; exact MOle.refl _
  intro i hi IH
  have hw1 : IntKind.i64.wrap ((i : Int) + 1) = ((i + 1 : Nat) : Int) := wrap64 (by omega) (by omega)
  have hTi := hT i
  have hTj := hT (i + 1)
  have hwi : i < l.length → (l.getD (i : Int).toNat tWrd.z).text.size + (l.getD (i : Int).toNat tWrd.z).tail.size ≤ 1000000000000 := fun hil => by
    simp only [Int.toNat_natCast]
    have h1 := catW_takeLe l (i + 1)
    rw [catW_take l i hil, ByteArray.size_append, ByteArray.size_append] at h1
    omega
  generalize hX : s ++ catW (l.take i) = X at hTi ⊢
  by_cases hil : i < l.length
  · have hwj := hwi hil
    refine Run.go ?_; (conv => whnf); repeat' (first | ((with_reducible refine Know.mk fun _ => ?_); conv => whnf) | ((with_reducible refine Need.mk ?_ ?_); exact nd; conv => whnf) | ((with_reducible first | refine Both.mk ?_ ?_ | refine Any.mk fun b hb => ?_ | refine AskB.dec (fun hb => ?_) (fun hb => ?_) | refine AskB.ndec (fun hb => ?_) (fun hb => ?_) | refine AskB.mk (fun hb => ?_) (fun hb => ?_)) <;> conv => whnf) | ((with_reducible first | refine Run.drawX rfl (by decide +kernel) ?_ | refine Run.drawT rfl (by decide +kernel) ?_ | refine Run.drawW rfl (by decide +kernel) ?_); conv => whnf) | fail)
    all_goals try (exfalso; omega)
    refine Run.hold (z := 28) 5 1000 (by rfl) (by rfl) (by rfl) ?_
    refine Run.to _ _ ?_ ?_ (IH (i + 1) (by omega) (by omega))
    · exact ⟨Le.refl _, Le.refl _, Le.int hw1, trivial⟩
    · refine ⟨?_, trivial⟩
      rw [catW_take l i hil, ← ByteArray.append_assoc, hX]
      exact bytesG_join2 5 X _ _
  · obtain rfl : i = l.length := by omega
    rw [List.take_length] at hX
    refine Run.go ?_; (conv => whnf); repeat' (first | ((with_reducible refine Know.mk fun _ => ?_); conv => whnf) | ((with_reducible refine Need.mk ?_ ?_); exact nd; conv => whnf) | ((with_reducible first | refine Both.mk ?_ ?_ | refine Any.mk fun b hb => ?_ | refine AskB.dec (fun hb => ?_) (fun hb => ?_) | refine AskB.ndec (fun hb => ?_) (fun hb => ?_) | refine AskB.mk (fun hb => ?_) (fun hb => ?_)) <;> conv => whnf) | ((with_reducible first | refine Run.drawX rfl (by decide +kernel) ?_ | refine Run.drawT rfl (by decide +kernel) ?_ | refine Run.drawW rfl (by decide +kernel) ?_); conv => whnf) | fail)
    all_goals try (exfalso; omega)
    refine Run.rowStr (x := .tmp 29) (src := 75) (dst := 9) (e := 5) (q := 1000) X rfl rfl rfl rfl rfl rfl rfl (fun _ _ => rfl) (by kernel_rfl) (by kernel_rfl) (by kernel_rfl) ?_
    refine Run.go ?_; (conv => whnf); repeat' (first | ((with_reducible refine Know.mk fun _ => ?_); conv => whnf) | ((with_reducible refine Need.mk ?_ ?_); exact nd; conv => whnf) | ((with_reducible first | refine Both.mk ?_ ?_ | refine Any.mk fun b hb => ?_ | refine AskB.dec (fun hb => ?_) (fun hb => ?_) | refine AskB.ndec (fun hb => ?_) (fun hb => ?_) | refine AskB.mk (fun hb => ?_) (fun hb => ?_)) <;> conv => whnf) | ((with_reducible first | refine Run.drawX rfl (by decide +kernel) ?_ | refine Run.drawT rfl (by decide +kernel) ?_ | refine Run.drawW rfl (by decide +kernel) ?_); conv => whnf) | fail)
    exact Run.leave (ts := [4]) (.inr ⟨_, rfl⟩) rfl Tryz.func71 rfl (Le.str hX.symm)
theorem right_long {hd : ByteArray} {l : List Wrd} (h : 65536 < hd.size + (catW l).size ∨ 1024 < l.length) : rightB hd l = false := by
  unfold rightB
  refine decide_eq_false (fun e => ?_)
  have hf := wordsOf_few (hd ++ catW l)
  rcases h with h | h
  · rw [wordsOf_long (by rw [ByteArray.size_append]; exact h)] at e
    cases e
  · rw [e] at hf; simp only at hf; omega
theorem right21_fn (hd : ByteArray) (l : List Wrd) (hf : FitW hd l) : Fn Tryz.prog 50 [.str hd, tWrd.L l] (.bool (rightB hd l)) := by
  refine Fn.of Tryz.f50 _ Tryz.func50 rfl (by decide) (by show 2 ≤ _; decide) tbOk 64 rfl fun S w0 gl => ?_
  obtain ⟨hl, hs⟩ := hf
  refine Run.go ?_; (conv => whnf); repeat' (first | ((with_reducible refine Know.mk fun _ => ?_); conv => whnf) | ((with_reducible refine Need.mk ?_ ?_); exact nd; conv => whnf) | ((with_reducible first | refine Both.mk ?_ ?_ | refine Any.mk fun b hb => ?_ | refine AskB.dec (fun hb => ?_) (fun hb => ?_) | refine AskB.ndec (fun hb => ?_) (fun hb => ?_) | refine AskB.mk (fun hb => ?_) (fun hb => ?_)) <;> conv => whnf) | ((with_reducible first | refine Run.drawX rfl (by decide +kernel) ?_ | refine Run.drawT rfl (by decide +kernel) ?_ | refine Run.drawW rfl (by decide +kernel) ?_); conv => whnf) | fail)
  refine Run.loop [0, 1] (fun (i : Nat) => [(5, .int .i64 ((hd.size + (catW (l.take i)).size : Nat) : Int)), (6, .int .i64 (i : Int))]) (fun _ => []) (fun i => i ≤ l.length) (fun i => l.length - i) 0 (Nat.zero_le _) ⟨Le.int (by simp [catW]), Le.refl _, trivial⟩ trivial ?_
  intro i hi IH
  have hw1 : IntKind.i64.wrap ((i : Int) + 1) = ((i + 1 : Nat) : Int) := wrap64 (by omega) (by omega)
  have hTi := catW_takeLe l i
  have hTj := catW_takeLe l (i + 1)
  have hnx : i < l.length → (catW (l.take (i + 1))).size = (catW (l.take i)).size + ((l.getD i tWrd.z).text.size + (l.getD i tWrd.z).tail.size) := fun h => by
    rw [catW_take l i h, ByteArray.size_append, ByteArray.size_append]
  apply Run.cutAt (A := fun CC kk => hd.size + (catW l).size ≤ 65536 → l.length ≤ 1024 → Run CC kk (lst [(0, .str hd), (1, tWrd.L l), (45, .str hd), (46, tWrd.L l)]) (lstH []))
  · intro HA
    refine Run.go ?_; (conv => whnf); repeat' (first | ((with_reducible refine Know.mk fun _ => ?_); conv => whnf) | ((with_reducible refine Need.mk ?_ ?_); exact nd; conv => whnf) | ((with_reducible first | refine Both.mk ?_ ?_ | refine Any.mk fun b hb => ?_ | refine AskB.dec (fun hb => ?_) (fun hb => ?_) | refine AskB.ndec (fun hb => ?_) (fun hb => ?_) | refine AskB.mk (fun hb => ?_) (fun hb => ?_)) <;> conv => whnf) | ((with_reducible first | refine Run.drawX rfl (by decide +kernel) ?_ | refine Run.drawT rfl (by decide +kernel) ?_ | refine Run.drawW rfl (by decide +kernel) ?_); conv => whnf) | fail)
    case _ =>
      have hil : i < l.length := by omega
      have hnx := hnx hil
      refine Run.to _ _ ?_ ?_ (IH (i + 1) (by omega) (by omega))
      · exact ⟨Le.refl _, Le.refl _, Le.int (by rw [wrap64 (x := (((l.getD (i : Int).toNat tWrd.z).text.size : Nat) : Int) + _) (by simp only [Int.toNat_natCast]; omega) (by simp only [Int.toNat_natCast]; omega)]; rw [wrap64 (by simp only [Int.toNat_natCast]; omega) (by simp only [Int.toNat_natCast]; omega)]; simp only [Int.toNat_natCast]; omega), Le.int hw1, trivial⟩
      · trivial
    all_goals try (
      have hbig : 65536 < hd.size + (catW l).size ∨ 1024 < l.length := by omega
      rw [right_long hbig]
      exact Run.leave (ts := [4]) (.inr ⟨_, rfl⟩) rfl Tryz.func50 rfl Le.ff)
    all_goals
      obtain rfl : i = l.length := by omega
      rw [List.take_length] at *
      refine Run.to _ _ ?_ ?_ (HA (by omega) (by omega))
      · exact ⟨Le.refl _, Le.refl _, Le.refl _, Le.refl _, trivial⟩
      · trivial
  intro h1 h2
  refine Run.callBX (join20_fn hd l hl hs) rfl rfl ⟨Le.refl _, Le.refl _, trivial⟩ rfl rfl rfl ?_
  (conv => whnf); repeat' (first | ((with_reducible refine Know.mk fun _ => ?_); conv => whnf) | ((with_reducible refine Need.mk ?_ ?_); exact nd; conv => whnf) | ((with_reducible first | refine Both.mk ?_ ?_ | refine Any.mk fun b hb => ?_ | refine AskB.dec (fun hb => ?_) (fun hb => ?_) | refine AskB.ndec (fun hb => ?_) (fun hb => ?_) | refine AskB.mk (fun hb => ?_) (fun hb => ?_)) <;> conv => whnf) | ((with_reducible first | refine Run.drawX rfl (by decide +kernel) ?_ | refine Run.drawT rfl (by decide +kernel) ?_ | refine Run.drawW rfl (by decide +kernel) ?_); conv => whnf) | fail)
  refine Run.callBX (words16_fn (hd ++ catW l)) rfl rfl ⟨Le.refl _, trivial⟩ rfl rfl rfl ?_
  have hfew := wordsOf_few (hd ++ catW l)
  unfold rightB
  unfold wordsL
  generalize wordsOf (hd ++ catW l) = W at *
  (conv => whnf); repeat' (first | ((with_reducible refine Know.mk fun _ => ?_); conv => whnf) | ((with_reducible refine Need.mk ?_ ?_); exact nd; conv => whnf) | ((with_reducible first | refine Both.mk ?_ ?_ | refine Any.mk fun b hb => ?_ | refine AskB.dec (fun hb => ?_) (fun hb => ?_) | refine AskB.ndec (fun hb => ?_) (fun hb => ?_) | refine AskB.mk (fun hb => ?_) (fun hb => ?_)) <;> conv => whnf) | ((with_reducible first | refine Run.drawX rfl (by decide +kernel) ?_ | refine Run.drawT rfl (by decide +kernel) ?_ | refine Run.drawW rfl (by decide +kernel) ?_); conv => whnf) | fail)
  · refine Run.callBX (same17_fn W.1.2 l (by omega)) rfl rfl ⟨Le.refl _, Le.refl _, trivial⟩ rfl rfl rfl ?_
    (conv => whnf); repeat' (first | ((with_reducible refine Know.mk fun _ => ?_); conv => whnf) | ((with_reducible refine Need.mk ?_ ?_); exact nd; conv => whnf) | ((with_reducible first | refine Both.mk ?_ ?_ | refine Any.mk fun b hb => ?_ | refine AskB.dec (fun hb => ?_) (fun hb => ?_) | refine AskB.ndec (fun hb => ?_) (fun hb => ?_) | refine AskB.mk (fun hb => ?_) (fun hb => ?_)) <;> conv => whnf) | ((with_reducible first | refine Run.drawX rfl (by decide +kernel) ?_ | refine Run.drawT rfl (by decide +kernel) ?_ | refine Run.drawW rfl (by decide +kernel) ?_); conv => whnf) | fail)
    refine Run.leave (ts := [4]) (.inr ⟨_, rfl⟩) rfl Tryz.func50 rfl (Le.bool ?_)
    obtain ⟨⟨w1, w2⟩, w3⟩ := W
    simp only at hb
    have h3 : w3 = 0 := by assumption
    have h1 : w1 = hd := by assumption
    subst h3; subst h1; simp
  all_goals
    refine Run.leave (ts := [4]) (.inr ⟨_, rfl⟩) rfl Tryz.func50 rfl (Le.ff.trans (Le.bool ?_))
    symm
    refine decide_eq_false (fun e => ?_)
    subst e
    first | exact absurd rfl hb | exact absurd rfl ‹_›
end Go.Proofs.YteklnpgiloebcaaGreatDoor.V

namespace Go.Proofs.YteklnpgiloebcaaGreatDoor.V
set_option linter.unusedVariables false
set_option linter.unusedSimpArgs false
open Go Go.Proofs Go.RowKit
set_option maxRecDepth 100000
set_option maxHeartbeats 4000000
theorem sumN_ge {t : Tab} {c i : Nat} (hcc : c < t.cols.length) : sumN t c 0 ≤ sumN t c i := sumR_le _ (fun j hj => by
  unfold nx
  rw [if_neg (Nat.not_lt_zero _)]
  split
  · rw [cnt_take _ _ _ hcc]; omega
  · exact Nat.le_refl _)
theorem col_some {t : Tab} {c : Nat} (h : sumN t c 0 < sumN t c t.wits.length) (hcc : c < t.cols.length) : ∃ k, k < t.wits.length ∧ atC t c k ≠ -1 := by
  refine Classical.byContradiction fun hno' => ?_
  have hall : ∀ k, k < t.wits.length → atC t c k = -1 := fun k hk => Classical.byContradiction fun h => hno' ⟨k, hk, h⟩
  have hz : ∀ n, n ≤ t.wits.length → sumN t c n = sumN t c 0 := fun n => by
    induction n with
    | zero => intro _; rfl
    | succ n ih => intro h; rw [sumN_none hcc (hall n (by omega)), ih (by omega)]
  have := hz _ (Nat.le_refl _)
  omega
theorem check12_fn (t : Tab) (hf : FitT t) : Fn Tryz.prog 26 [tbA t] (.int .i64 (chkT t)) := by
  refine Fn.of Tryz.f26 _ Tryz.func26 rfl (by decide) (by show 1 ≤ _; decide) tbOk 138 rfl fun S w0 gl => ?_
  have hno : ∀ {P : Prop}, (OkT t → ¬ P) → P → chkT t = 121 := fun h p => chk_no (fun o => h o p)
  have hfw := hf.wits
  have hfc := hf.cols
  refine Run.go ?_; (conv => whnf); repeat' (first | ((with_reducible refine Know.mk fun _ => ?_); conv => whnf) | ((with_reducible refine Need.mk ?_ ?_); exact nd; conv => whnf) | ((with_reducible first | refine Both.mk ?_ ?_ | refine Any.mk fun b hb => ?_ | refine AskB.dec (fun hb => ?_) (fun hb => ?_) | refine AskB.ndec (fun hb => ?_) (fun hb => ?_) | refine AskB.mk (fun hb => ?_) (fun hb => ?_)) <;> conv => whnf) | ((with_reducible first | refine Run.drawX rfl (by decide +kernel) ?_ | refine Run.drawT rfl (by decide +kernel) ?_ | refine Run.drawW rfl (by decide +kernel) ?_); conv => whnf) | fail)
  · exact Run.leave (ts := [2]) (.inr ⟨_, rfl⟩) rfl Tryz.func26 rfl (Le.int (hno (fun o h => by have := o.n1; omega) hb).symm)
  · exact Run.leave (ts := [2]) (.inr ⟨_, rfl⟩) rfl Tryz.func26 rfl (Le.int (hno (fun o h => by have := o.n12; omega) hb).symm)
  · exact Run.leave (ts := [2]) (.inr ⟨_, rfl⟩) rfl Tryz.func26 rfl (Le.int (hno (fun o h => by have := o.nc; omega) hb).symm)
  have hn1 : 1 ≤ t.wits.length := by omega
  have hn12 : t.wits.length ≤ 12 := by omega
  have hnc : t.cols.length ≤ 4096 := by omega
  have htl := tot_le hf
  have hrow0 : ∀ n : Int, n = t.wits.length → MOle (.row 3 1 n.toNat (fun i j => [AV.int IntKind.i64 0].getD j .u)) (tI.R 3 (nextL t 0 0)) := fun n hn => by
    subst hn
    rw [nextL_zero]
    refine ⟨rfl, rfl, by simp, fun i j hi hj => ?_⟩
    obtain rfl : j = 0 := by have : j < 1 := hj; omega
    refine Le.int ?_
    have hi' : i < t.wits.length := by simpa using hi
    rw [List.getD, List.getElem?_replicate, if_pos hi']; rfl
  refine Run.loop [3, 4] (fun (i : Nat) => [(1, .box 1 0), (5, .int .i64 (i : Int))]) (fun i => [(1, .box 35 [tWit.L t.wits, tIL.L t.cols]), (29, tI.R 3 (nextL t 0 0))])
    (fun i => i ≤ t.wits.length ∧ (∀ k, k < i → WitOk t k)) (fun i => t.wits.length - i) 0 ⟨Nat.zero_le _, fun i hi => absurd hi (Nat.not_lt_zero _)⟩
    ⟨Le.refl _, Le.refl _, trivial⟩ ⟨MOle.refl _, hrow0 _ rfl, trivial⟩ ?_
  intro i ⟨hi, hwk⟩ IH
  have hwi : IntKind.i64.wrap ((i : Int) + 1) = ((i + 1 : Nat) : Int) := wrap64 (by omega) (by omega)
  show Run _ _ (lst (_ ++ [(1, .box 1 0), (5, .int .i64 (i : Int))])) (lstH [(1, .box 35 [tWit.L t.wits, tIL.L t.cols]), (29, tI.R 3 (nextL t 0 0))])
  refine Run.go ?_; (conv => whnf); repeat' (first | ((with_reducible refine Know.mk fun _ => ?_); conv => whnf) | ((with_reducible refine Need.mk ?_ ?_); exact nd; conv => whnf) | ((with_reducible first | refine Both.mk ?_ ?_ | refine Any.mk fun b hb => ?_ | refine AskB.dec (fun hb => ?_) (fun hb => ?_) | refine AskB.ndec (fun hb => ?_) (fun hb => ?_) | refine AskB.mk (fun hb => ?_) (fun hb => ?_)) <;> conv => whnf) | ((with_reducible first | refine Run.drawX rfl (by decide +kernel) ?_ | refine Run.drawT rfl (by decide +kernel) ?_ | refine Run.drawW rfl (by decide +kernel) ?_); conv => whnf) | fail)
  · have hil : i < t.wits.length := by omega
    have hwt := hf.wit (witAt t i) (getD_mem' i hil)
    refine Run.callBX (name_fn (witAt t i).name) rfl rfl ⟨Le.refl _, trivial⟩ rfl rfl rfl ?_
    (conv => whnf); repeat' (first | ((with_reducible refine Know.mk fun _ => ?_); conv => whnf) | ((with_reducible refine Need.mk ?_ ?_); exact nd; conv => whnf) | ((with_reducible first | refine Both.mk ?_ ?_ | refine Any.mk fun b hb => ?_ | refine AskB.dec (fun hb => ?_) (fun hb => ?_) | refine AskB.ndec (fun hb => ?_) (fun hb => ?_) | refine AskB.mk (fun hb => ?_) (fun hb => ?_)) <;> conv => whnf) | ((with_reducible first | refine Run.drawX rfl (by decide +kernel) ?_ | refine Run.drawT rfl (by decide +kernel) ?_ | refine Run.drawW rfl (by decide +kernel) ?_); conv => whnf) | fail)
    · refine Run.callBX (right21_fn (witAt t i).head (witAt t i).words hwt.1) rfl rfl ⟨Le.refl _, Le.refl _, trivial⟩ rfl rfl rfl ?_
      (conv => whnf); repeat' (first | ((with_reducible refine Know.mk fun _ => ?_); conv => whnf) | ((with_reducible refine Need.mk ?_ ?_); exact nd; conv => whnf) | ((with_reducible first | refine Both.mk ?_ ?_ | refine Any.mk fun b hb => ?_ | refine AskB.dec (fun hb => ?_) (fun hb => ?_) | refine AskB.ndec (fun hb => ?_) (fun hb => ?_) | refine AskB.mk (fun hb => ?_) (fun hb => ?_)) <;> conv => whnf) | ((with_reducible first | refine Run.drawX rfl (by decide +kernel) ?_ | refine Run.drawT rfl (by decide +kernel) ?_ | refine Run.drawW rfl (by decide +kernel) ?_); conv => whnf) | fail)
      · have hk : ¬ WitOk t i := fun h => by rw [h.2.1] at hb; cases hb
        exact Run.leave (ts := [2]) (.inr ⟨_, rfl⟩) rfl Tryz.func26 rfl (Le.int (hno (fun o h => h (o.wit i hil)) hk).symm)
      · have hrt : rightB (witAt t i).head (witAt t i).words = true := by simpa using hb
        have hnm : NameOk (witAt t i).name := by assumption
        refine Run.loop [3, 4, 5] (fun (k : Nat) => [(1, .box 1 0), (6, .box 6 0), (7, .int .i64 (k : Int))]) (fun k => [(1, .box 35 [tWit.L t.wits, tIL.L t.cols]), (29, tI.R 3 (nextL t 0 0)), (6, .box 44 [.str (witAt t i).name, .u, .u])])
          (fun k => k ≤ i ∧ ∀ j, j < k → (witAt t j).name ≠ (witAt t i).name) (fun k => i - k) 0 ⟨Nat.zero_le _, fun i hi => absurd hi (Nat.not_lt_zero _)⟩ ⟨Le.refl _, Le.refl _, Le.refl _, trivial⟩ ⟨MOle.refl _, MOle.refl _, ⟨rfl, rfl, fun j x y hx hy => ?_⟩, trivial⟩ ?_
        · match j, hx, hy with
          | 0, hx, hy => cases hx; cases hy; exact Le.refl _
          | 1, hx, hy => cases hy; exact Le.u _
          | 2, hx, hy => cases hy; exact Le.u _
        intro k ⟨hk, hne⟩ IHk
        have hwk2 : IntKind.i64.wrap ((k : Int) + 1) = ((k + 1 : Nat) : Int) := wrap64 (by omega) (by omega)
        show Run _ _ (lst (_ ++ [(1, .box 1 0), (6, .box 6 0), (7, .int .i64 (k : Int))])) (lstH [(1, .box 35 [tWit.L t.wits, tIL.L t.cols]), (29, tI.R 3 (nextL t 0 0)), (6, .box 44 [.str (witAt t i).name, .u, .u])])
        have hin : (k : Int) < i → (k : Int) < t.wits.length := fun h => by omega
        refine Run.go ?_; (conv => whnf); repeat' (first | ((with_reducible refine Know.mk fun _ => ?_); conv => whnf) | ((with_reducible refine Need.mk ?_ ?_); exact nd; conv => whnf) | ((with_reducible first | refine Both.mk ?_ ?_ | refine Any.mk fun b hb => ?_ | refine AskB.dec (fun hb => ?_) (fun hb => ?_) | refine AskB.ndec (fun hb => ?_) (fun hb => ?_) | refine AskB.mk (fun hb => ?_) (fun hb => ?_)) <;> conv => whnf) | ((with_reducible first | refine Run.drawX rfl (by decide +kernel) ?_ | refine Run.drawT rfl (by decide +kernel) ?_ | refine Run.drawW rfl (by decide +kernel) ?_); conv => whnf) | fail)
        · have hd : (witAt t k).name = (witAt t i).name := hb
          have hki : k < i := by omega
          have hkk : ¬ WitOk t i := fun h => h.2.2 k hki hd
          exact Run.leave (ts := [2]) (.inr ⟨_, rfl⟩) rfl Tryz.func26 rfl (Le.int (hno (fun o h => h (o.wit i hil)) hkk).symm)
        · have hd : ¬ (witAt t k).name = (witAt t i).name := hb
          refine Run.to _ _ ?_ ?_ (IHk (k + 1) (by omega) ⟨by omega, fun j hj => ?_⟩)
          · exact ⟨Le.refl _, Le.refl _, Le.refl _, Le.refl _, Le.refl _, Le.int hwk2, trivial⟩
          · exact ⟨MOle.refl _, MOle.refl _, MOle.refl _, trivial⟩
          · by_cases e : j = k
            · subst e; exact hd
            · exact hne j (by omega)
        · have hok : WitOk t i := ⟨hnm, hrt, fun j hj => hne j (by omega)⟩
          refine Run.to _ _ ?_ ?_ (IH (i + 1) (by omega) ⟨by omega, fun k hk => ?_⟩)
          · exact ⟨Le.refl _, Le.refl _, Le.refl _, Le.int hwi, trivial⟩
          · exact ⟨MOle.refl _, MOle.refl _, trivial⟩
          · by_cases e : k = i
            · subst e; exact hok
            · exact hwk k (by omega)
    · have hk : ¬ WitOk t i := fun h => hb h.1
      exact Run.leave (ts := [2]) (.inr ⟨_, rfl⟩) rfl Tryz.func26 rfl (Le.int (hno (fun o h => h (o.wit i hil)) hk).symm)
  obtain rfl : i = t.wits.length := by omega
  clear IH
  refine Run.loop [3, 4] (fun (c : Nat) => [(1, .box 1 0), (8, .int .i64 (c : Int))]) (fun c => [(1, .box 35 [tWit.L t.wits, tIL.L t.cols]), (29, tI.R 3 (nextL t c 0))])
    (fun c => c ≤ t.cols.length ∧ (∀ k, k < c → ColOk t k) ∧ LeT t c 0) (fun c => t.cols.length - c) 0 ⟨Nat.zero_le _, fun i hi => absurd hi (Nat.not_lt_zero _), fun j hj => by simp [nx, cnt]⟩
    ⟨Le.refl _, Le.refl _, trivial⟩ ⟨MOle.refl _, MOle.refl _, trivial⟩ ?_
  intro c ⟨hc, hck, hle⟩ IH
  have hwc : IntKind.i64.wrap ((c : Int) + 1) = ((c + 1 : Nat) : Int) := wrap64 (by omega) (by omega)
  show Run _ _ (lst (_ ++ [(1, .box 1 0), (8, .int .i64 (c : Int))])) (lstH [(1, .box 35 [tWit.L t.wits, tIL.L t.cols]), (29, tI.R 3 (nextL t c 0))])
  refine Run.go ?_; (conv => whnf); repeat' (first | ((with_reducible refine Know.mk fun _ => ?_); conv => whnf) | ((with_reducible refine Need.mk ?_ ?_); exact nd; conv => whnf) | ((with_reducible refine Both.mk ?_ ?_) <;> conv => whnf) | ((with_reducible refine Any.mk fun b hb => ?_); conv => whnf) | ((with_reducible first | refine AskB.dec (fun hb => ?_) (fun hb => ?_) | refine AskB.ndec (fun hb => ?_) (fun hb => ?_) | refine AskB.mk (fun hb => ?_) (fun hb => ?_)) <;> first | (exfalso; omega) | (conv => whnf)) | ((with_reducible first | refine Run.drawX rfl (by decide +kernel) ?_ | refine Run.drawT rfl (by decide +kernel) ?_ | refine Run.drawW rfl (by decide +kernel) ?_); conv => whnf) | fail)
  all_goals try (exfalso; omega)
  · have hcc : c < t.cols.length := by omega
    have hlen : (t.cols.getD c []).length = t.wits.length := by
      have h2 : (t.cols.getD (c : Int).toNat tIL.z).length = t.wits.length := by omega
      exact h2
    refine Run.loop [3, 4, 8] (fun (i : Nat) => [(1, .box 1 0), (9, .bool (decide (sumN t c 0 < sumN t c i))), (10, .int .i64 (i : Int))]) (fun i => [(1, .box 35 [tWit.L t.wits, tIL.L t.cols]), (29, tI.R 3 (nextL t c i))])
      (fun i => i ≤ t.wits.length ∧ LeT t c i ∧ (∀ k, k < i → atC t c k = -1 ∨ (atC t c k = (cnt (t.cols.take c) k : Nat) ∧ cnt (t.cols.take c) k < (witAt t k).words.length)) ∧ (sumN t c i = sumN t c 0 → ∀ k, k < i → atC t c k = -1)) (fun i => t.wits.length - i) 0 ⟨Nat.zero_le _, hle, fun i hi => absurd hi (Nat.not_lt_zero _), fun _ i hi => absurd hi (Nat.not_lt_zero _)⟩
      ⟨Le.refl _, Le.ff.trans (Le.bool (decide_eq_false (Nat.lt_irrefl _)).symm), Le.refl _, trivial⟩ ⟨MOle.refl _, MOle.refl _, trivial⟩ ?_
    intro i ⟨hi, hlei, hcells, hsame⟩ IHi
    have hwi : IntKind.i64.wrap ((i : Int) + 1) = ((i + 1 : Nat) : Int) := wrap64 (by omega) (by omega)
    have hnli := nextL_len t c i
    have hge := sumN_ge (i := i) hcc
    show Run _ _ (lst (_ ++ [(1, .box 1 0), (9, .bool (decide (sumN t c 0 < sumN t c i))), (10, .int .i64 (i : Int))])) (lstH [(1, .box 35 [tWit.L t.wits, tIL.L t.cols]), (29, tI.R 3 (nextL t c i))])
    by_cases hil : i < t.wits.length
    · have hx : (t.cols.getD (c : Int).toNat tIL.z).getD (i : Int).toNat tI.z = atC t c i := rfl
      have hlc : (t.cols.getD (c : Int).toNat tIL.z).length = t.wits.length := hlen
      have hn : (nextL t c i).getD (i : Int).toNat tI.z = ((cnt (t.cols.take c) i : Nat) : Int) := by
        have := nextL_at t c i i hil
        rw [nx_same] at this; exact this
      have hlw : lens t i ≤ 2000000 := (hf.wit (witAt t i) (getD_mem' i hil)).2.1
      have hcnt : cnt (t.cols.take c) i ≤ lens t i := by
        have := hlei i hil
        rw [nx_same] at this; exact this
      have hlw2 : (t.wits.getD (i : Int).toNat tWit.z).words.length = lens t i := rfl
      refine Run.go ?_; (conv => whnf); repeat' (first | ((with_reducible refine Know.mk fun _ => ?_); conv => whnf) | ((with_reducible refine Need.mk ?_ ?_); exact nd; conv => whnf) | ((with_reducible refine Both.mk ?_ ?_) <;> conv => whnf) | ((with_reducible refine Any.mk fun b hb => ?_); conv => whnf) | ((with_reducible first | refine AskB.dec (fun hb => ?_) (fun hb => ?_) | refine AskB.ndec (fun hb => ?_) (fun hb => ?_) | refine AskB.mk (fun hb => ?_) (fun hb => ?_)) <;> first | (exfalso; omega) | (conv => whnf)) | ((with_reducible first | refine Run.drawX rfl (by decide +kernel) ?_ | refine Run.drawT rfl (by decide +kernel) ?_ | refine Run.drawW rfl (by decide +kernel) ?_); conv => whnf) | fail)
      all_goals try (exfalso; omega)
      · have hm : atC t c i = -1 := by omega
        refine Run.to _ _ ?_ ?_ (IHi (i + 1) (by omega) ⟨by omega, le_none hcc hlei hm, fun k hk => ?_, fun he k hk => ?_⟩)
        · refine ⟨Le.refl _, Le.refl _, Le.refl _, Le.refl _, ?_, Le.int hwi, trivial⟩
          rw [sumN_none hcc hm]; exact Le.refl _
        · refine ⟨MOle.refl _, ?_, trivial⟩
          rw [nextL_none hcc hm]; exact MOle.refl _
        · by_cases e : k = i
          · subst e; exact .inl hm
          · exact hcells k (by omega)
        · rw [sumN_none hcc hm] at he
          by_cases e : k = i
          · subst e; exact hm
          · exact hsame he k (by omega)
      all_goals try (
        have hk : ¬ ColOk t c := fun h => by
          rcases h.2.1 i hil with h1 | ⟨h1, h2⟩
          · omega
          · have h3 : cnt (t.cols.take c) i < lens t i := h2
            omega
        exact Run.leave (ts := [2]) (.inr ⟨_, rfl⟩) rfl Tryz.func26 rfl (Le.int (hno (fun o h => h (o.col c hcc)) hk).symm))
      · have hxe : atC t c i = ((cnt (t.cols.take c) i : Nat) : Int) := by omega
        have hne : atC t c i ≠ -1 := by omega
        have hlt : cnt (t.cols.take c) i < lens t i := by omega
        have hle2 := le_some hcc hlei hne (by rw [nx_same]; exact hlt)
        have hsm := sumN_some hcc hil hne
        refine Run.to _ _ ?_ ?_ (IHi (i + 1) (by omega) ⟨by omega, hle2, fun k hk => ?_, fun he => ?_⟩)
        · refine ⟨Le.refl _, Le.refl _, Le.refl _, Le.refl _, Le.tt.trans (Le.bool (decide_eq_true (by omega)).symm), Le.int hwi, trivial⟩
        · refine ⟨MOle.refl _, ?_, trivial⟩
          rw [nextL_some hcc hil hne]
          refine tI.set 3 (nextL t c i) i _ (by omega) _ rfl (Le.one (Le.int ?_))
          rw [hn, nx_same, wrap64 (by omega) (by omega)]
        · by_cases e : k = i
          · subst e; exact .inr ⟨hxe, hlt⟩
          · exact hcells k (by omega)
        · omega
    · obtain rfl : i = t.wits.length := by omega
      refine Run.go ?_; (conv => whnf); repeat' (first | ((with_reducible refine Know.mk fun _ => ?_); conv => whnf) | ((with_reducible refine Need.mk ?_ ?_); exact nd; conv => whnf) | ((with_reducible refine Both.mk ?_ ?_) <;> conv => whnf) | ((with_reducible refine Any.mk fun b hb => ?_); conv => whnf) | ((with_reducible first | refine AskB.dec (fun hb => ?_) (fun hb => ?_) | refine AskB.ndec (fun hb => ?_) (fun hb => ?_) | refine AskB.mk (fun hb => ?_) (fun hb => ?_)) <;> first | (exfalso; omega) | (conv => whnf)) | ((with_reducible first | refine Run.drawX rfl (by decide +kernel) ?_ | refine Run.drawT rfl (by decide +kernel) ?_ | refine Run.drawW rfl (by decide +kernel) ?_); conv => whnf) | fail)
      all_goals try (exfalso; omega)
      · have hsl : sumN t c 0 < sumN t c t.wits.length := hb
        have hok : ColOk t c := ⟨hlen, hcells, col_some hsl hcc⟩
        refine Run.to _ _ ?_ ?_ (IH (c + 1) (by omega) ⟨by omega, fun k hk => ?_, le_end hlei⟩)
        · exact ⟨Le.refl _, Le.refl _, Le.refl _, Le.int hwc, trivial⟩
        · refine ⟨MOle.refl _, ?_, trivial⟩
          rw [← nextL_end]; exact MOle.refl _
        · by_cases e : k = c
          · subst e; exact hok
          · exact hck k (by omega)
      · have hsl : ¬ sumN t c 0 < sumN t c t.wits.length := hb
        have hk : ¬ ColOk t c := fun h => by
          obtain ⟨k, hk1, hk2⟩ := h.2.2
          exact hk2 (hsame (by omega) k hk1)
        exact Run.leave (ts := [2]) (.inr ⟨_, rfl⟩) rfl Tryz.func26 rfl (Le.int (hno (fun o h => h (o.col c hcc)) hk).symm)
  · have hcc : c < t.cols.length := by omega
    have hk : ¬ ColOk t c := fun h => by
      have h1 := h.1
      have h2 : (t.cols.getD (c : Int).toNat tIL.z).length = t.wits.length := h1
      omega
    exact Run.leave (ts := [2]) (.inr ⟨_, rfl⟩) rfl Tryz.func26 rfl (Le.int (hno (fun o h => h (o.col c hcc)) hk).symm)
  obtain rfl : c = t.cols.length := by omega
  refine Run.loop [3, 4] (fun (i : Nat) => [(1, .box 1 0), (12, .int .i64 (i : Int))]) (fun i => [(1, .box 35 [tWit.L t.wits, tIL.L t.cols]), (29, tI.R 3 (nextL t t.cols.length 0))])
    (fun i => i ≤ t.wits.length ∧ (∀ k, k < i → cnt t.cols k = (witAt t k).words.length)) (fun i => t.wits.length - i) 0 ⟨Nat.zero_le _, fun i hi => absurd hi (Nat.not_lt_zero _)⟩
    ⟨Le.refl _, Le.refl _, trivial⟩ ⟨MOle.refl _, MOle.refl _, trivial⟩ ?_
  intro i ⟨hi, hall⟩ IHi
  have hwi : IntKind.i64.wrap ((i : Int) + 1) = ((i + 1 : Nat) : Int) := wrap64 (by omega) (by omega)
  have hnli := nextL_len t t.cols.length 0
  show Run _ _ (lst (_ ++ [(1, .box 1 0), (12, .int .i64 (i : Int))])) (lstH [(1, .box 35 [tWit.L t.wits, tIL.L t.cols]), (29, tI.R 3 (nextL t t.cols.length 0))])
  by_cases hil : i < t.wits.length
  · have hn : (nextL t t.cols.length 0).getD (i : Int).toNat tI.z = ((cnt t.cols i : Nat) : Int) := by
      have := nextL_at t t.cols.length 0 i hil
      rw [nx_last] at this; exact this
    have hlw2 : (t.wits.getD (i : Int).toNat tWit.z).words.length = lens t i := rfl
    refine Run.go ?_; (conv => whnf); repeat' (first | ((with_reducible refine Know.mk fun _ => ?_); conv => whnf) | ((with_reducible refine Need.mk ?_ ?_); exact nd; conv => whnf) | ((with_reducible refine Both.mk ?_ ?_) <;> conv => whnf) | ((with_reducible refine Any.mk fun b hb => ?_); conv => whnf) | ((with_reducible first | refine AskB.dec (fun hb => ?_) (fun hb => ?_) | refine AskB.ndec (fun hb => ?_) (fun hb => ?_) | refine AskB.mk (fun hb => ?_) (fun hb => ?_)) <;> first | (exfalso; omega) | (conv => whnf)) | ((with_reducible first | refine Run.drawX rfl (by decide +kernel) ?_ | refine Run.drawT rfl (by decide +kernel) ?_ | refine Run.drawW rfl (by decide +kernel) ?_); conv => whnf) | fail)
    all_goals try (exfalso; omega)
    · have he : cnt t.cols i = lens t i := by omega
      refine Run.to _ _ ?_ ?_ (IHi (i + 1) (by omega) ⟨by omega, fun k hk => ?_⟩)
      · exact ⟨Le.refl _, Le.refl _, Le.refl _, Le.int hwi, trivial⟩
      · exact ⟨MOle.refl _, MOle.refl _, trivial⟩
      · by_cases e : k = i
        · subst e; exact he
        · exact hall k (by omega)
    · have he : ¬ cnt t.cols i = lens t i := by omega
      exact Run.leave (ts := [2]) (.inr ⟨_, rfl⟩) rfl Tryz.func26 rfl (Le.int (hno (fun o h => h (o.all i hil)) he).symm)
  · obtain rfl : i = t.wits.length := by omega
    refine Run.go ?_; (conv => whnf); repeat' (first | ((with_reducible refine Know.mk fun _ => ?_); conv => whnf) | ((with_reducible refine Need.mk ?_ ?_); exact nd; conv => whnf) | ((with_reducible refine Both.mk ?_ ?_) <;> conv => whnf) | ((with_reducible refine Any.mk fun b hb => ?_); conv => whnf) | ((with_reducible first | refine AskB.dec (fun hb => ?_) (fun hb => ?_) | refine AskB.ndec (fun hb => ?_) (fun hb => ?_) | refine AskB.mk (fun hb => ?_) (fun hb => ?_)) <;> first | (exfalso; omega) | (conv => whnf)) | ((with_reducible first | refine Run.drawX rfl (by decide +kernel) ?_ | refine Run.drawT rfl (by decide +kernel) ?_ | refine Run.drawW rfl (by decide +kernel) ?_); conv => whnf) | fail)
    all_goals try (exfalso; omega)
    exact Run.leave (ts := [2]) (.inr ⟨_, rfl⟩) rfl Tryz.func26 rfl (Le.int (chk_ok ⟨hn1, hn12, hnc, hwk, hck, hall⟩).symm)
end Go.Proofs.YteklnpgiloebcaaGreatDoor.V

namespace Go.Proofs.YteklnpgiloebcaaGreatDoor.V
set_option linter.unusedVariables false
set_option linter.unusedSimpArgs false
open Go Go.Proofs Go.RowKit
set_option maxRecDepth 100000
set_option maxHeartbeats 4000000
theorem textF_empty (o : Int) : textF .empty o = .empty := by
  unfold textF
  rw [cells_out (by decide)]; rfl
/-- What a table's cells are. -/
theorem at_ok {t : Tab} (h : OkT t) {c i : Nat} (hc : c < t.cols.length) (hi : i < t.wits.length) : (t.cols.getD c []).length = t.wits.length ∧ (atC t c i = -1 ∨ (0 ≤ atC t c i ∧ (atC t c i).toNat < (witAt t i).words.length)) := by
  obtain ⟨h1, h2, h3⟩ := h.col c hc
  refine ⟨h1, ?_⟩
  rcases h2 i hi with h4 | ⟨h4, h5⟩
  · exact .inl h4
  · exact .inr ⟨by omega, by omega⟩
theorem text_small {t : Tab} (hf : FitT t) (hok : OkT t) {c : Nat} (hc : c < t.cols.length) (j : Nat) (hj : j < t.wits.length) : (textAt t c j).size ≤ 134217728 := by
  obtain ⟨_, h⟩ := at_ok hok hc hj
  unfold textAt
  split
  · exact Nat.zero_le _
  · rcases h with h | ⟨h1, h2⟩
    · omega
    · exact (hf.wit (witAt t j) (getD_mem' j hj)).2.2 _ (getD_mem' _ h2)
theorem read41_fn (t : Tab) (c : Nat) (o : Int) (hf : FitT t) (hok : OkT t) (hc : c < t.cols.length) (ho : ¬ badO o) : Fn Tryz.prog 52 [tbA t, .int .i64 c, .int .i64 o] (tRd.L (readE t c o t.wits.length)) := by
  refine Fn.of Tryz.f52 _ Tryz.func52 rfl (by decide) (by show 3 ≤ _; decide) tbOk 101 rfl fun S w0 gl => ?_
  have hn12 := hok.n12
  have hfc := hf.cols
  refine Run.go ?_; (conv => whnf); repeat' (first | ((with_reducible refine Know.mk fun _ => ?_); conv => whnf) | ((with_reducible refine Need.mk ?_ ?_); exact nd; conv => whnf) | ((with_reducible first | refine Both.mk ?_ ?_ | refine Any.mk fun b hb => ?_ | refine AskB.dec (fun hb => ?_) (fun hb => ?_) | refine AskB.ndec (fun hb => ?_) (fun hb => ?_) | refine AskB.mk (fun hb => ?_) (fun hb => ?_)) <;> conv => whnf) | ((with_reducible first | refine Run.drawX rfl (by decide +kernel) ?_ | refine Run.drawT rfl (by decide +kernel) ?_ | refine Run.drawW rfl (by decide +kernel) ?_); conv => whnf) | fail)
  refine Run.holdNil 7 1000 62 3 (fun _ _ => .nils) rfl ?_
  refine Run.asMat 1000 2 3 1 (e := 62) (sz := 3) (n := 0) (get := fun _ _ => .nils) rfl (by decide) (fun i hi => absurd hi (Nat.not_lt_zero _)) ?_
  refine Run.loop [1, 2] (fun (i : Nat) => [(3, .box 3 0), (7, .row 1000), (8, .int .i64 (i : Int))]) (fun i => [(3, .box 35 [tWit.L t.wits, tIL.L t.cols]), (1000, rdM (readE t c o i))]) (fun i => i ≤ t.wits.length) (fun i => t.wits.length - i) 0 (Nat.zero_le _) ⟨Le.refl _, Le.refl _, Le.refl _, trivial⟩ ⟨MOle.refl _, rdM_nil _ _ _, trivial⟩ ?_
  intro i hi IH
  have hwi : IntKind.i64.wrap ((i : Int) + 1) = ((i + 1 : Nat) : Int) := wrap64 (by omega) (by omega)
  have hrl := read_len t c o i
  have hwl := wits_le t c o i
  have htx := read_text t c o 134217728 i (fun j hj => text_small hf hok hc j (by omega))
  show Run _ _ (lst (_ ++ [(3, .box 3 0), (7, .row 1000), (8, .int .i64 (i : Int))])) (lstH [(3, .box 35 [tWit.L t.wits, tIL.L t.cols]), (1000, rdM (readE t c o i))])
  by_cases hil : i < t.wits.length
  · obtain ⟨hlen, hat⟩ := at_ok hok hc hil
    have hfi : (witAt t i).words.length ≤ 2000000 := (hf.wit (witAt t i) (getD_mem' i hil)).2.1
    have hx : (t.cols.getD (c : Int).toNat tIL.z).getD (i : Int).toNat tI.z = atC t c i := rfl
    have hlc : (t.cols.getD (c : Int).toNat tIL.z).length = t.wits.length := hlen
    have hlw2 : (t.wits.getD (i : Int).toNat tWit.z).words.length = (witAt t i).words.length := rfl
    have hnx : readE t c o (i + 1) = addR o (readE t c o i) i (decide (atC t c i < 0)) (textAt t c i) (keyAt t c o i) := rfl
    generalize readE t c o i = l at hrl hwl hnx htx ⊢
    apply Run.cutAt (A := fun CC kk => Run CC kk (lst [(1, .int .i64 c), (2, .int .i64 o), (3, .box 3 0), (7, .row 1000), (8, .int .i64 (i : Int)), (9, .int .i64 (atC t c i)), (10, .str (textAt t c i)), (11, .str (keyAt t c o i)), (12, .int .i64 0)]) (lstH [(3, .box 35 [tWit.L t.wits, tIL.L t.cols]), (1000, rdM l)]))
    · intro HA
      refine Run.go ?_; (conv => whnf); repeat' (first | ((with_reducible refine Know.mk fun _ => ?_); conv => whnf) | ((with_reducible refine Need.mk ?_ ?_); exact nd; conv => whnf) | ((with_reducible refine Both.mk ?_ ?_) <;> conv => whnf) | ((with_reducible refine Any.mk fun b hb => ?_); conv => whnf) | ((with_reducible first | refine AskB.dec (fun hb => ?_) (fun hb => ?_) | refine AskB.ndec (fun hb => ?_) (fun hb => ?_) | refine AskB.mk (fun hb => ?_) (fun hb => ?_)) <;> first | (exfalso; omega) | (conv => whnf)) | ((with_reducible first | refine Run.drawX rfl (by decide +kernel) ?_ | refine Run.drawT rfl (by decide +kernel) ?_ | refine Run.drawW rfl (by decide +kernel) ?_); conv => whnf) | fail)
      all_goals try (exfalso; omega)
      · have hx0 : 0 ≤ atC t c i := by omega
        have hxl : (atC t c i).toNat < (witAt t i).words.length := by omega
        have hte : textAt t c i = ((witAt t i).words.getD (atC t c i).toNat tWrd.z).text := by unfold textAt; rw [if_neg (by omega)]
        have hke : keyAt t c o i = textF (textAt t c i) o := by unfold keyAt; rw [if_neg (by omega)]
        have hts : (textAt t c i).size ≤ 134217728 := by
          rw [hte]
          exact (hf.wit (witAt t i) (getD_mem' i hil)).2.2 _ (getD_mem' _ hxl)
        have ht := text29_fn (textAt t c i) o hts
        unfold textL at ht
        rw [if_neg ho, if_neg ho, ← hke] at ht
        refine Run.callBX ht rfl rfl ⟨Le.str hte.symm, Le.refl _, trivial⟩ rfl rfl rfl ?_
        (conv => whnf); repeat' (first | ((with_reducible refine Know.mk fun _ => ?_); conv => whnf) | ((with_reducible refine Need.mk ?_ ?_); exact nd; conv => whnf) | ((with_reducible first | refine Both.mk ?_ ?_ | refine Any.mk fun b hb => ?_ | refine AskB.dec (fun hb => ?_) (fun hb => ?_) | refine AskB.ndec (fun hb => ?_) (fun hb => ?_) | refine AskB.mk (fun hb => ?_) (fun hb => ?_)) <;> conv => whnf) | ((with_reducible first | refine Run.drawX rfl (by decide +kernel) ?_ | refine Run.drawT rfl (by decide +kernel) ?_ | refine Run.drawW rfl (by decide +kernel) ?_); conv => whnf) | fail)
        refine Run.to _ _ ?_ ?_ HA
        · exact ⟨Le.refl _, Le.refl _, Le.refl _, Le.refl _, Le.refl _, Le.refl _, Le.str hte.symm, Le.refl _, Le.refl _, trivial⟩
        · exact ⟨MOle.refl _, MOle.refl _, trivial⟩
      · have hx0 : atC t c i < 0 := by omega
        refine Run.to _ _ ?_ ?_ HA
        · refine ⟨Le.refl _, Le.refl _, Le.refl _, Le.refl _, Le.refl _, Le.refl _, Le.str ?_, Le.str ?_, Le.refl _, trivial⟩
          · unfold textAt; rw [if_pos hx0]; rfl
          · unfold keyAt; rw [if_pos hx0]; rfl
        · exact ⟨MOle.refl _, MOle.refl _, trivial⟩
    have hfd : ∀ k, k ≤ l.findIdx (sameR o (decide (atC t c i < 0)) (keyAt t c o i)) → k ≤ l.length := fun k hk => Nat.le_trans hk List.findIdx_le_length
    apply Run.cutAt (A := fun CC kk => ∀ k, l.findIdx (sameR o (decide (atC t c i < 0)) (keyAt t c o i)) = k → Run CC kk (lst [(1, .int .i64 c), (2, .int .i64 o), (3, .box 3 0), (7, .row 1000), (8, .int .i64 (i : Int)), (9, .int .i64 (atC t c i)), (10, .str (textAt t c i)), (12, .int .i64 (k : Int))]) (lstH [(3, .box 35 [tWit.L t.wits, tIL.L t.cols]), (1000, rdM l)]))
    · intro HA
      refine Run.loop [1, 2, 3, 7, 8, 9, 10, 11] (fun (k : Nat) => [(12, .int .i64 (k : Int))]) (fun k => [(3, .box 35 [tWit.L t.wits, tIL.L t.cols]), (1000, rdM l)]) (fun k => k ≤ l.findIdx (sameR o (decide (atC t c i < 0)) (keyAt t c o i))) (fun k => l.length - k) 0 (Nat.zero_le _) ⟨Le.refl _, trivial⟩ ⟨MOle.refl _, MOle.refl _, trivial⟩ ?_
      intro k hk IHk
      have hkl := hfd k hk
      have hwk : IntKind.i64.wrap ((k : Int) + 1) = ((k + 1 : Nat) : Int) := wrap64 (by omega) (by omega)
      show Run _ _ (lst (_ ++ [(12, .int .i64 (k : Int))])) (lstH [(3, .box 35 [tWit.L t.wits, tIL.L t.cols]), (1000, rdM l)])
      refine Run.goS false 6 ?_; (conv => whnf); repeat' (first | ((with_reducible refine Know.mk fun _ => ?_); conv => whnf) | ((with_reducible refine Need.mk ?_ ?_); exact nd; conv => whnf) | ((with_reducible refine Both.mk ?_ ?_) <;> conv => whnf) | ((with_reducible refine Any.mk fun b hb => ?_); conv => whnf) | ((with_reducible first | refine AskB.dec (fun hb => ?_) (fun hb => ?_) | refine AskB.ndec (fun hb => ?_) (fun hb => ?_) | refine AskB.mk (fun hb => ?_) (fun hb => ?_)) <;> first | (exfalso; omega) | (conv => whnf)) | ((with_reducible first | refine Run.drawX rfl (by decide +kernel) ?_ | refine Run.drawT rfl (by decide +kernel) ?_ | refine Run.drawW rfl (by decide +kernel) ?_); conv => whnf) | fail)
      all_goals try (exfalso; omega)
      · have hkk : k < l.length := by omega
        have ht := text29_fn (l.getD k rd0).text o (htx _ (getD_mem' k hkk))
        unfold textL at ht
        rw [if_neg ho, if_neg ho] at ht
        have hsm : sameR o (decide (atC t c i < 0)) (keyAt t c o i) (l.getD k rd0) = ((l.getD k rd0).none == decide (atC t c i < 0) && decide (textF (l.getD k rd0).text o = keyAt t c o i)) := rfl
        refine Run.callB ht rfl rfl ⟨Le.refl _, Le.refl _, trivial⟩ rfl rfl rfl ?_
        refine Run.goS false 6 ?_; (conv => whnf); repeat' (first | ((with_reducible refine Know.mk fun _ => ?_); conv => whnf) | ((with_reducible refine Need.mk ?_ ?_); exact nd; conv => whnf) | ((with_reducible refine Both.mk ?_ ?_) <;> conv => whnf) | ((with_reducible refine Any.mk fun b hb => ?_); conv => whnf) | ((with_reducible first | refine AskB.dec (fun hb => ?_) (fun hb => ?_) | refine AskB.ndec (fun hb => ?_) (fun hb => ?_) | refine AskB.mk (fun hb => ?_) (fun hb => ?_)) <;> first | (exfalso; omega) | (conv => whnf)) | ((with_reducible first | refine Run.drawX rfl (by decide +kernel) ?_ | refine Run.drawT rfl (by decide +kernel) ?_ | refine Run.drawW rfl (by decide +kernel) ?_); conv => whnf) | fail)
        · refine Run.to _ _ ?_ ?_ (HA k (fidx_hit (z := rd0) hk hkk ?_))
          · exact ⟨Le.refl _, Le.refl _, Le.refl _, Le.refl _, Le.refl _, Le.refl _, Le.refl _, Le.refl _, trivial⟩
          · exact ⟨MOle.refl _, MOle.refl _, trivial⟩
          · rw [hsm, Bool.and_eq_true]
            exact ⟨by assumption, decide_eq_true hb⟩
        · refine Run.to _ _ ?_ ?_ (IHk (k + 1) (by omega) (fidx_miss (z := rd0) hk hkk ?_))
          · exact ⟨Le.refl _, Le.refl _, Le.refl _, Le.refl _, Le.refl _, Le.refl _, Le.refl _, Le.refl _, Le.int hwk, trivial⟩
          · exact ⟨MOle.refl _, MOle.refl _, trivial⟩
          · rw [hsm, decide_eq_false hb, Bool.and_false]
        · refine Run.to _ _ ?_ ?_ (IHk (k + 1) (by omega) (fidx_miss (z := rd0) hk hkk ?_))
          · exact ⟨Le.refl _, Le.refl _, Le.refl _, Le.refl _, Le.refl _, Le.refl _, Le.refl _, Le.refl _, Le.int hwk, trivial⟩
          · exact ⟨MOle.refl _, MOle.refl _, trivial⟩
          · rw [hsm, show ((l.getD k rd0).none == decide (atC t c i < 0)) = false from hb, Bool.false_and]
      · refine Run.to _ _ ?_ ?_ (HA k ?_)
        · exact ⟨Le.refl _, Le.refl _, Le.refl _, Le.refl _, Le.refl _, Le.refl _, Le.refl _, Le.refl _, trivial⟩
        · exact ⟨MOle.refl _, MOle.refl _, trivial⟩
        · have := List.findIdx_le_length (p := sameR o (decide (atC t c i < 0)) (keyAt t c o i)) (xs := l)
          omega
    intro k hk
    have hkl : k ≤ l.length := by rw [← hk]; exact List.findIdx_le_length
    have hens := ens_len l k (decide (atC t c i < 0)) (textAt t c i) hkl
    have hadd : readE t c o (i + 1) = pushW (ensR l k (decide (atC t c i < 0)) (textAt t c i)) k i := by rw [hnx]; unfold addR; rw [hk]
    have hewl : ∀ r ∈ ensR l k (decide (atC t c i < 0)) (textAt t c i), r.wits.length ≤ i := fun r hr => by
      unfold ensR at hr
      split at hr
      · rcases List.mem_append.mp hr with h1 | h1
        · exact hwl r h1
        · rw [List.mem_singleton] at h1; subst h1; exact Nat.zero_le _
      · exact hwl r hr
    refine Run.goS true 0 ?_; (conv => whnf); repeat' (first | ((with_reducible refine Know.mk fun _ => ?_); conv => whnf) | ((with_reducible refine Need.mk ?_ ?_); exact nd; conv => whnf) | ((with_reducible first | refine Both.mk ?_ ?_ | refine Any.mk fun b hb => ?_ | refine AskB.dec (fun hb => ?_) (fun hb => ?_) | refine AskB.ndec (fun hb => ?_) (fun hb => ?_) | refine AskB.mk (fun hb => ?_) (fun hb => ?_)) <;> conv => whnf) | ((with_reducible first | refine Run.drawX rfl (by decide +kernel) ?_ | refine Run.drawT rfl (by decide +kernel) ?_ | refine Run.drawW rfl (by decide +kernel) ?_); conv => whnf) | fail)
    refine Run.ifk [1, 2, 3, 8] (fun (_ : Unit) => [(7, .row 1000), (12, .int .i64 (k : Int))]) (fun _ => [(3, .box 35 [tWit.L t.wits, tIL.L t.cols]), (1000, rdM (ensR l k (decide (atC t c i < 0)) (textAt t c i)))]) (fun _ => True) rfl ⟨fun next => ⟨fun hb => ?_, fun hb => ?_⟩, fun _ _ => ?_⟩
    · have hb := of_decide_eq_true hb
      have hke : k = l.length := by omega
      have hee : ensR l k (decide (atC t c i < 0)) (textAt t c i) = l ++ [⟨decide (atC t c i < 0), textAt t c i, []⟩] := if_pos hke
      refine Run.goS false 6 ?_; (conv => whnf); repeat' (first | ((with_reducible refine Know.mk fun _ => ?_); conv => whnf) | ((with_reducible refine Need.mk ?_ ?_); exact nd; conv => whnf) | ((with_reducible first | refine Both.mk ?_ ?_ | refine Any.mk fun b hb => ?_ | refine AskB.dec (fun hb => ?_) (fun hb => ?_) | refine AskB.ndec (fun hb => ?_) (fun hb => ?_) | refine AskB.mk (fun hb => ?_) (fun hb => ?_)) <;> conv => whnf) | ((with_reducible first | refine Run.drawX rfl (by decide +kernel) ?_ | refine Run.drawT rfl (by decide +kernel) ?_ | refine Run.drawW rfl (by decide +kernel) ?_); conv => whnf) | fail)
      refine Run.appendM (d := 87) (id := 1000) (z := 86) (t := 55) (t2 := 55) (e := 62) (sz := 3) (om := 2) (s := .tmp 81) (x := .tmp 86) rfl rfl rfl rfl rfl rfl rfl rfl rfl rfl rfl rfl rfl rfl rfl rfl (by decide) (Nat.le_of_ble_eq_true rfl) ⟨_, rfl, rfl⟩ ?_ ?_
      · show (l.length + 1) * 48 ≤ _
        omega
      refine Run.goS false 6 ?_; (conv => whnf); repeat' (first | ((with_reducible refine Know.mk fun _ => ?_); conv => whnf) | ((with_reducible refine Need.mk ?_ ?_); exact nd; conv => whnf) | ((with_reducible first | refine Both.mk ?_ ?_ | refine Any.mk fun b hb => ?_ | refine AskB.dec (fun hb => ?_) (fun hb => ?_) | refine AskB.ndec (fun hb => ?_) (fun hb => ?_) | refine AskB.mk (fun hb => ?_) (fun hb => ?_)) <;> conv => whnf) | ((with_reducible first | refine Run.drawX rfl (by decide +kernel) ?_ | refine Run.drawT rfl (by decide +kernel) ?_ | refine Run.drawW rfl (by decide +kernel) ?_); conv => whnf) | fail)
      refine Run.holdM 7 1000 (z := 87) rfl rfl rfl ?_
      refine Run.to _ _ ?_ ?_ (next () trivial)
      · exact ⟨Le.refl _, Le.refl _, Le.refl _, Le.refl _, Le.refl _, Le.refl _, trivial⟩
      · refine ⟨MOle.refl _, ?_, trivial⟩
        rw [hee]
        exact rdM_app l _ _ _ (Le.refl _) (Le.refl _)
    · have hb := of_decide_eq_false hb
      have hke : ¬ k = l.length := by omega
      have hee : ensR l k (decide (atC t c i < 0)) (textAt t c i) = l := if_neg hke
      refine Run.goS false 6 ?_; (conv => whnf); repeat' (first | ((with_reducible refine Know.mk fun _ => ?_); conv => whnf) | ((with_reducible refine Need.mk ?_ ?_); exact nd; conv => whnf) | ((with_reducible first | refine Both.mk ?_ ?_ | refine Any.mk fun b hb => ?_ | refine AskB.dec (fun hb => ?_) (fun hb => ?_) | refine AskB.ndec (fun hb => ?_) (fun hb => ?_) | refine AskB.mk (fun hb => ?_) (fun hb => ?_)) <;> conv => whnf) | ((with_reducible first | refine Run.drawX rfl (by decide +kernel) ?_ | refine Run.drawT rfl (by decide +kernel) ?_ | refine Run.drawW rfl (by decide +kernel) ?_); conv => whnf) | fail)
      refine Run.to _ _ ?_ ?_ (next () trivial)
      · exact ⟨Le.refl _, Le.refl _, Le.refl _, Le.refl _, Le.refl _, Le.refl _, trivial⟩
      · refine ⟨MOle.refl _, ?_, trivial⟩
        rw [hee]; exact MOle.refl _
    · have hwn : rdN (ensR l k (decide (atC t c i < 0)) (textAt t c i)) k ≤ i := hewl _ (getD_mem' k hens.1)
      generalize ensR l k (decide (atC t c i < 0)) (textAt t c i) = L at hens hadd hewl hwn ⊢
      have hkL := hens.1
      have hwn2 : rdN L (k : Int).toNat ≤ i := hwn
      refine Run.go ?_; (conv => whnf); repeat' (first | ((with_reducible refine Know.mk fun _ => ?_); conv => whnf) | ((with_reducible refine Need.mk ?_ ?_); exact nd; conv => whnf) | ((with_reducible first | refine Both.mk ?_ ?_ | refine Any.mk fun b hb => ?_ | refine AskB.dec (fun hb => ?_) (fun hb => ?_) | refine AskB.ndec (fun hb => ?_) (fun hb => ?_) | refine AskB.mk (fun hb => ?_) (fun hb => ?_)) <;> conv => whnf) | ((with_reducible first | refine Run.drawX rfl (by decide +kernel) ?_ | refine Run.drawT rfl (by decide +kernel) ?_ | refine Run.drawW rfl (by decide +kernel) ?_); conv => whnf) | fail)
      refine Run.takeM 94 2000 rfl rfl rfl ?_
      refine Run.go ?_; (conv => whnf); repeat' (first | ((with_reducible refine Know.mk fun _ => ?_); conv => whnf) | ((with_reducible refine Need.mk ?_ ?_); exact nd; conv => whnf) | ((with_reducible first | refine Both.mk ?_ ?_ | refine Any.mk fun b hb => ?_ | refine AskB.dec (fun hb => ?_) (fun hb => ?_) | refine AskB.ndec (fun hb => ?_) (fun hb => ?_) | refine AskB.mk (fun hb => ?_) (fun hb => ?_)) <;> conv => whnf) | ((with_reducible first | refine Run.drawX rfl (by decide +kernel) ?_ | refine Run.drawT rfl (by decide +kernel) ?_ | refine Run.drawW rfl (by decide +kernel) ?_); conv => whnf) | fail)
      refine Run.to _ _ ?_ ?_ (IH (i + 1) (by omega) (by omega))
      · exact ⟨Le.refl _, Le.refl _, Le.refl _, Le.refl _, Le.int hwi, trivial⟩
      · refine ⟨MOle.refl _, ?_, trivial⟩
        rw [hadd]
        exact rdM_push L k i hkL _ rfl
  · obtain rfl : i = t.wits.length := by omega
    refine Run.go ?_; (conv => whnf); repeat' (first | ((with_reducible refine Know.mk fun _ => ?_); conv => whnf) | ((with_reducible refine Need.mk ?_ ?_); exact nd; conv => whnf) | ((with_reducible refine Both.mk ?_ ?_) <;> conv => whnf) | ((with_reducible refine Any.mk fun b hb => ?_); conv => whnf) | ((with_reducible first | refine AskB.dec (fun hb => ?_) (fun hb => ?_) | refine AskB.ndec (fun hb => ?_) (fun hb => ?_) | refine AskB.mk (fun hb => ?_) (fun hb => ?_)) <;> first | (exfalso; omega) | (conv => whnf)) | ((with_reducible first | refine Run.drawX rfl (by decide +kernel) ?_ | refine Run.drawT rfl (by decide +kernel) ?_ | refine Run.drawW rfl (by decide +kernel) ?_); conv => whnf) | fail)
    all_goals try (exfalso; omega)
    refine Run.leave (ts := [6]) (.inr ⟨_, rfl⟩) rfl Tryz.func52 rfl (rdM_out _)
end Go.Proofs.YteklnpgiloebcaaGreatDoor.V

namespace Go.Proofs.YteklnpgiloebcaaGreatDoor.V
set_option linter.unusedVariables false
set_option linter.unusedSimpArgs false
open Go Go.Proofs Go.RowKit
set_option maxRecDepth 100000
set_option maxHeartbeats 4000000
theorem mget_mset' {α β : Type} [DecidableEq α] (k k' : α) (v : β) : ∀ l : List (α × β), mget k' (mset k v l) = if k' = k then some v else mget k' l
  | [] => by
    unfold mset mget
    by_cases h : k' = k
    · rw [if_pos h, if_pos h]
    · rw [if_neg h, if_neg h]; rfl
  | p :: l => by
    unfold mset
    by_cases h1 : k = p.1
    · rw [if_pos h1]
      unfold mget
      by_cases h : k' = k
      · rw [if_pos h, if_pos h]
      · rw [if_neg h, if_neg h, if_neg (fun e => h (e.trans h1.symm))]
    · rw [if_neg h1]
      unfold mget
      by_cases h2 : k' = p.1
      · rw [if_pos h2, if_pos h2, if_neg (fun e => h1 (e.symm.trans h2))]
      · rw [if_neg h2, if_neg h2, mget_mset' k k' v l]
theorem fidx_none {α : Type} {p : α → Bool} {z : α} : ∀ {l : List α}, (∀ k, k < l.length → p (l.getD k z) = false) → l.findIdx p = l.length
  | [], _ => rfl
  | x :: l, h => by
    have h0 := h 0 (by simp)
    rw [List.getD_cons_zero] at h0
    rw [List.findIdx_cons, h0, cond_false, fidx_none (z := z) (l := l) (fun k hk => by have := h (k + 1) (by simpa using hk); rw [List.getD_cons_succ] at this; exact this)]; rfl
theorem fidx_at {α : Type} {p : α → Bool} {z : α} {l : List α} {k : Nat} (hk : k < l.length) (h : p (l.getD k z) = true) (hj : ∀ j, j < k → p (l.getD j z) = false) : l.findIdx p = k := by
  refine fidx_hit (z := z) ?_ hk h
  have : ∀ m, m ≤ k → m ≤ l.findIdx p := fun m => by
    induction m with
    | zero => intro _; exact Nat.zero_le _
    | succ m ih => intro hm; exact fidx_miss (z := z) (ih (by omega)) (by omega) (hj m (by omega))
  exact this k (Nat.le_refl _)
theorem push_same (l : List Rd) (k : Nat) (i : Int) (j : Nat) : ((pushW l k i).getD j rd0).none = (l.getD j rd0).none ∧ ((pushW l k i).getD j rd0).text = (l.getD j rd0).text := by
  unfold pushW
  by_cases e : j = k
  · subst e
    by_cases hj : j < l.length
    · rw [List.getD, List.getElem?_set_self hj]; exact ⟨rfl, rfl⟩
    · rw [List.set_eq_of_length_le (by omega)]; exact ⟨rfl, rfl⟩
  · rw [List.getD, List.getElem?_set_ne (Ne.symm e)]; exact ⟨rfl, rfl⟩
/-- What the walk knows of its readings: where the one without words is, under which number each key is. -/
structure ColI (o : Int) (l : List Rd) (none : Int) (at' : List (ByteArray × Int)) : Prop where
  nn : (none = -1 ∧ ∀ k, k < l.length → (l.getD k rd0).none = false) ∨ (∃ k, k < l.length ∧ none = (k : Nat) ∧ (l.getD k rd0).none = true ∧ ∀ j, j < l.length → (l.getD j rd0).none = true → j = k)
  key : ∀ (s : ByteArray) (v : Int), mget s at' = some v ↔ ∃ k, k < l.length ∧ v = (k : Nat) ∧ (l.getD k rd0).none = false ∧ textF (l.getD k rd0).text o = s
  text : ∀ k, k < l.length → (l.getD k rd0).none = true → (l.getD k rd0).text = .empty
theorem ColI.push {o : Int} {l : List Rd} {none : Int} {at' : List (ByteArray × Int)} (h : ColI o l none at') (k : Nat) (i : Int) : ColI o (pushW l k i) none at' := by
  have hl := push_len l k i
  have hs := push_same l k i
  constructor
  · rcases h.nn with ⟨h1, h2⟩ | ⟨j, h1, h2, h3, h4⟩
    · exact .inl ⟨h1, fun m hm => by rw [(hs m).1]; exact h2 m (by omega)⟩
    · exact .inr ⟨j, by omega, h2, by rw [(hs j).1]; exact h3, fun m hm hn => h4 m (by omega) (by rw [← (hs m).1]; exact hn)⟩
  · intro s v
    rw [h.key s v]
    constructor
    · rintro ⟨m, h1, h2, h3, h4⟩; exact ⟨m, by omega, h2, by rw [(hs m).1]; exact h3, by rw [(hs m).2]; exact h4⟩
    · rintro ⟨m, h1, h2, h3, h4⟩; exact ⟨m, by omega, h2, by rw [← (hs m).1]; exact h3, by rw [← (hs m).2]; exact h4⟩
  · intro m hm hn
    rw [(hs m).2]
    exact h.text m (by omega) (by rw [← (hs m).1]; exact hn)
theorem ColI.start (o : Int) : ColI o [] (-1) [] := ⟨.inl ⟨rfl, fun k hk => absurd hk (Nat.not_lt_zero _)⟩, fun s v => ⟨fun h => (by cases h), fun ⟨k, hk, _⟩ => absurd hk (Nat.not_lt_zero _)⟩, fun k hk => absurd hk (Nat.not_lt_zero _)⟩
theorem app_at {l : List Rd} {r : Rd} {k : Nat} (hk : k < (l ++ [r]).length) : (k < l.length ∧ (l ++ [r]).getD k rd0 = l.getD k rd0) ∨ (k = l.length ∧ (l ++ [r]).getD k rd0 = r) := by
  rw [List.length_append, List.length_singleton] at hk
  by_cases h : k < l.length
  · exact .inl ⟨h, getD_app1 h⟩
  · obtain rfl : k = l.length := by omega
    exact .inr ⟨rfl, getD_app2⟩
theorem ColI.addNone {o : Int} {l : List Rd} {at' : List (ByteArray × Int)} (h : ColI o l (-1) at') : ColI o (l ++ [⟨true, .empty, []⟩]) (l.length : Nat) at' := by
  have hno : ∀ k, k < l.length → (l.getD k rd0).none = false := by
    rcases h.nn with ⟨_, h2⟩ | ⟨j, _, h2, _⟩
    · exact h2
    · omega
  have hlen : (l ++ [(⟨true, .empty, []⟩ : Rd)]).length = l.length + 1 := by simp
  constructor
  · refine .inr ⟨l.length, by omega, rfl, by rw [getD_app2], fun j hj hn => ?_⟩
    rcases app_at hj with ⟨h1, h2⟩ | ⟨h1, _⟩
    · rw [h2, hno j h1] at hn; cases hn
    · exact h1
  · intro s v
    rw [h.key s v]
    constructor
    · rintro ⟨m, h1, h2, h3, h4⟩; exact ⟨m, by omega, h2, by rw [getD_app1 h1]; exact h3, by rw [getD_app1 h1]; exact h4⟩
    · rintro ⟨m, h1, h2, h3, h4⟩
      rcases app_at h1 with ⟨e1, e2⟩ | ⟨e1, e2⟩
      · rw [e2] at h3 h4; exact ⟨m, e1, h2, h3, h4⟩
      · rw [e2] at h3; cases h3
  · intro m hm hn
    rcases app_at hm with ⟨e1, e2⟩ | ⟨e1, e2⟩
    · rw [e2] at hn ⊢; exact h.text m e1 hn
    · rw [e2]
theorem ColI.addKey {o : Int} {l : List Rd} {none : Int} {at' : List (ByteArray × Int)} (h : ColI o l none at') (text : ByteArray) (hno : mget (textF text o) at' = .none) : ColI o (l ++ [⟨false, text, []⟩]) none (mset (textF text o) ((l.length : Nat) : Int) at') := by
  have hlen : (l ++ [(⟨false, text, []⟩ : Rd)]).length = l.length + 1 := by simp
  constructor
  · rcases h.nn with ⟨h1, h2⟩ | ⟨j, h1, h2, h3, h4⟩
    · refine .inl ⟨h1, fun k hk => ?_⟩
      rcases app_at hk with ⟨e1, e2⟩ | ⟨e1, e2⟩
      · rw [e2]; exact h2 k e1
      · rw [e2]
    · refine .inr ⟨j, by omega, h2, by rw [getD_app1 h1]; exact h3, fun m hm hn => ?_⟩
      rcases app_at hm with ⟨e1, e2⟩ | ⟨e1, e2⟩
      · rw [e2] at hn; exact h4 m e1 hn
      · rw [e2] at hn; cases hn
  · intro s v
    rw [mget_mset']
    by_cases e : s = textF text o
    · subst e
      rw [if_pos rfl]
      constructor
      · intro hv; cases hv; exact ⟨l.length, by omega, rfl, by rw [getD_app2], by rw [getD_app2]⟩
      · rintro ⟨m, h1, h2, h3, h4⟩
        rcases app_at h1 with ⟨e1, e2⟩ | ⟨e1, e2⟩
        · rw [e2] at h3 h4
          have := (h.key _ ((m : Nat) : Int)).mpr ⟨m, e1, rfl, h3, h4⟩
          rw [hno] at this; cases this
        · rw [h2, e1]
    · rw [if_neg e, h.key s v]
      constructor
      · rintro ⟨m, h1, h2, h3, h4⟩; exact ⟨m, by omega, h2, by rw [getD_app1 h1]; exact h3, by rw [getD_app1 h1]; exact h4⟩
      · rintro ⟨m, h1, h2, h3, h4⟩
        rcases app_at h1 with ⟨e1, e2⟩ | ⟨e1, e2⟩
        · rw [e2] at h3 h4; exact ⟨m, e1, h2, h3, h4⟩
        · rw [e2] at h4; exact absurd h4.symm e
  · intro m hm hn
    rcases app_at hm with ⟨e1, e2⟩ | ⟨e1, e2⟩
    · rw [e2] at hn ⊢; exact h.text m e1 hn
    · rw [e2] at hn; cases hn
theorem ColI.findNone {o : Int} {l : List Rd} {none : Int} {at' : List (ByteArray × Int)} (h : ColI o l none at') : (none = -1 ∧ l.findIdx (sameR o true .empty) = l.length) ∨ (none = (l.findIdx (sameR o true .empty) : Nat) ∧ l.findIdx (sameR o true .empty) < l.length) := by
  rcases h.nn with ⟨h1, h2⟩ | ⟨k, h1, h2, h3, h4⟩
  · exact .inl ⟨h1, fidx_none (z := rd0) (fun k hk => by unfold sameR; rw [h2 k hk]; rfl)⟩
  · have := fidx_at (z := rd0) (p := sameR o true .empty) h1 (by unfold sameR; rw [h3, h.text k h1 h3, textF_empty]; rfl) (fun j hj => by
      unfold sameR
      cases hn : (l.getD j rd0).none with
      | false => rfl
      | true => exact absurd (h4 j (by omega) hn) (by omega))
    rw [this]
    exact .inr ⟨h2, h1⟩
theorem ColI.findKey {o : Int} {l : List Rd} {none : Int} {at' : List (ByteArray × Int)} (h : ColI o l none at') (s : ByteArray) : (mget s at' = .none ∧ l.findIdx (sameR o false s) = l.length) ∨ (mget s at' = some ((l.findIdx (sameR o false s) : Nat) : Int) ∧ l.findIdx (sameR o false s) < l.length) := by
  have hp : ∀ k, sameR o false s (l.getD k rd0) = true ↔ ((l.getD k rd0).none = false ∧ textF (l.getD k rd0).text o = s) := fun k => by
    unfold sameR
    rw [Bool.and_eq_true, decide_eq_true_iff]
    simp
  cases hg : mget s at' with
  | none =>
    refine .inl ⟨rfl, fidx_none (z := rd0) (fun k hk => ?_)⟩
    cases hq : sameR o false s (l.getD k rd0) with
    | false => rfl
    | true =>
      obtain ⟨h1, h2⟩ := (hp k).mp hq
      have := (h.key s ((k : Nat) : Int)).mpr ⟨k, hk, rfl, h1, h2⟩
      rw [hg] at this; cases this
  | some v =>
    obtain ⟨k, hk, hv, h1, h2⟩ := (h.key s v).mp hg
    have := fidx_at (z := rd0) (p := sameR o false s) hk ((hp k).mpr ⟨h1, h2⟩) (fun j hj => by
      cases hq : sameR o false s (l.getD j rd0) with
      | false => rfl
      | true =>
        obtain ⟨e1, e2⟩ := (hp j).mp hq
        have := (h.key s ((j : Nat) : Int)).mpr ⟨j, by omega, rfl, e1, e2⟩
        rw [hg] at this
        injection this with e
        omega)
    rw [this, hv]
    exact .inr ⟨rfl, hk⟩
theorem column_fn (t : Tab) (c : Nat) (o : Int) (hf : FitT t) (hok : OkT t) (hc : c < t.cols.length) (ho : ¬ badO o) : Fn Tryz.prog 36 [tbA t, .int .i64 c, .int .i64 o] (tRd.L (readE t c o t.wits.length)) := by
  refine Fn.of Tryz.f36 _ Tryz.func36 rfl (by decide) (by show 3 ≤ _; decide) tbOk 99 rfl fun S w0 gl => ?_
  have hn12 := hok.n12
  have hfc := hf.cols
  have hlen : (t.cols.getD (c : Int).toNat tIL.z).length = t.wits.length := (hok.col c hc).1
  refine Run.go ?_; (conv => whnf); repeat' (first | ((with_reducible refine Know.mk fun _ => ?_); conv => whnf) | ((with_reducible refine Need.mk ?_ ?_); exact nd; conv => whnf) | ((with_reducible first | refine Both.mk ?_ ?_ | refine Any.mk fun b hb => ?_ | refine AskB.dec (fun hb => ?_) (fun hb => ?_) | refine AskB.ndec (fun hb => ?_) (fun hb => ?_) | refine AskB.mk (fun hb => ?_) (fun hb => ?_)) <;> conv => whnf) | ((with_reducible first | refine Run.drawX rfl (by decide +kernel) ?_ | refine Run.drawT rfl (by decide +kernel) ?_ | refine Run.drawW rfl (by decide +kernel) ?_); conv => whnf) | fail)
  refine Run.holdNil 7 1000 62 3 (fun _ _ => .nils) rfl ?_
  refine Run.asMat 1000 2 3 1 (e := 62) (sz := 3) (n := 0) (get := fun _ _ => .nils) rfl (by decide) (fun i hi => absurd hi (Nat.not_lt_zero _)) ?_
  refine Run.loop [2, 22, 23] (fun (a : Nat × Int × List (ByteArray × Int)) => [(3, .box 3 0), (7, .row 1000), (8, .obj 17), (9, .int .i64 a.2.1), (24, .int .i64 (a.1 : Int))]) (fun a => [(3, .box 35 [tWit.L t.wits, tIL.L t.cols]), (1000, rdM (readE t c o a.1)), (17, .mp (.si a.2.2))])
    (fun a => a.1 ≤ t.wits.length ∧ ColI o (readE t c o a.1) a.2.1 a.2.2) (fun a => t.wits.length - a.1) (0, -1, []) ⟨Nat.zero_le _, ColI.start o⟩ ⟨Le.refl _, Le.refl _, Le.refl _, Le.refl _, Le.refl _, trivial⟩ ⟨MOle.refl _, rdM_nil _ _ _, MOle.refl _, trivial⟩ ?_
  intro ⟨i, no, at'⟩ ⟨hi, hI⟩ IH
  simp only [] at hi hI ⊢
  have hwi : IntKind.i64.wrap ((i : Int) + 1) = ((i + 1 : Nat) : Int) := wrap64 (by omega) (by omega)
  have hrl := read_len t c o i
  have hwl := wits_le t c o i
  show Run _ _ (lst (_ ++ [(3, .box 3 0), (7, .row 1000), (8, .obj 17), (9, .int .i64 no), (24, .int .i64 (i : Int))])) (lstH [(3, .box 35 [tWit.L t.wits, tIL.L t.cols]), (1000, rdM (readE t c o i)), (17, .mp (.si at'))])
  by_cases hil : i < t.wits.length
  · obtain ⟨_, hat⟩ := at_ok hok hc hil
    have hx : (t.cols.getD (c : Int).toNat tIL.z).getD (i : Int).toNat tI.z = atC t c i := rfl
    have hlw2 : (t.wits.getD (i : Int).toNat tWit.z).words.length = (witAt t i).words.length := rfl
    have hts := text_small hf hok hc i hil
    have hnx : readE t c o (i + 1) = addR o (readE t c o i) i (decide (atC t c i < 0)) (textAt t c i) (keyAt t c o i) := rfl
    generalize readE t c o i = l at hrl hwl hnx hI ⊢
    have hewl : ∀ k nn text, ∀ r ∈ ensR l k nn text, r.wits.length ≤ i := fun k nn text r hr => by
      unfold ensR at hr
      split at hr
      · rcases List.mem_append.mp hr with h1 | h1
        · exact hwl r h1
        · rw [List.mem_singleton] at h1; subst h1; exact Nat.zero_le _
      · exact hwl r hr
    refine Run.goS true 0 ?_; (conv => whnf); repeat' (first | ((with_reducible refine Know.mk fun _ => ?_); conv => whnf) | ((with_reducible refine Need.mk ?_ ?_); exact nd; conv => whnf) | ((with_reducible first | refine Both.mk ?_ ?_ | refine Any.mk fun b hb => ?_ | refine AskB.dec (fun hb => ?_) (fun hb => ?_) | refine AskB.ndec (fun hb => ?_) (fun hb => ?_) | refine AskB.mk (fun hb => ?_) (fun hb => ?_)) <;> conv => whnf) | ((with_reducible first | refine Run.drawX rfl (by decide +kernel) ?_ | refine Run.drawT rfl (by decide +kernel) ?_ | refine Run.drawW rfl (by decide +kernel) ?_); conv => whnf) | fail)
    refine Run.cond2 rfl (fun hb => ?_) (fun hb => absurd (of_decide_eq_false hb) (by omega))
    refine Run.goS true 0 ?_; (conv => whnf); repeat' (first | ((with_reducible refine Know.mk fun _ => ?_); conv => whnf) | ((with_reducible refine Need.mk ?_ ?_); exact nd; conv => whnf) | ((with_reducible first | refine Both.mk ?_ ?_ | refine Any.mk fun b hb => ?_ | refine AskB.dec (fun hb => ?_) (fun hb => ?_) | refine AskB.ndec (fun hb => ?_) (fun hb => ?_) | refine AskB.mk (fun hb => ?_) (fun hb => ?_)) <;> conv => whnf) | ((with_reducible first | refine Run.drawX rfl (by decide +kernel) ?_ | refine Run.drawT rfl (by decide +kernel) ?_ | refine Run.drawW rfl (by decide +kernel) ?_); conv => whnf) | fail)
    refine Run.cond2 rfl (fun hb => ?_) (fun hb => ?_)
    · have hx0 : atC t c i < 0 := of_decide_eq_true hb
      have hte : textAt t c i = .empty := by unfold textAt; rw [if_pos hx0]
      have hke : keyAt t c o i = .empty := by unfold keyAt; rw [if_pos hx0]
      rw [hte, hke, decide_eq_true hx0] at hnx
      obtain ⟨k, hkd⟩ : ∃ k, l.findIdx (sameR o true .empty) = k := ⟨_, rfl⟩
      have hfn := hI.findNone
      rw [hkd] at hfn
      have hkl : k ≤ l.length := by rw [← hkd]; exact List.findIdx_le_length
      have hens := ens_len l k true .empty hkl
      have hadd : readE t c o (i + 1) = pushW (ensR l k true .empty) k i := by rw [hnx]; unfold addR; rw [hkd]
      have hI2 : ColI o (ensR l k true .empty) (k : Nat) at' := by
        unfold ensR
        rcases hfn with ⟨h1, h2⟩ | ⟨h1, h2⟩
        · rw [if_pos h2, h2]
          rw [h1] at hI
          exact hI.addNone
        · rw [if_neg (by omega), ← h1]; exact hI
      refine Run.goS true 0 ?_; (conv => whnf); repeat' (first | ((with_reducible refine Know.mk fun _ => ?_); conv => whnf) | ((with_reducible refine Need.mk ?_ ?_); exact nd; conv => whnf) | ((with_reducible first | refine Both.mk ?_ ?_ | refine Any.mk fun b hb => ?_ | refine AskB.dec (fun hb => ?_) (fun hb => ?_) | refine AskB.ndec (fun hb => ?_) (fun hb => ?_) | refine AskB.mk (fun hb => ?_) (fun hb => ?_)) <;> conv => whnf) | ((with_reducible first | refine Run.drawX rfl (by decide +kernel) ?_ | refine Run.drawT rfl (by decide +kernel) ?_ | refine Run.drawW rfl (by decide +kernel) ?_); conv => whnf) | fail)
      refine Run.ifk [2, 3, 8, 10, 22, 23, 24] (fun (_ : Unit) => [(7, .row 1000), (9, .int .i64 (k : Int))]) (fun _ => [(3, .box 35 [tWit.L t.wits, tIL.L t.cols]), (1000, rdM (ensR l k true .empty)), (17, .mp (.si at'))]) (fun _ => True) rfl ⟨fun next => ⟨fun hb => ?_, fun hb => ?_⟩, fun _ _ => ?_⟩
      · have hb := of_decide_eq_true hb
        have hke : k = l.length := by omega
        have hee : ensR l k true .empty = l ++ [⟨true, .empty, []⟩] := if_pos hke
        refine Run.goS false 7 ?_; (conv => whnf); repeat' (first | ((with_reducible refine Know.mk fun _ => ?_); conv => whnf) | ((with_reducible refine Need.mk ?_ ?_); exact nd; conv => whnf) | ((with_reducible first | refine Both.mk ?_ ?_ | refine Any.mk fun b hb => ?_ | refine AskB.dec (fun hb => ?_) (fun hb => ?_) | refine AskB.ndec (fun hb => ?_) (fun hb => ?_) | refine AskB.mk (fun hb => ?_) (fun hb => ?_)) <;> conv => whnf) | ((with_reducible first | refine Run.drawX rfl (by decide +kernel) ?_ | refine Run.drawT rfl (by decide +kernel) ?_ | refine Run.drawW rfl (by decide +kernel) ?_); conv => whnf) | fail)
        refine Run.appendM (d := 38) (id := 1000) (z := 37) (t := 55) (t2 := 55) (e := 62) (sz := 3) (om := 2) (s := .tmp 35) (x := .tmp 37) rfl rfl rfl rfl rfl rfl rfl rfl rfl rfl rfl rfl rfl rfl rfl rfl (by decide) (Nat.le_of_ble_eq_true rfl) ⟨_, rfl, rfl⟩ ?_ ?_
        · show (l.length + 1) * 48 ≤ _
          omega
        refine Run.goS false 7 ?_; (conv => whnf); repeat' (first | ((with_reducible refine Know.mk fun _ => ?_); conv => whnf) | ((with_reducible refine Need.mk ?_ ?_); exact nd; conv => whnf) | ((with_reducible first | refine Both.mk ?_ ?_ | refine Any.mk fun b hb => ?_ | refine AskB.dec (fun hb => ?_) (fun hb => ?_) | refine AskB.ndec (fun hb => ?_) (fun hb => ?_) | refine AskB.mk (fun hb => ?_) (fun hb => ?_)) <;> conv => whnf) | ((with_reducible first | refine Run.drawX rfl (by decide +kernel) ?_ | refine Run.drawT rfl (by decide +kernel) ?_ | refine Run.drawW rfl (by decide +kernel) ?_); conv => whnf) | fail)
        refine Run.holdM 7 1000 (z := 38) rfl rfl rfl ?_
        refine Run.to _ _ ?_ ?_ (next () trivial)
        · exact ⟨Le.refl _, Le.refl _, Le.refl _, Le.refl _, Le.refl _, Le.refl _, Le.refl _, Le.refl _, Le.int (by show (l.length : Int) = k; omega), trivial⟩
        · refine ⟨MOle.refl _, ?_, MOle.refl _, trivial⟩
          rw [hee]
          exact rdM_app l _ _ _ (Le.tt.trans (Le.refl _)) (Le.refl _)
      · have hb := of_decide_eq_false hb
        have hke : ¬ k = l.length := by omega
        have hee : ensR l k true .empty = l := if_neg hke
        refine Run.goS false 7 ?_; (conv => whnf); repeat' (first | ((with_reducible refine Know.mk fun _ => ?_); conv => whnf) | ((with_reducible refine Need.mk ?_ ?_); exact nd; conv => whnf) | ((with_reducible first | refine Both.mk ?_ ?_ | refine Any.mk fun b hb => ?_ | refine AskB.dec (fun hb => ?_) (fun hb => ?_) | refine AskB.ndec (fun hb => ?_) (fun hb => ?_) | refine AskB.mk (fun hb => ?_) (fun hb => ?_)) <;> conv => whnf) | ((with_reducible first | refine Run.drawX rfl (by decide +kernel) ?_ | refine Run.drawT rfl (by decide +kernel) ?_ | refine Run.drawW rfl (by decide +kernel) ?_); conv => whnf) | fail)
        refine Run.to _ _ ?_ ?_ (next () trivial)
        · exact ⟨Le.refl _, Le.refl _, Le.refl _, Le.refl _, Le.refl _, Le.refl _, Le.refl _, Le.refl _, Le.int (by omega), trivial⟩
        · refine ⟨MOle.refl _, ?_, MOle.refl _, trivial⟩
          rw [hee]; exact MOle.refl _
      · have hwn : rdN (ensR l k true .empty) k ≤ i := hewl _ _ _ _ (getD_mem' k hens.1)
        generalize ensR l k true .empty = L at hens hadd hwn hI2 ⊢
        have hkL := hens.1
        have hwn2 : rdN L (k : Int).toNat ≤ i := hwn
        refine Run.go ?_; (conv => whnf); repeat' (first | ((with_reducible refine Know.mk fun _ => ?_); conv => whnf) | ((with_reducible refine Need.mk ?_ ?_); exact nd; conv => whnf) | ((with_reducible first | refine Both.mk ?_ ?_ | refine Any.mk fun b hb => ?_ | refine AskB.dec (fun hb => ?_) (fun hb => ?_) | refine AskB.ndec (fun hb => ?_) (fun hb => ?_) | refine AskB.mk (fun hb => ?_) (fun hb => ?_)) <;> conv => whnf) | ((with_reducible first | refine Run.drawX rfl (by decide +kernel) ?_ | refine Run.drawT rfl (by decide +kernel) ?_ | refine Run.drawW rfl (by decide +kernel) ?_); conv => whnf) | fail)
        refine Run.takeM 45 2000 rfl rfl rfl ?_
        refine Run.go ?_; (conv => whnf); repeat' (first | ((with_reducible refine Know.mk fun _ => ?_); conv => whnf) | ((with_reducible refine Need.mk ?_ ?_); exact nd; conv => whnf) | ((with_reducible first | refine Both.mk ?_ ?_ | refine Any.mk fun b hb => ?_ | refine AskB.dec (fun hb => ?_) (fun hb => ?_) | refine AskB.ndec (fun hb => ?_) (fun hb => ?_) | refine AskB.mk (fun hb => ?_) (fun hb => ?_)) <;> conv => whnf) | ((with_reducible first | refine Run.drawX rfl (by decide +kernel) ?_ | refine Run.drawT rfl (by decide +kernel) ?_ | refine Run.drawW rfl (by decide +kernel) ?_); conv => whnf) | fail)
        refine Run.to _ _ ?_ ?_ (IH (i + 1, k, at') (by simp only []; omega) ⟨by simp only []; omega, by simp only []; rw [hadd]; exact hI2.push k i⟩)
        · exact ⟨Le.refl _, Le.refl _, Le.refl _, Le.refl _, Le.refl _, Le.refl _, Le.refl _, Le.int hwi, trivial⟩
        · refine ⟨MOle.refl _, ?_, MOle.refl _, trivial⟩
          simp only []
          rw [hadd]
          exact rdM_push L k i hkL _ rfl
    · have hx0 : ¬ atC t c i < 0 := of_decide_eq_false hb
      have hxl : (atC t c i).toNat < (witAt t i).words.length := by omega
      have hte : textAt t c i = ((witAt t i).words.getD (atC t c i).toNat tWrd.z).text := by unfold textAt; rw [if_neg hx0]
      have hke : keyAt t c o i = textF (textAt t c i) o := by unfold keyAt; rw [if_neg hx0]
      have ht := text26_fn (textAt t c i) o hts
      unfold textL at ht
      rw [if_neg ho, if_neg ho] at ht
      rw [hke, decide_eq_false hx0] at hnx
      generalize hT : textAt t c i = T at hte hke ht hnx hts
      obtain ⟨k, hkd⟩ : ∃ k, l.findIdx (sameR o false (textF T o)) = k := ⟨_, rfl⟩
      have hfk := hI.findKey (textF T o)
      rw [hkd] at hfk
      have hkl : k ≤ l.length := by rw [← hkd]; exact List.findIdx_le_length
      have hens := ens_len l k false T hkl
      have hadd : readE t c o (i + 1) = pushW (ensR l k false T) k i := by rw [hnx]; unfold addR; rw [hkd]
      have hwn : rdN (ensR l k false T) k ≤ i := hewl _ _ _ _ (getD_mem' k hens.1)
      refine Run.go ?_; (conv => whnf); repeat' (first | ((with_reducible refine Know.mk fun _ => ?_); conv => whnf) | ((with_reducible refine Need.mk ?_ ?_); exact nd; conv => whnf) | ((with_reducible first | refine Both.mk ?_ ?_ | refine Any.mk fun b hb => ?_ | refine AskB.dec (fun hb => ?_) (fun hb => ?_) | refine AskB.ndec (fun hb => ?_) (fun hb => ?_) | refine AskB.mk (fun hb => ?_) (fun hb => ?_)) <;> conv => whnf) | ((with_reducible first | refine Run.drawX rfl (by decide +kernel) ?_ | refine Run.drawT rfl (by decide +kernel) ?_ | refine Run.drawW rfl (by decide +kernel) ?_); conv => whnf) | fail)
      refine Run.callBX ht rfl rfl ⟨Le.str hte.symm, Le.refl _, trivial⟩ rfl rfl rfl ?_
      rcases hfk with ⟨hg, hk⟩ | ⟨hg, hk⟩
      · have hs1 : (mget (textF T o) at').isSome = false := by rw [hg]; rfl
        have hee : ensR l k false T = l ++ [⟨false, T, []⟩] := if_pos hk
        have hI2 : ColI o (ensR l k false T) no (mset (textF T o) ((l.length : Nat) : Int) at') := by
          rw [hee]; exact hI.addKey T hg
        (conv => whnf); repeat' (first | ((with_reducible refine Know.mk fun _ => ?_); conv => whnf) | ((with_reducible refine Need.mk ?_ ?_); exact nd; conv => whnf) | ((with_reducible first | refine Both.mk ?_ ?_ | refine Any.mk fun b hb => ?_ | refine AskB.dec (fun hb => ?_) (fun hb => ?_) | refine AskB.ndec (fun hb => ?_) (fun hb => ?_) | refine AskB.mk (fun hb => ?_) (fun hb => ?_)) <;> conv => whnf) | ((with_reducible first | refine Run.drawX rfl (by decide +kernel) ?_ | refine Run.drawT rfl (by decide +kernel) ?_ | refine Run.drawW rfl (by decide +kernel) ?_); conv => whnf) | fail)
        all_goals try (rw [hs1] at hb; cases hb; done)
        refine Run.appendM (d := 84) (id := 1000) (z := 83) (t := 55) (t2 := 55) (e := 62) (sz := 3) (om := 2) (s := .tmp 80) (x := .tmp 83) rfl rfl rfl rfl rfl rfl rfl rfl rfl rfl rfl rfl rfl rfl rfl rfl (by decide) (Nat.le_of_ble_eq_true rfl) ⟨_, rfl, rfl⟩ ?_ ?_
        · show (l.length + 1) * 48 ≤ _
          omega
        refine aexec_ok 1 ?_; (conv => whnf); repeat' (first | ((with_reducible refine Know.mk fun _ => ?_); conv => whnf) | ((with_reducible refine Need.mk ?_ ?_); exact nd; conv => whnf) | ((with_reducible first | refine Both.mk ?_ ?_ | refine Any.mk fun b hb => ?_ | refine AskB.dec (fun hb => ?_) (fun hb => ?_) | refine AskB.ndec (fun hb => ?_) (fun hb => ?_) | refine AskB.mk (fun hb => ?_) (fun hb => ?_)) <;> conv => whnf) | ((with_reducible first | refine Run.drawX rfl (by decide +kernel) ?_ | refine Run.drawT rfl (by decide +kernel) ?_ | refine Run.drawW rfl (by decide +kernel) ?_); conv => whnf) | fail)
        refine Run.holdM 7 1000 (z := 84) rfl rfl rfl ?_
        refine Run.to [(2, .int .i64 o), (3, .box 3 0), (7, .row 1000), (8, .obj 17), (9, .int .i64 no), (10, .int .i64 i), (15, .int .i64 (k : Int)), (22, .sl (t.cols.getD (c : Int).toNat tIL.z).length tI.sz (tI.G (t.cols.getD (c : Int).toNat tIL.z))), (23, .int .i64 (t.cols.getD (c : Int).toNat tIL.z).length), (24, .int .i64 i)] [(3, .box 35 [tWit.L t.wits, tIL.L t.cols]), (1000, rdM (ensR l k false T)), (17, .mp (.si (mset (textF T o) ((l.length : Nat) : Int) at')))] ?_ ?_ ?_
        · exact ⟨Le.refl _, Le.refl _, Le.refl _, Le.refl _, Le.refl _, Le.refl _, Le.int (by show (l.length : Int) = k; omega), Le.refl _, Le.refl _, Le.refl _, trivial⟩
        · refine ⟨MOle.refl _, ?_, MOle.refl _, trivial⟩
          rw [hee]
          exact rdM_app l _ _ _ (Le.ff.trans (Le.refl _)) (Le.str hte.symm)
        generalize ensR l k false T = L at hens hadd hwn hI2 ⊢
        have hkL := hens.1
        have hwn2 : rdN L (k : Int).toNat ≤ i := hwn
        refine Run.go ?_; (conv => whnf); repeat' (first | ((with_reducible refine Know.mk fun _ => ?_); conv => whnf) | ((with_reducible refine Need.mk ?_ ?_); exact nd; conv => whnf) | ((with_reducible first | refine Both.mk ?_ ?_ | refine Any.mk fun b hb => ?_ | refine AskB.dec (fun hb => ?_) (fun hb => ?_) | refine AskB.ndec (fun hb => ?_) (fun hb => ?_) | refine AskB.mk (fun hb => ?_) (fun hb => ?_)) <;> conv => whnf) | ((with_reducible first | refine Run.drawX rfl (by decide +kernel) ?_ | refine Run.drawT rfl (by decide +kernel) ?_ | refine Run.drawW rfl (by decide +kernel) ?_); conv => whnf) | fail)
        refine Run.takeM 91 2000 rfl rfl rfl ?_
        refine Run.go ?_; (conv => whnf); repeat' (first | ((with_reducible refine Know.mk fun _ => ?_); conv => whnf) | ((with_reducible refine Need.mk ?_ ?_); exact nd; conv => whnf) | ((with_reducible first | refine Both.mk ?_ ?_ | refine Any.mk fun b hb => ?_ | refine AskB.dec (fun hb => ?_) (fun hb => ?_) | refine AskB.ndec (fun hb => ?_) (fun hb => ?_) | refine AskB.mk (fun hb => ?_) (fun hb => ?_)) <;> conv => whnf) | ((with_reducible first | refine Run.drawX rfl (by decide +kernel) ?_ | refine Run.drawT rfl (by decide +kernel) ?_ | refine Run.drawW rfl (by decide +kernel) ?_); conv => whnf) | fail)
        refine Run.to _ _ ?_ ?_ (IH (i + 1, no, mset (textF T o) ((l.length : Nat) : Int) at') (by simp only []; omega) ⟨by simp only []; omega, by simp only []; rw [hadd]; exact hI2.push k i⟩)
        · exact ⟨Le.refl _, Le.refl _, Le.refl _, Le.refl _, Le.refl _, Le.refl _, Le.refl _, Le.int hwi, trivial⟩
        · refine ⟨MOle.refl _, ?_, MOle.refl _, trivial⟩
          simp only []
          rw [hadd]
          exact rdM_push L k i hkL _ rfl
      · have hs1 : (mget (textF T o) at').isSome = true := by rw [hg]; rfl
        have hs2 : (mget (textF T o) at').getD 0 = (k : Nat) := by rw [hg]; rfl
        have hee : ensR l k false T = l := if_neg (by omega)
        rw [hee] at hadd hwn
        have hwn2 : rdN l ((mget (textF T o) at').getD 0).toNat ≤ i := by rw [hs2]; exact hwn
        (conv => whnf); repeat' (first | ((with_reducible refine Know.mk fun _ => ?_); conv => whnf) | ((with_reducible refine Need.mk ?_ ?_); exact nd; conv => whnf) | ((with_reducible first | refine Both.mk ?_ ?_ | refine Any.mk fun b hb => ?_ | refine AskB.dec (fun hb => ?_) (fun hb => ?_) | refine AskB.ndec (fun hb => ?_) (fun hb => ?_) | refine AskB.mk (fun hb => ?_) (fun hb => ?_)) <;> conv => whnf) | ((with_reducible first | refine Run.drawX rfl (by decide +kernel) ?_ | refine Run.drawT rfl (by decide +kernel) ?_ | refine Run.drawW rfl (by decide +kernel) ?_); conv => whnf) | fail)
        all_goals try (rw [hs1] at hb; cases hb; done)
        refine Run.takeM 91 2000 rfl rfl rfl ?_
        rw [hs2]
        have hwn3 : rdN l (k : Int).toNat ≤ i := hwn
        refine Run.go ?_; (conv => whnf); repeat' (first | ((with_reducible refine Know.mk fun _ => ?_); conv => whnf) | ((with_reducible refine Need.mk ?_ ?_); exact nd; conv => whnf) | ((with_reducible first | refine Both.mk ?_ ?_ | refine Any.mk fun b hb => ?_ | refine AskB.dec (fun hb => ?_) (fun hb => ?_) | refine AskB.ndec (fun hb => ?_) (fun hb => ?_) | refine AskB.mk (fun hb => ?_) (fun hb => ?_)) <;> conv => whnf) | ((with_reducible first | refine Run.drawX rfl (by decide +kernel) ?_ | refine Run.drawT rfl (by decide +kernel) ?_ | refine Run.drawW rfl (by decide +kernel) ?_); conv => whnf) | fail)
        refine Run.to _ _ ?_ ?_ (IH (i + 1, no, at') (by simp only []; omega) ⟨by simp only []; omega, by simp only []; rw [hadd]; exact hI.push k i⟩)
        · exact ⟨Le.refl _, Le.refl _, Le.refl _, Le.refl _, Le.refl _, Le.refl _, Le.refl _, Le.int hwi, trivial⟩
        · refine ⟨MOle.refl _, ?_, MOle.refl _, trivial⟩
          simp only []
          rw [hadd]
          exact rdM_push l k i hk _ rfl
  · obtain rfl : i = t.wits.length := by omega
    refine Run.go ?_; (conv => whnf); repeat' (first | ((with_reducible refine Know.mk fun _ => ?_); conv => whnf) | ((with_reducible refine Need.mk ?_ ?_); exact nd; conv => whnf) | ((with_reducible first | refine Both.mk ?_ ?_ | refine Any.mk fun b hb => ?_ | refine AskB.dec (fun hb => ?_) (fun hb => ?_) | refine AskB.ndec (fun hb => ?_) (fun hb => ?_) | refine AskB.mk (fun hb => ?_) (fun hb => ?_)) <;> conv => whnf) | ((with_reducible first | refine Run.drawX rfl (by decide +kernel) ?_ | refine Run.drawT rfl (by decide +kernel) ?_ | refine Run.drawW rfl (by decide +kernel) ?_); conv => whnf) | fail)
    all_goals try (exfalso; omega)
    refine Run.leave (ts := [6]) (.inr ⟨_, rfl⟩) rfl Tryz.func36 rfl (rdM_out _)
end Go.Proofs.YteklnpgiloebcaaGreatDoor.V

namespace Go.Proofs.YteklnpgiloebcaaGreatDoor.V
set_option linter.unusedVariables false
set_option linter.unusedSimpArgs false
open Go Go.Proofs Go.RowKit
set_option maxRecDepth 100000
set_option maxHeartbeats 4000000
theorem ints_fn (a b : List Int) (ha : a.length ≤ 1000000000) : Fn Tryz.prog 61 [tI.L a, tI.L b] (.bool (decide (a = b))) := by
  refine Fn.of Tryz.f61 _ Tryz.func61 rfl (by decide) (by show 2 ≤ _; decide) tbOk 26 rfl fun S w0 gl => ?_
  refine Run.go ?_; (conv => whnf); repeat' (first | ((with_reducible refine Know.mk fun _ => ?_); conv => whnf) | ((with_reducible refine Need.mk ?_ ?_); exact nd; conv => whnf) | ((with_reducible first | refine Both.mk ?_ ?_ | refine Any.mk fun b hb => ?_ | refine AskB.dec (fun hb => ?_) (fun hb => ?_) | refine AskB.ndec (fun hb => ?_) (fun hb => ?_) | refine AskB.mk (fun hb => ?_) (fun hb => ?_)) <;> conv => whnf) | ((with_reducible first | refine Run.drawX rfl (by decide +kernel) ?_ | refine Run.drawT rfl (by decide +kernel) ?_ | refine Run.drawW rfl (by decide +kernel) ?_); conv => whnf) | fail)
  · have hab : a.length = b.length := by omega
    refine Run.loop [0, 1] (fun (i : Nat) => [(5, .int .i64 (i : Int))]) (fun i => []) (fun i => i ≤ a.length ∧ a.take i = b.take i) (fun i => a.length - i) 0 ⟨Nat.zero_le _, rfl⟩ ⟨Le.refl _, trivial⟩ trivial ?_
    intro i ⟨hi, hc⟩ IH
    have hw : IntKind.i64.wrap ((i : Int) + 1) = ((i + 1 : Nat) : Int) := wrap64 (by omega) (by omega)
    refine Run.go ?_; (conv => whnf); repeat' (first | ((with_reducible refine Know.mk fun _ => ?_); conv => whnf) | ((with_reducible refine Need.mk ?_ ?_); exact nd; conv => whnf) | ((with_reducible first | refine Both.mk ?_ ?_ | refine Any.mk fun b hb => ?_ | refine AskB.dec (fun hb => ?_) (fun hb => ?_) | refine AskB.ndec (fun hb => ?_) (fun hb => ?_) | refine AskB.mk (fun hb => ?_) (fun hb => ?_)) <;> conv => whnf) | ((with_reducible first | refine Run.drawX rfl (by decide +kernel) ?_ | refine Run.drawT rfl (by decide +kernel) ?_ | refine Run.drawW rfl (by decide +kernel) ?_); conv => whnf) | fail)
    · have he : a.getD i tI.z = b.getD i tI.z := hb
      refine Run.to _ _ ?_ ?_ (IH (i + 1) (by omega) ⟨by omega, ?_⟩)
      · exact ⟨Le.refl _, Le.refl _, Le.int hw, trivial⟩
      · exact trivial
      · rw [take_at a i tI.z (by omega), take_at b i tI.z (by omega), hc, he]
    · refine Run.leave (ts := [4]) (.inr ⟨_, rfl⟩) rfl Tryz.func61 rfl (Le.ff.trans (Le.bool (decide_eq_false (fun h => ?_)).symm))
      subst h
      exact hb rfl
    · have hie : i = a.length := by omega
      refine Run.leave (ts := [4]) (.inr ⟨_, rfl⟩) rfl Tryz.func61 rfl (Le.tt.trans (Le.bool (decide_eq_true ?_).symm))
      rw [hie, List.take_length, hab, List.take_length] at hc
      exact hc
  · refine Run.leave (ts := [4]) (.inr ⟨_, rfl⟩) rfl Tryz.func61 rfl (Le.ff.trans (Le.bool (decide_eq_false (fun h => ?_)).symm))
    rw [h] at hb; exact hb rfl
theorem one_fn (a b : Rd) (ha : a.wits.length ≤ 1000000000) : Fn Tryz.prog 37 [.agg 3 (tRd.enc a), .agg 3 (tRd.enc b)] (.bool (decide (a = b))) := by
  refine Fn.of Tryz.f37 _ Tryz.func37 rfl (by decide) (by show 2 ≤ _; decide) tbOk 24 rfl fun S w0 gl => ?_
  have hd : ∀ {P : Prop}, (a = b → ¬ P) → P → decide (a = b) = false := fun h p => decide_eq_false (fun e => h e p)
  refine Run.go ?_; (conv => whnf); repeat' (first | ((with_reducible refine Know.mk fun _ => ?_); conv => whnf) | ((with_reducible refine Need.mk ?_ ?_); exact nd; conv => whnf) | ((with_reducible first | refine Both.mk ?_ ?_ | refine Any.mk fun b hb => ?_ | refine AskB.dec (fun hb => ?_) (fun hb => ?_) | refine AskB.ndec (fun hb => ?_) (fun hb => ?_) | refine AskB.mk (fun hb => ?_) (fun hb => ?_)) <;> conv => whnf) | ((with_reducible first | refine Run.drawX rfl (by decide +kernel) ?_ | refine Run.drawT rfl (by decide +kernel) ?_ | refine Run.drawW rfl (by decide +kernel) ?_); conv => whnf) | fail)
  · refine Run.callBX (ints_fn a.wits b.wits ha) rfl rfl ⟨Le.refl _, Le.refl _, trivial⟩ rfl rfl rfl ?_
    (conv => whnf); repeat' (first | ((with_reducible refine Know.mk fun _ => ?_); conv => whnf) | ((with_reducible refine Need.mk ?_ ?_); exact nd; conv => whnf) | ((with_reducible first | refine Both.mk ?_ ?_ | refine Any.mk fun b hb => ?_ | refine AskB.dec (fun hb => ?_) (fun hb => ?_) | refine AskB.ndec (fun hb => ?_) (fun hb => ?_) | refine AskB.mk (fun hb => ?_) (fun hb => ?_)) <;> conv => whnf) | ((with_reducible first | refine Run.drawX rfl (by decide +kernel) ?_ | refine Run.drawT rfl (by decide +kernel) ?_ | refine Run.drawW rfl (by decide +kernel) ?_); conv => whnf) | fail)
    refine Run.leave (ts := [4]) (.inr ⟨_, rfl⟩) rfl Tryz.func37 rfl (Le.bool ?_)
    have h1 : a.none = b.none := by
      have h9 : (a.none == b.none) = true := by assumption
      simpa using h9
    have h2 : a.text = b.text := hb
    rw [decide_eq_decide]
    constructor
    · intro h3
      cases a; cases b
      simp only at h1 h2 h3
      rw [h1, h2, h3]
    · intro h; rw [h]
  · exact Run.leave (ts := [4]) (.inr ⟨_, rfl⟩) rfl Tryz.func37 rfl (Le.ff.trans (Le.bool (hd (fun e h => h (by rw [e])) hb).symm))
  · refine Run.leave (ts := [4]) (.inr ⟨_, rfl⟩) rfl Tryz.func37 rfl (Le.ff.trans (Le.bool (hd (fun e h => ?_) hb).symm))
    subst e; simp at h
theorem same16_fn (a b : List Rd) (ha : a.length ≤ 1000000000) (hw : ∀ r ∈ a, r.wits.length ≤ 1000000000) : Fn Tryz.prog 20 [tRd.L a, tRd.L b] (.bool (decide (a = b))) := by
  refine Fn.of Tryz.f20 _ Tryz.func20 rfl (by decide) (by show 2 ≤ _; decide) tbOk 27 rfl fun S w0 gl => ?_
  refine Run.go ?_; (conv => whnf); repeat' (first | ((with_reducible refine Know.mk fun _ => ?_); conv => whnf) | ((with_reducible refine Need.mk ?_ ?_); exact nd; conv => whnf) | ((with_reducible first | refine Both.mk ?_ ?_ | refine Any.mk fun b hb => ?_ | refine AskB.dec (fun hb => ?_) (fun hb => ?_) | refine AskB.ndec (fun hb => ?_) (fun hb => ?_) | refine AskB.mk (fun hb => ?_) (fun hb => ?_)) <;> conv => whnf) | ((with_reducible first | refine Run.drawX rfl (by decide +kernel) ?_ | refine Run.drawT rfl (by decide +kernel) ?_ | refine Run.drawW rfl (by decide +kernel) ?_); conv => whnf) | fail)
  · have hab : a.length = b.length := by omega
    refine Run.loop [0, 1] (fun (i : Nat) => [(5, .int .i64 (i : Int))]) (fun i => []) (fun i => i ≤ a.length ∧ a.take i = b.take i) (fun i => a.length - i) 0 ⟨Nat.zero_le _, rfl⟩ ⟨Le.refl _, trivial⟩ trivial ?_
    intro i ⟨hi, hc⟩ IH
    have hw2 : IntKind.i64.wrap ((i : Int) + 1) = ((i + 1 : Nat) : Int) := wrap64 (by omega) (by omega)
    refine Run.go ?_; (conv => whnf); repeat' (first | ((with_reducible refine Know.mk fun _ => ?_); conv => whnf) | ((with_reducible refine Need.mk ?_ ?_); exact nd; conv => whnf) | ((with_reducible first | refine Both.mk ?_ ?_ | refine Any.mk fun b hb => ?_ | refine AskB.dec (fun hb => ?_) (fun hb => ?_) | refine AskB.ndec (fun hb => ?_) (fun hb => ?_) | refine AskB.mk (fun hb => ?_) (fun hb => ?_)) <;> conv => whnf) | ((with_reducible first | refine Run.drawX rfl (by decide +kernel) ?_ | refine Run.drawT rfl (by decide +kernel) ?_ | refine Run.drawW rfl (by decide +kernel) ?_); conv => whnf) | fail)
    · have hil : i < a.length := by omega
      refine CallQ.flat (one_fn (a.getD i tRd.z) (b.getD i tRd.z) (hw _ (getD_mem' i hil))) rfl ⟨?_, ?_, trivial⟩ rfl ?_
      · exact Le.agg fun j hj => by
          match j, hj with
          | 0, _ => exact Le.refl _
          | 1, _ => exact Le.refl _
          | 2, _ => exact Le.refl _
      · exact Le.agg fun j hj => by
          match j, hj with
          | 0, _ => exact Le.refl _
          | 1, _ => exact Le.refl _
          | 2, _ => exact Le.refl _
      (conv => whnf); repeat' (first | ((with_reducible refine Know.mk fun _ => ?_); conv => whnf) | ((with_reducible refine Need.mk ?_ ?_); exact nd; conv => whnf) | ((with_reducible first | refine Both.mk ?_ ?_ | refine Any.mk fun b hb => ?_ | refine AskB.dec (fun hb => ?_) (fun hb => ?_) | refine AskB.ndec (fun hb => ?_) (fun hb => ?_) | refine AskB.mk (fun hb => ?_) (fun hb => ?_)) <;> conv => whnf) | ((with_reducible first | refine Run.drawX rfl (by decide +kernel) ?_ | refine Run.drawT rfl (by decide +kernel) ?_ | refine Run.drawW rfl (by decide +kernel) ?_); conv => whnf) | fail)
      · have he : a.getD i tRd.z = b.getD i tRd.z := hb
        refine Run.to _ _ ?_ ?_ (IH (i + 1) (by omega) ⟨by omega, ?_⟩)
        · exact ⟨Le.refl _, Le.refl _, Le.int hw2, trivial⟩
        · exact trivial
        · rw [take_at a i tRd.z (by omega), take_at b i tRd.z (by omega), hc, he]
      · refine Run.leave (ts := [4]) (.inr ⟨_, rfl⟩) rfl Tryz.func20 rfl (Le.ff.trans (Le.bool (decide_eq_false (fun h => ?_)).symm))
        subst h
        exact hb rfl
    · have hie : i = a.length := by omega
      refine Run.leave (ts := [4]) (.inr ⟨_, rfl⟩) rfl Tryz.func20 rfl (Le.tt.trans (Le.bool (decide_eq_true ?_).symm))
      rw [hie, List.take_length, hab, List.take_length] at hc
      exact hc
  · refine Run.leave (ts := [4]) (.inr ⟨_, rfl⟩) rfl Tryz.func20 rfl (Le.ff.trans (Le.bool (decide_eq_false (fun h => ?_)).symm))
    rw [h] at hb; exact hb rfl
def sitesE (t : Tab) (o : Int) : Nat → List Int
  | 0 => []
  | c + 1 => if 1 < (readE t c o t.wits.length).length then sitesE t o c ++ [(c : Int)] else sitesE t o c
theorem sites_len (t : Tab) (o : Int) : ∀ c, (sitesE t o c).length ≤ c
  | 0 => Nat.le_refl _
  | c + 1 => by
    have := sites_len t o c
    unfold sitesE
    split
    · rw [List.length_append, List.length_singleton]; omega
    · omega
open Classical in
noncomputable def siteCode (t : Tab) (o : Int) : Int := if ¬ OkT t then 121 else if badO o then 2 else 0
noncomputable def sitesL (t : Tab) (o : Int) : AV := tupL [tI.L (if siteCode t o = 0 then sitesE t o t.cols.length else []), .int .i64 (siteCode t o)]
theorem sitesL_no {t : Tab} (o : Int) (h : ¬ OkT t) : sitesL t o = tupL [tI.L [], .int .i64 121] := by
  unfold sitesL siteCode
  rw [if_pos h, if_neg (by decide)]
theorem sitesL_bad {t : Tab} {o : Int} (h : OkT t) (hb : badO o) : sitesL t o = tupL [tI.L [], .int .i64 2] := by
  have hc : siteCode t o = 2 := by unfold siteCode; rw [if_neg (not_not_intro h), if_pos hb]
  unfold sitesL
  rw [hc, if_neg (by decide)]
theorem sitesL_ok {t : Tab} {o : Int} (h : OkT t) (hb : ¬ badO o) : sitesL t o = tupL [tI.L (sitesE t o t.cols.length), .int .i64 0] := by
  have hc : siteCode t o = 0 := by unfold siteCode; rw [if_neg (not_not_intro h), if_neg hb]
  unfold sitesL
  rw [hc, if_pos rfl]
theorem sites_fn (t : Tab) (o : Int) (hf : FitT t) : Fn Tryz.prog 18 [tbA t, .int .i64 o] (sitesL t o) := by
  refine Fn.of Tryz.f18 _ Tryz.func18 rfl (by decide) (by show 2 ≤ _; decide) tbOk 38 rfl fun S w0 gl => ?_
  refine Run.go ?_; (conv => whnf); repeat' (first | ((with_reducible refine Know.mk fun _ => ?_); conv => whnf) | ((with_reducible refine Need.mk ?_ ?_); exact nd; conv => whnf) | ((with_reducible first | refine Both.mk ?_ ?_ | refine Any.mk fun b hb => ?_ | refine AskB.dec (fun hb => ?_) (fun hb => ?_) | refine AskB.ndec (fun hb => ?_) (fun hb => ?_) | refine AskB.mk (fun hb => ?_) (fun hb => ?_)) <;> conv => whnf) | ((with_reducible first | refine Run.drawX rfl (by decide +kernel) ?_ | refine Run.drawT rfl (by decide +kernel) ?_ | refine Run.drawW rfl (by decide +kernel) ?_); conv => whnf) | fail)
  refine Run.callBX (check_fn t hf) rfl rfl ⟨tb_le t (Le.refl _) (Le.refl _), trivial⟩ rfl rfl rfl ?_
  rcases chk_01 t with ⟨hok, he⟩ | ⟨hok, he⟩
  · rw [he]
    (conv => whnf); repeat' (first | ((with_reducible refine Know.mk fun _ => ?_); conv => whnf) | ((with_reducible refine Need.mk ?_ ?_); exact nd; conv => whnf) | ((with_reducible refine Both.mk ?_ ?_) <;> conv => whnf) | ((with_reducible refine Any.mk fun b hb => ?_); conv => whnf) | ((with_reducible first | refine AskB.dec (fun hb => ?_) (fun hb => ?_) | refine AskB.ndec (fun hb => ?_) (fun hb => ?_) | refine AskB.mk (fun hb => ?_) (fun hb => ?_)) <;> first | (exfalso; omega) | (conv => whnf)) | ((with_reducible first | refine Run.drawX rfl (by decide +kernel) ?_ | refine Run.drawT rfl (by decide +kernel) ?_ | refine Run.drawW rfl (by decide +kernel) ?_); conv => whnf) | fail)
    all_goals try (exfalso; omega)
    · rw [sitesL_bad hok (.inl (by omega))]
      exact Run.leave (ts := [4,5]) (.inr ⟨_, rfl⟩) rfl Tryz.func18 rfl (resT ⟨tI.nil, Le.refl _, trivial⟩)
    · rw [sitesL_bad hok (.inr (by omega))]
      exact Run.leave (ts := [4,5]) (.inr ⟨_, rfl⟩) rfl Tryz.func18 rfl (resT ⟨tI.nil, Le.refl _, trivial⟩)
    have hob : ¬ badO o := fun h => by unfold badO at h; omega
    rw [sitesL_ok hok hob]
    have hnc := hok.nc
    refine Run.holdNil 7 1000 3 1 (fun _ _ => .u) rfl ?_
    refine Run.loop [1, 22] (fun (c : Nat) => [(2, .box 2 0), (7, .row 1000), (23, .int .i64 (c : Int))]) (fun c => [(2, .box 35 [tWit.L t.wits, tIL.L t.cols]), (1000, tI.R 3 (sitesE t o c))]) (fun c => c ≤ t.cols.length) (fun c => t.cols.length - c) 0 (Nat.zero_le _) ⟨Le.refl _, Le.refl _, Le.refl _, trivial⟩ ⟨MOle.refl _, ⟨rfl, rfl, rfl, fun i j hi => absurd hi (Nat.not_lt_zero _)⟩, trivial⟩ ?_
    intro c hc IH
    have hwc : IntKind.i64.wrap ((c : Int) + 1) = ((c + 1 : Nat) : Int) := wrap64 (by omega) (by omega)
    have hsl := sites_len t o c
    have hnx : sitesE t o (c + 1) = if 1 < (readE t c o t.wits.length).length then sitesE t o c ++ [(c : Int)] else sitesE t o c := rfl
    show Run _ _ (lst (_ ++ [(2, .box 2 0), (7, .row 1000), (23, .int .i64 (c : Int))])) (lstH [(2, .box 35 [tWit.L t.wits, tIL.L t.cols]), (1000, tI.R 3 (sitesE t o c))])
    refine Run.go ?_; (conv => whnf); repeat' (first | ((with_reducible refine Know.mk fun _ => ?_); conv => whnf) | ((with_reducible refine Need.mk ?_ ?_); exact nd; conv => whnf) | ((with_reducible first | refine Both.mk ?_ ?_ | refine Any.mk fun b hb => ?_ | refine AskB.dec (fun hb => ?_) (fun hb => ?_) | refine AskB.ndec (fun hb => ?_) (fun hb => ?_) | refine AskB.mk (fun hb => ?_) (fun hb => ?_)) <;> conv => whnf) | ((with_reducible first | refine Run.drawX rfl (by decide +kernel) ?_ | refine Run.drawT rfl (by decide +kernel) ?_ | refine Run.drawW rfl (by decide +kernel) ?_); conv => whnf) | fail)
    · have hcl : c < t.cols.length := by omega
      refine Run.callBX (column_fn t c o hf hok hcl hob) rfl rfl ⟨tb_le t (Le.refl _) (Le.refl _), Le.refl _, Le.refl _, trivial⟩ rfl rfl rfl ?_
      generalize readE t c o t.wits.length = rs at hnx ⊢
      generalize sitesE t o c = L at hsl hnx ⊢
      (conv => whnf); repeat' (first | ((with_reducible refine Know.mk fun _ => ?_); conv => whnf) | ((with_reducible refine Need.mk ?_ ?_); exact nd; conv => whnf) | ((with_reducible first | refine Both.mk ?_ ?_ | refine Any.mk fun b hb => ?_ | refine AskB.dec (fun hb => ?_) (fun hb => ?_) | refine AskB.ndec (fun hb => ?_) (fun hb => ?_) | refine AskB.mk (fun hb => ?_) (fun hb => ?_)) <;> conv => whnf) | ((with_reducible first | refine Run.drawX rfl (by decide +kernel) ?_ | refine Run.drawT rfl (by decide +kernel) ?_ | refine Run.drawW rfl (by decide +kernel) ?_); conv => whnf) | fail)
      · rw [if_pos (by omega)] at hnx
        refine Run.hold (z := 35) 7 1000 (by rfl) (by rfl) (by rfl) ?_
        refine Run.to _ _ ?_ ?_ (IH (c + 1) (by omega) (by omega))
        · exact ⟨Le.refl _, Le.refl _, Le.refl _, Le.refl _, Le.int hwc, trivial⟩
        · refine ⟨MOle.refl _, ?_, trivial⟩
          rw [hnx]
          exact tI.push 3 L (c : Int) _ (one0 (Le.refl _))
      · rw [if_neg (by omega)] at hnx
        refine Run.to _ _ ?_ ?_ (IH (c + 1) (by omega) (by omega))
        · exact ⟨Le.refl _, Le.refl _, Le.refl _, Le.refl _, Le.int hwc, trivial⟩
        · refine ⟨MOle.refl _, ?_, trivial⟩
          rw [hnx]; exact MOle.refl _
    · obtain rfl : c = t.cols.length := by omega
      exact Run.leave (ts := [4,5]) (.inr ⟨_, rfl⟩) rfl Tryz.func18 rfl (resT ⟨Le.refl _, Le.refl _, trivial⟩)
  · rw [he, sitesL_no o hok]
    (conv => whnf); repeat' (first | ((with_reducible refine Know.mk fun _ => ?_); conv => whnf) | ((with_reducible refine Need.mk ?_ ?_); exact nd; conv => whnf) | ((with_reducible refine Both.mk ?_ ?_) <;> conv => whnf) | ((with_reducible refine Any.mk fun b hb => ?_); conv => whnf) | ((with_reducible first | refine AskB.dec (fun hb => ?_) (fun hb => ?_) | refine AskB.ndec (fun hb => ?_) (fun hb => ?_) | refine AskB.mk (fun hb => ?_) (fun hb => ?_)) <;> first | (exfalso; omega) | (conv => whnf)) | ((with_reducible first | refine Run.drawX rfl (by decide +kernel) ?_ | refine Run.drawT rfl (by decide +kernel) ?_ | refine Run.drawW rfl (by decide +kernel) ?_); conv => whnf) | fail)
    all_goals try (exfalso; omega)
    exact Run.leave (ts := [4,5]) (.inr ⟨_, rfl⟩) rfl Tryz.func18 rfl (resT ⟨tI.nil, Le.refl _, trivial⟩)
end Go.Proofs.YteklnpgiloebcaaGreatDoor.V

namespace Go.Proofs.YteklnpgiloebcaaGreatDoor.V
set_option linter.unusedVariables false
set_option linter.unusedSimpArgs false
open Go Go.Proofs Go.RowKit
set_option maxRecDepth 100000
set_option maxHeartbeats 4000000
def badC (t : Tab) (c : Int) : Prop := c < 0 ∨ (t.cols.length : Int) ≤ c
open Classical in
noncomputable def readCode (t : Tab) (c o : Int) : Int := if ¬ OkT t then 121 else if badO o ∨ badC t c then 2 else 0
noncomputable def readR (t : Tab) (c o : Int) : List Rd := if readCode t c o = 0 then readE t c.toNat o t.wits.length else []
noncomputable def readL (t : Tab) (c o : Int) : AV := tupL [tRd.L (readR t c o), .int .i64 (readCode t c o)]
theorem rc_no {t : Tab} (c o : Int) (h : ¬ OkT t) : readCode t c o = 121 ∧ readR t c o = [] := by
  have hc : readCode t c o = 121 := if_pos h
  exact ⟨hc, if_neg (by rw [hc]; decide)⟩
theorem rc_bad {t : Tab} {c o : Int} (h : OkT t) (hb : badO o ∨ badC t c) : readCode t c o = 2 ∧ readR t c o = [] := by
  have hc : readCode t c o = 2 := by unfold readCode; rw [if_neg (not_not_intro h), if_pos hb]
  exact ⟨hc, if_neg (by rw [hc]; decide)⟩
theorem rc_ok {t : Tab} {c o : Int} (h : OkT t) (hb : ¬ badO o) (hc : ¬ badC t c) : readCode t c o = 0 ∧ readR t c o = readE t c.toNat o t.wits.length := by
  have hd : readCode t c o = 0 := by unfold readCode; rw [if_neg (not_not_intro h), if_neg (fun g => g.elim hb hc)]
  exact ⟨hd, if_pos hd⟩
theorem rc_cases (t : Tab) (c o : Int) : (¬ OkT t ∧ readCode t c o = 121 ∧ readR t c o = []) ∨ (OkT t ∧ (badO o ∨ badC t c) ∧ readCode t c o = 2 ∧ readR t c o = []) ∨ (OkT t ∧ ¬ badO o ∧ ¬ badC t c ∧ readCode t c o = 0 ∧ readR t c o = readE t c.toNat o t.wits.length) := by
  by_cases h : OkT t
  · by_cases hb : badO o ∨ badC t c
    · exact .inr (.inl ⟨h, hb, rc_bad h hb⟩)
    · exact .inr (.inr ⟨h, fun g => hb (.inl g), fun g => hb (.inr g), rc_ok h (fun g => hb (.inl g)) (fun g => hb (.inr g))⟩)
  · exact .inl ⟨h, rc_no c o h⟩
theorem readings_fn (t : Tab) (c o : Int) (hf : FitT t) : Fn Tryz.prog 19 [tbA t, .int .i64 c, .int .i64 o] (readL t c o) := by
  refine Fn.of Tryz.f19 _ Tryz.func19 rfl (by decide) (by show 3 ≤ _; decide) tbOk 35 rfl fun S w0 gl => ?_
  refine Run.go ?_; (conv => whnf); repeat' (first | ((with_reducible refine Know.mk fun _ => ?_); conv => whnf) | ((with_reducible refine Need.mk ?_ ?_); exact nd; conv => whnf) | ((with_reducible first | refine Both.mk ?_ ?_ | refine Any.mk fun b hb => ?_ | refine AskB.dec (fun hb => ?_) (fun hb => ?_) | refine AskB.ndec (fun hb => ?_) (fun hb => ?_) | refine AskB.mk (fun hb => ?_) (fun hb => ?_)) <;> conv => whnf) | ((with_reducible first | refine Run.drawX rfl (by decide +kernel) ?_ | refine Run.drawT rfl (by decide +kernel) ?_ | refine Run.drawW rfl (by decide +kernel) ?_); conv => whnf) | fail)
  refine Run.callBX (check_fn t hf) rfl rfl ⟨tb_le t (Le.refl _) (Le.refl _), trivial⟩ rfl rfl rfl ?_
  have hfc := hf.cols
  unfold readL
  rcases chk_01 t with ⟨hok, he⟩ | ⟨hok, he⟩
  · rw [he]
    (conv => whnf); repeat' (first | ((with_reducible refine Know.mk fun _ => ?_); conv => whnf) | ((with_reducible refine Need.mk ?_ ?_); exact nd; conv => whnf) | ((with_reducible refine Both.mk ?_ ?_) <;> conv => whnf) | ((with_reducible refine Any.mk fun b hb => ?_); conv => whnf) | ((with_reducible first | refine AskB.dec (fun hb => ?_) (fun hb => ?_) | refine AskB.ndec (fun hb => ?_) (fun hb => ?_) | refine AskB.mk (fun hb => ?_) (fun hb => ?_)) <;> first | (exfalso; omega) | (conv => whnf)) | ((with_reducible first | refine Run.drawX rfl (by decide +kernel) ?_ | refine Run.drawT rfl (by decide +kernel) ?_ | refine Run.drawW rfl (by decide +kernel) ?_); conv => whnf) | fail)
    all_goals try (exfalso; omega)
    all_goals try (
      have hbad : badO o ∨ badC t c := by unfold badO badC; omega
      rw [(rc_bad hok hbad).1, (rc_bad hok hbad).2]
      exact Run.leave (ts := [6,7]) (.inr ⟨_, rfl⟩) rfl Tryz.func19 rfl (resT ⟨tRd.nil, Le.refl _, trivial⟩))
    have hbo : ¬ badO o := by unfold badO; omega
    have hbc : ¬ badC t c := by unfold badC; omega
    have hcc : c.toNat < t.cols.length := by omega
    rw [(rc_ok hok hbo hbc).1, (rc_ok hok hbo hbc).2]
    refine Run.callBX (column_fn t c.toNat o hf hok hcc hbo) rfl rfl ⟨tb_le t (Le.refl _) (Le.refl _), Le.int (by omega), Le.refl _, trivial⟩ rfl rfl rfl ?_
    (conv => whnf); repeat' (first | ((with_reducible refine Know.mk fun _ => ?_); conv => whnf) | ((with_reducible refine Need.mk ?_ ?_); exact nd; conv => whnf) | ((with_reducible first | refine Both.mk ?_ ?_ | refine Any.mk fun b hb => ?_ | refine AskB.dec (fun hb => ?_) (fun hb => ?_) | refine AskB.ndec (fun hb => ?_) (fun hb => ?_) | refine AskB.mk (fun hb => ?_) (fun hb => ?_)) <;> conv => whnf) | ((with_reducible first | refine Run.drawX rfl (by decide +kernel) ?_ | refine Run.drawT rfl (by decide +kernel) ?_ | refine Run.drawW rfl (by decide +kernel) ?_); conv => whnf) | fail)
    exact Run.leave (ts := [6,7]) (.inr ⟨_, rfl⟩) rfl Tryz.func19 rfl (resT ⟨Le.refl _, Le.refl _, trivial⟩)
  · rw [he, (rc_no c o hok).1, (rc_no c o hok).2]
    (conv => whnf); repeat' (first | ((with_reducible refine Know.mk fun _ => ?_); conv => whnf) | ((with_reducible refine Need.mk ?_ ?_); exact nd; conv => whnf) | ((with_reducible refine Both.mk ?_ ?_) <;> conv => whnf) | ((with_reducible refine Any.mk fun b hb => ?_); conv => whnf) | ((with_reducible first | refine AskB.dec (fun hb => ?_) (fun hb => ?_) | refine AskB.ndec (fun hb => ?_) (fun hb => ?_) | refine AskB.mk (fun hb => ?_) (fun hb => ?_)) <;> first | (exfalso; omega) | (conv => whnf)) | ((with_reducible first | refine Run.drawX rfl (by decide +kernel) ?_ | refine Run.drawT rfl (by decide +kernel) ?_ | refine Run.drawW rfl (by decide +kernel) ?_); conv => whnf) | fail)
    all_goals try (exfalso; omega)
    exact Run.leave (ts := [6,7]) (.inr ⟨_, rfl⟩) rfl Tryz.func19 rfl (resT ⟨tRd.nil, Le.refl _, trivial⟩)
theorem wrong45_fn (t : Tab) (c o : Int) (hf : FitT t) : Fn Tryz.prog 51 [tbA t, .int .i64 c, .int .i64 o] (.int .i64 (readCode t c o)) := by
  refine Fn.of Tryz.f51 _ Tryz.func51 rfl (by decide) (by show 3 ≤ _; decide) tbOk 27 rfl fun S w0 gl => ?_
  refine Run.go ?_; (conv => whnf); repeat' (first | ((with_reducible refine Know.mk fun _ => ?_); conv => whnf) | ((with_reducible refine Need.mk ?_ ?_); exact nd; conv => whnf) | ((with_reducible first | refine Both.mk ?_ ?_ | refine Any.mk fun b hb => ?_ | refine AskB.dec (fun hb => ?_) (fun hb => ?_) | refine AskB.ndec (fun hb => ?_) (fun hb => ?_) | refine AskB.mk (fun hb => ?_) (fun hb => ?_)) <;> conv => whnf) | ((with_reducible first | refine Run.drawX rfl (by decide +kernel) ?_ | refine Run.drawT rfl (by decide +kernel) ?_ | refine Run.drawW rfl (by decide +kernel) ?_); conv => whnf) | fail)
  refine Run.callBX (check12_fn t hf) rfl rfl ⟨tb_le t (Le.refl _) (Le.refl _), trivial⟩ rfl rfl rfl ?_
  rcases chk_01 t with ⟨hok, he⟩ | ⟨hok, he⟩
  · rw [he]
    (conv => whnf); repeat' (first | ((with_reducible refine Know.mk fun _ => ?_); conv => whnf) | ((with_reducible refine Need.mk ?_ ?_); exact nd; conv => whnf) | ((with_reducible refine Both.mk ?_ ?_) <;> conv => whnf) | ((with_reducible refine Any.mk fun b hb => ?_); conv => whnf) | ((with_reducible first | refine AskB.dec (fun hb => ?_) (fun hb => ?_) | refine AskB.ndec (fun hb => ?_) (fun hb => ?_) | refine AskB.mk (fun hb => ?_) (fun hb => ?_)) <;> first | (exfalso; omega) | (conv => whnf)) | ((with_reducible first | refine Run.drawX rfl (by decide +kernel) ?_ | refine Run.drawT rfl (by decide +kernel) ?_ | refine Run.drawW rfl (by decide +kernel) ?_); conv => whnf) | fail)
    all_goals try (exfalso; omega)
    all_goals try (
      have hbad : badO o ∨ badC t c := by unfold badO badC; omega
      rw [(rc_bad hok hbad).1]
      exact Run.leave (ts := [6]) (.inr ⟨_, rfl⟩) rfl Tryz.func51 rfl (Le.refl _))
    have hbo : ¬ badO o := by unfold badO; omega
    have hbc : ¬ badC t c := by unfold badC; omega
    rw [(rc_ok hok hbo hbc).1]
    exact Run.leave (ts := [6]) (.inr ⟨_, rfl⟩) rfl Tryz.func51 rfl (Le.refl _)
  · rw [he, (rc_no c o hok).1]
    (conv => whnf); repeat' (first | ((with_reducible refine Know.mk fun _ => ?_); conv => whnf) | ((with_reducible refine Need.mk ?_ ?_); exact nd; conv => whnf) | ((with_reducible refine Both.mk ?_ ?_) <;> conv => whnf) | ((with_reducible refine Any.mk fun b hb => ?_); conv => whnf) | ((with_reducible first | refine AskB.dec (fun hb => ?_) (fun hb => ?_) | refine AskB.ndec (fun hb => ?_) (fun hb => ?_) | refine AskB.mk (fun hb => ?_) (fun hb => ?_)) <;> first | (exfalso; omega) | (conv => whnf)) | ((with_reducible first | refine Run.drawX rfl (by decide +kernel) ?_ | refine Run.drawT rfl (by decide +kernel) ?_ | refine Run.drawW rfl (by decide +kernel) ?_); conv => whnf) | fail)
    all_goals try (exfalso; omega)
    exact Run.leave (ts := [6]) (.inr ⟨_, rfl⟩) rfl Tryz.func51 rfl (Le.refl _)
theorem readings16_fn (t : Tab) (c o : Int) (hf : FitT t) : Fn Tryz.prog 27 [tbA t, .int .i64 c, .int .i64 o] (readL t c o) := by
  refine Fn.of Tryz.f27 _ Tryz.func27 rfl (by decide) (by show 3 ≤ _; decide) tbOk 20 rfl fun S w0 gl => ?_
  refine Run.go ?_; (conv => whnf); repeat' (first | ((with_reducible refine Know.mk fun _ => ?_); conv => whnf) | ((with_reducible refine Need.mk ?_ ?_); exact nd; conv => whnf) | ((with_reducible first | refine Both.mk ?_ ?_ | refine Any.mk fun b hb => ?_ | refine AskB.dec (fun hb => ?_) (fun hb => ?_) | refine AskB.ndec (fun hb => ?_) (fun hb => ?_) | refine AskB.mk (fun hb => ?_) (fun hb => ?_)) <;> conv => whnf) | ((with_reducible first | refine Run.drawX rfl (by decide +kernel) ?_ | refine Run.drawT rfl (by decide +kernel) ?_ | refine Run.drawW rfl (by decide +kernel) ?_); conv => whnf) | fail)
  refine Run.callBX (wrong45_fn t c o hf) rfl rfl ⟨tb_le t (Le.refl _) (Le.refl _), Le.refl _, Le.refl _, trivial⟩ rfl rfl rfl ?_
  unfold readL
  rcases rc_cases t c o with ⟨_, h1, h2⟩ | ⟨_, _, h1, h2⟩ | ⟨hok, hbo, hbc, h1, h2⟩
  · rw [h1, h2]
    (conv => whnf); repeat' (first | ((with_reducible refine Know.mk fun _ => ?_); conv => whnf) | ((with_reducible refine Need.mk ?_ ?_); exact nd; conv => whnf) | ((with_reducible refine Both.mk ?_ ?_) <;> conv => whnf) | ((with_reducible refine Any.mk fun b hb => ?_); conv => whnf) | ((with_reducible first | refine AskB.dec (fun hb => ?_) (fun hb => ?_) | refine AskB.ndec (fun hb => ?_) (fun hb => ?_) | refine AskB.mk (fun hb => ?_) (fun hb => ?_)) <;> first | (exfalso; omega) | (conv => whnf)) | ((with_reducible first | refine Run.drawX rfl (by decide +kernel) ?_ | refine Run.drawT rfl (by decide +kernel) ?_ | refine Run.drawW rfl (by decide +kernel) ?_); conv => whnf) | fail)
    all_goals try (exfalso; omega)
    exact Run.leave (ts := [6,7]) (.inr ⟨_, rfl⟩) rfl Tryz.func27 rfl (resT ⟨tRd.nil, Le.refl _, trivial⟩)
  · rw [h1, h2]
    (conv => whnf); repeat' (first | ((with_reducible refine Know.mk fun _ => ?_); conv => whnf) | ((with_reducible refine Need.mk ?_ ?_); exact nd; conv => whnf) | ((with_reducible refine Both.mk ?_ ?_) <;> conv => whnf) | ((with_reducible refine Any.mk fun b hb => ?_); conv => whnf) | ((with_reducible first | refine AskB.dec (fun hb => ?_) (fun hb => ?_) | refine AskB.ndec (fun hb => ?_) (fun hb => ?_) | refine AskB.mk (fun hb => ?_) (fun hb => ?_)) <;> first | (exfalso; omega) | (conv => whnf)) | ((with_reducible first | refine Run.drawX rfl (by decide +kernel) ?_ | refine Run.drawT rfl (by decide +kernel) ?_ | refine Run.drawW rfl (by decide +kernel) ?_); conv => whnf) | fail)
    all_goals try (exfalso; omega)
    exact Run.leave (ts := [6,7]) (.inr ⟨_, rfl⟩) rfl Tryz.func27 rfl (resT ⟨tRd.nil, Le.refl _, trivial⟩)
  · rw [h1, h2]
    (conv => whnf); repeat' (first | ((with_reducible refine Know.mk fun _ => ?_); conv => whnf) | ((with_reducible refine Need.mk ?_ ?_); exact nd; conv => whnf) | ((with_reducible refine Both.mk ?_ ?_) <;> conv => whnf) | ((with_reducible refine Any.mk fun b hb => ?_); conv => whnf) | ((with_reducible first | refine AskB.dec (fun hb => ?_) (fun hb => ?_) | refine AskB.ndec (fun hb => ?_) (fun hb => ?_) | refine AskB.mk (fun hb => ?_) (fun hb => ?_)) <;> first | (exfalso; omega) | (conv => whnf)) | ((with_reducible first | refine Run.drawX rfl (by decide +kernel) ?_ | refine Run.drawT rfl (by decide +kernel) ?_ | refine Run.drawW rfl (by decide +kernel) ?_); conv => whnf) | fail)
    all_goals try (exfalso; omega)
    have hcc : c.toNat < t.cols.length := by unfold badC at hbc; omega
    have hc0 : 0 ≤ c := by unfold badC at hbc; omega
    refine Run.callBX (read41_fn t c.toNat o hf hok hcc hbo) rfl rfl ⟨tb_le t (Le.refl _) (Le.refl _), Le.int (by omega), Le.refl _, trivial⟩ rfl rfl rfl ?_
    (conv => whnf); repeat' (first | ((with_reducible refine Know.mk fun _ => ?_); conv => whnf) | ((with_reducible refine Need.mk ?_ ?_); exact nd; conv => whnf) | ((with_reducible first | refine Both.mk ?_ ?_ | refine Any.mk fun b hb => ?_ | refine AskB.dec (fun hb => ?_) (fun hb => ?_) | refine AskB.ndec (fun hb => ?_) (fun hb => ?_) | refine AskB.mk (fun hb => ?_) (fun hb => ?_)) <;> conv => whnf) | ((with_reducible first | refine Run.drawX rfl (by decide +kernel) ?_ | refine Run.drawT rfl (by decide +kernel) ?_ | refine Run.drawW rfl (by decide +kernel) ?_); conv => whnf) | fail)
    exact Run.leave (ts := [6,7]) (.inr ⟨_, rfl⟩) rfl Tryz.func27 rfl (resT ⟨Le.refl _, Le.refl _, trivial⟩)
end Go.Proofs.YteklnpgiloebcaaGreatDoor.V

namespace Go.Proofs.YteklnpgiloebcaaGreatDoor.V
set_option linter.unusedVariables false
set_option linter.unusedSimpArgs false
open Go Go.Proofs Go.RowKit
set_option maxRecDepth 100000
/-! ### folding by nothing -/
/-! ### a witness more -/
/-- What the witnesses of a reading have of it. -/
structure WsOk (t : Tab) (c : Nat) (o : Int) (n : Nat) (r : Rd) : Prop where
  pos : 0 < r.wits.length
  up : ∀ k, k + 1 < r.wits.length → r.wits.getD k 0 < r.wits.getD (k + 1) 0
  at' : ∀ k, k < r.wits.length → 0 ≤ r.wits.getD k 0 ∧ r.wits.getD k 0 < n ∧ r.none = decide (atC t c (r.wits.getD k 0).toNat < 0) ∧ textF r.text o = keyAt t c o (r.wits.getD k 0).toNat
  text : r.text = textAt t c (r.wits.getD 0 0).toNat
structure RInv (t : Tab) (c : Nat) (o : Int) (n : Nat) (l : List Rd) : Prop where
  hit : ∀ j, j < n → ∃ r ∈ l, r.none = decide (atC t c j < 0) ∧ textF r.text o = keyAt t c o j
  ws : ∀ i, i < l.length → WsOk t c o n (l.getD i rd0)
  up : ∀ i, i + 1 < l.length → (l.getD i rd0).wits.getD 0 0 < (l.getD (i + 1) rd0).wits.getD 0 0
  sum : sumL (fun r : Rd => r.wits.length) l = n
end Go.Proofs.YteklnpgiloebcaaGreatDoor.V

namespace Go.Proofs.YteklnpgiloebcaaGreatDoor.V
set_option linter.unusedVariables false
set_option linter.unusedSimpArgs false
open Go Go.Proofs Go.RowKit
set_option maxRecDepth 100000
structure RCov (t : Tab) (c : Nat) (o : Int) (n : Nat) (l : List Rd) : Prop where
  dist : ∀ i1 i2, i1 < l.length → i2 < l.length → i1 ≠ i2 → ¬ ((l.getD i1 rd0).none = (l.getD i2 rd0).none ∧ textF (l.getD i1 rd0).text o = textF (l.getD i2 rd0).text o)
  cov : ∀ j, j < n → ∃ i, i < l.length ∧ ∃ k, k < (l.getD i rd0).wits.length ∧ (l.getD i rd0).wits.getD k 0 = (j : Int)
end Go.Proofs.YteklnpgiloebcaaGreatDoor.V

namespace Go.Proofs.YteklnpgiloebcaaGreatDoor.V
set_option linter.unusedVariables false
set_option linter.unusedSimpArgs false
open Go Go.Proofs Go.RowKit
set_option linter.deprecated false
def appE (t : Tab) : List En := (sitesE t 0 t.cols.length).map (fun c => ⟨c, readE t c.toNat 0 t.wits.length⟩)
section
variable {t : Tab} {c : Nat}
end
theorem sites_mem {t : Tab} {o : Int} : ∀ C x, x ∈ sitesE t o C ↔ ∃ c : Nat, x = (c : Int) ∧ c < C ∧ 1 < (readE t c o t.wits.length).length
  | 0, x => ⟨fun h => absurd h List.not_mem_nil, fun ⟨c, _, h, _⟩ => absurd h (Nat.not_lt_zero _)⟩
  | C + 1, x => by
    have ih := sites_mem (t := t) (o := o) C x
    have hs : sitesE t o (C + 1) = if 1 < (readE t C o t.wits.length).length then sitesE t o C ++ [(C : Int)] else sitesE t o C := rfl
    rw [hs]
    by_cases h : 1 < (readE t C o t.wits.length).length
    · rw [if_pos h, List.mem_append, List.mem_singleton, ih]
      constructor
      · rintro (⟨c, a, b, d⟩ | rfl)
        · exact ⟨c, a, by omega, d⟩
        · exact ⟨C, rfl, by omega, h⟩
      · rintro ⟨c, a, b, d⟩
        by_cases e : c = C
        · right; rw [a, e]
        · left; exact ⟨c, a, by omega, d⟩
    · rw [if_neg h, ih]
      constructor
      · rintro ⟨c, a, b, d⟩; exact ⟨c, a, by omega, d⟩
      · rintro ⟨c, a, b, d⟩
        by_cases e : c = C
        · subst e; exact absurd d h
        · exact ⟨c, a, by omega, d⟩
theorem app_mem {t : Tab} {e : En} (h : e ∈ appE t) : ∃ c : Nat, e.col = (c : Int) ∧ c < t.cols.length ∧ 1 < (readE t c 0 t.wits.length).length ∧ e.rds = readE t c 0 t.wits.length := by
  unfold appE at h
  obtain ⟨x, hx, rfl⟩ := List.mem_map.mp h
  obtain ⟨c, rfl, h1, h2⟩ := (sites_mem _ x).mp hx
  exact ⟨c, rfl, h1, h2, rfl⟩
end Go.Proofs.YteklnpgiloebcaaGreatDoor.V

namespace Go.Proofs.YteklnpgiloebcaaGreatDoor.V
set_option linter.unusedVariables false
set_option linter.unusedSimpArgs false
open Go Go.Proofs Go.RowKit
set_option maxRecDepth 100000
set_option maxHeartbeats 1000000
def enE (t : Tab) (c : Int) : En := ⟨c, readE t c.toNat 0 t.wits.length⟩
theorem appE_eq (t : Tab) : appE t = (sitesE t 0 t.cols.length).map (enE t) := rfl
noncomputable def aprL (t : Tab) : AV := tupL [tEn.L (if siteCode t 0 = 0 then appE t else []), .int .i64 (siteCode t 0)]
theorem nb0 : ¬ badO 0 := by unfold badO; omega
theorem siteC_ok {t : Tab} (h : OkT t) : siteCode t 0 = 0 := by unfold siteCode; rw [if_neg (not_not_intro h), if_neg nb0]
theorem aprL_no {t : Tab} (h : ¬ OkT t) : aprL t = tupL [tEn.L [], .int .i64 121] := by
  have hc : siteCode t 0 = 121 := if_pos h
  unfold aprL
  rw [hc, if_neg (by decide)]
theorem aprL_ok {t : Tab} (h : OkT t) : aprL t = tupL [tEn.L (appE t), .int .i64 0] := by
  unfold aprL
  rw [siteC_ok h, if_pos rfl]
theorem appOf_fn (t : Tab) (hf : FitT t) : Fn Tryz.prog 12 [tbA t] (aprL t) := by
  refine Fn.of Tryz.f12 _ Tryz.func12 rfl (by decide) (by show 1 ≤ _; decide) tbOk 39 rfl fun S w0 gl => ?_
  refine Run.go ?_; (conv => whnf); repeat' (first | ((with_reducible refine Know.mk fun _ => ?_); conv => whnf) | ((with_reducible refine Need.mk ?_ ?_); exact nd; conv => whnf) | ((with_reducible first | refine Both.mk ?_ ?_ | refine Any.mk fun b hb => ?_ | refine AskB.dec (fun hb => ?_) (fun hb => ?_) | refine AskB.ndec (fun hb => ?_) (fun hb => ?_) | refine AskB.mk (fun hb => ?_) (fun hb => ?_)) <;> conv => whnf) | ((with_reducible first | refine Run.drawX rfl (by decide +kernel) ?_ | refine Run.drawT rfl (by decide +kernel) ?_ | refine Run.drawW rfl (by decide +kernel) ?_); conv => whnf) | fail)
  refine Run.callBX (sites_fn t 0 hf) rfl rfl ⟨tb_le t (Le.refl _) (Le.refl _), Le.refl _, trivial⟩ rfl rfl rfl ?_
  by_cases hok : OkT t
  case neg =>
    rw [sitesL_no 0 hok, aprL_no hok]
    (conv => whnf); repeat' (first | ((with_reducible refine Know.mk fun _ => ?_); conv => whnf) | ((with_reducible refine Need.mk ?_ ?_); exact nd; conv => whnf) | ((with_reducible refine Both.mk ?_ ?_) <;> conv => whnf) | ((with_reducible refine Any.mk fun b hb => ?_); conv => whnf) | ((with_reducible first | refine AskB.dec (fun hb => ?_) (fun hb => ?_) | refine AskB.ndec (fun hb => ?_) (fun hb => ?_) | refine AskB.mk (fun hb => ?_) (fun hb => ?_)) <;> first | (exfalso; omega) | (conv => whnf)) | ((with_reducible first | refine Run.drawX rfl (by decide +kernel) ?_ | refine Run.drawT rfl (by decide +kernel) ?_ | refine Run.drawW rfl (by decide +kernel) ?_); conv => whnf) | fail)
    all_goals try (exfalso; omega)
    exact Run.leave (ts := [2,3]) (.inr ⟨_, rfl⟩) rfl Tryz.func12 rfl (resT ⟨tEn.nil, Le.refl _, trivial⟩)
  rw [sitesL_ok hok nb0, aprL_ok hok, appE_eq]
  have hmem := sites_mem (t := t) (o := 0) t.cols.length
  have hsl := sites_len t 0 t.cols.length
  have hnc := hok.nc
  generalize sitesE t 0 t.cols.length = ss at hmem hsl ⊢
  (conv => whnf); repeat' (first | ((with_reducible refine Know.mk fun _ => ?_); conv => whnf) | ((with_reducible refine Need.mk ?_ ?_); exact nd; conv => whnf) | ((with_reducible refine Both.mk ?_ ?_) <;> conv => whnf) | ((with_reducible refine Any.mk fun b hb => ?_); conv => whnf) | ((with_reducible first | refine AskB.dec (fun hb => ?_) (fun hb => ?_) | refine AskB.ndec (fun hb => ?_) (fun hb => ?_) | refine AskB.mk (fun hb => ?_) (fun hb => ?_)) <;> first | (exfalso; omega) | (conv => whnf)) | ((with_reducible first | refine Run.drawX rfl (by decide +kernel) ?_ | refine Run.drawT rfl (by decide +kernel) ?_ | refine Run.drawW rfl (by decide +kernel) ?_); conv => whnf) | fail)
  all_goals try (exfalso; omega)
  refine Run.holdNil 6 1000 59 2 (fun _ _ => .u) rfl ?_
  refine Run.loop [19, 20] (fun (j : Nat) => [(1, .box 1 0), (6, .row 1000), (21, .int .i64 (j : Int))]) (fun j => [(1, .box 35 [tWit.L t.wits, tIL.L t.cols]), (1000, tEn.R 59 ((ss.take j).map (enE t)))]) (fun j => j ≤ ss.length) (fun j => ss.length - j) 0 (Nat.zero_le _) ⟨Le.refl _, Le.refl _, Le.refl _, trivial⟩ ⟨MOle.refl _, ⟨rfl, rfl, rfl, fun i j hi => absurd hi (Nat.not_lt_zero _)⟩, trivial⟩ ?_
  intro j hj IH
  have hwj : IntKind.i64.wrap ((j : Int) + 1) = ((j + 1 : Nat) : Int) := wrap64 (by omega) (by omega)
  have htl : ((ss.take j).map (enE t)).length = j := by rw [List.length_map, List.length_take]; omega
  by_cases hjl : j < ss.length
  · have hn : (ss.take (j + 1)).map (enE t) = (ss.take j).map (enE t) ++ [enE t (ss.getD j 0)] := by rw [take_at ss j 0 hjl, List.map_append]; rfl
    have IH := IH (j + 1) (by omega) (by omega)
    rw [hn] at IH
    obtain ⟨c, hc, hcC, _⟩ := (hmem (ss.getD j 0)).mp (getD_mem' j hjl)
    generalize (ss.take j).map (enE t) = L at htl IH ⊢
    show Run _ _ (lst (_ ++ [(1, .box 1 0), (6, .row 1000), (21, .int .i64 (j : Int))])) (lstH [(1, .box 35 [tWit.L t.wits, tIL.L t.cols]), (1000, tEn.R 59 L)])
    refine Run.go ?_; (conv => whnf); repeat' (first | ((with_reducible refine Know.mk fun _ => ?_); conv => whnf) | ((with_reducible refine Need.mk ?_ ?_); exact nd; conv => whnf) | ((with_reducible refine Both.mk ?_ ?_) <;> conv => whnf) | ((with_reducible refine Any.mk fun b hb => ?_); conv => whnf) | ((with_reducible first | refine AskB.dec (fun hb => ?_) (fun hb => ?_) | refine AskB.ndec (fun hb => ?_) (fun hb => ?_) | refine AskB.mk (fun hb => ?_) (fun hb => ?_)) <;> first | (exfalso; omega) | (conv => whnf)) | ((with_reducible first | refine Run.drawX rfl (by decide +kernel) ?_ | refine Run.drawT rfl (by decide +kernel) ?_ | refine Run.drawW rfl (by decide +kernel) ?_); conv => whnf) | fail)
    all_goals try (exfalso; omega)
    refine Run.callBX (readings_fn t (ss.getD j 0) 0 hf) rfl rfl ⟨tb_le t (Le.refl _) (Le.refl _), Le.refl _, Le.refl _, trivial⟩ rfl rfl rfl ?_
    obtain ⟨h1, h2⟩ := rc_ok (c := ss.getD j 0) hok nb0 (fun h => by unfold badC at h; omega)
    unfold readL
    rw [h1, h2]
    (conv => whnf); repeat' (first | ((with_reducible refine Know.mk fun _ => ?_); conv => whnf) | ((with_reducible refine Need.mk ?_ ?_); exact nd; conv => whnf) | ((with_reducible refine Both.mk ?_ ?_) <;> conv => whnf) | ((with_reducible refine Any.mk fun b hb => ?_); conv => whnf) | ((with_reducible first | refine AskB.dec (fun hb => ?_) (fun hb => ?_) | refine AskB.ndec (fun hb => ?_) (fun hb => ?_) | refine AskB.mk (fun hb => ?_) (fun hb => ?_)) <;> first | (exfalso; omega) | (conv => whnf)) | ((with_reducible first | refine Run.drawX rfl (by decide +kernel) ?_ | refine Run.drawT rfl (by decide +kernel) ?_ | refine Run.drawW rfl (by decide +kernel) ?_); conv => whnf) | fail)
    all_goals try (exfalso; omega)
    refine Run.hold (z := 36) 6 1000 (by rfl) (by rfl) (by rfl) ?_
    refine Run.to _ _ ?_ ?_ IH
    · exact ⟨Le.refl _, Le.refl _, Le.refl _, Le.refl _, Le.int hwj, trivial⟩
    · refine ⟨MOle.refl _, ?_, trivial⟩
      refine tEn.push 59 L (enE t (ss.getD j 0)) _ (fun q hq => ?_)
      match q, hq with
      | 0, _ => exact Le.refl _
      | 1, _ => exact Le.refl _
  · obtain rfl : j = ss.length := by omega
    rw [List.take_length]
    refine Run.go ?_; (conv => whnf); repeat' (first | ((with_reducible refine Know.mk fun _ => ?_); conv => whnf) | ((with_reducible refine Need.mk ?_ ?_); exact nd; conv => whnf) | ((with_reducible refine Both.mk ?_ ?_) <;> conv => whnf) | ((with_reducible refine Any.mk fun b hb => ?_); conv => whnf) | ((with_reducible first | refine AskB.dec (fun hb => ?_) (fun hb => ?_) | refine AskB.ndec (fun hb => ?_) (fun hb => ?_) | refine AskB.mk (fun hb => ?_) (fun hb => ?_)) <;> first | (exfalso; omega) | (conv => whnf)) | ((with_reducible first | refine Run.drawX rfl (by decide +kernel) ?_ | refine Run.drawT rfl (by decide +kernel) ?_ | refine Run.drawW rfl (by decide +kernel) ?_); conv => whnf) | fail)
    all_goals try (exfalso; omega)
    exact Run.leave (ts := [2,3]) (.inr ⟨_, rfl⟩) rfl Tryz.func12 rfl (resT ⟨Le.refl _, Le.refl _, trivial⟩)
end Go.Proofs.YteklnpgiloebcaaGreatDoor.V

namespace Go.Proofs.YteklnpgiloebcaaGreatDoor.V
set_option linter.unusedVariables false
set_option linter.unusedSimpArgs false
open Go Go.Proofs Go.RowKit
set_option maxRecDepth 100000
set_option maxHeartbeats 1000000
theorem enE_at (t : Tab) (c : Nat) : (sitesE t 0 (c + 1)).map (enE t) = if 1 < (readE t c 0 t.wits.length).length then (sitesE t 0 c).map (enE t) ++ [⟨c, readE t c 0 t.wits.length⟩] else (sitesE t 0 c).map (enE t) := by
  have hs : sitesE t 0 (c + 1) = if 1 < (readE t c 0 t.wits.length).length then sitesE t 0 c ++ [(c : Int)] else sitesE t 0 c := rfl
  rw [hs]
  split
  · rw [List.map_append]; rfl
  · rfl
theorem rappOf_fn (t : Tab) (hf : FitT t) : Fn Tryz.prog 13 [tbA t] (aprL t) := by
  refine Fn.of Tryz.f13 _ Tryz.func13 rfl (by decide) (by show 1 ≤ _; decide) tbOk 34 rfl fun S w0 gl => ?_
  refine Run.go ?_; (conv => whnf); repeat' (first | ((with_reducible refine Know.mk fun _ => ?_); conv => whnf) | ((with_reducible refine Need.mk ?_ ?_); exact nd; conv => whnf) | ((with_reducible first | refine Both.mk ?_ ?_ | refine Any.mk fun b hb => ?_ | refine AskB.dec (fun hb => ?_) (fun hb => ?_) | refine AskB.ndec (fun hb => ?_) (fun hb => ?_) | refine AskB.mk (fun hb => ?_) (fun hb => ?_)) <;> conv => whnf) | ((with_reducible first | refine Run.drawX rfl (by decide +kernel) ?_ | refine Run.drawT rfl (by decide +kernel) ?_ | refine Run.drawW rfl (by decide +kernel) ?_); conv => whnf) | fail)
  refine Run.callBX (check12_fn t hf) rfl rfl ⟨tb_le t (Le.refl _) (Le.refl _), trivial⟩ rfl rfl rfl ?_
  rcases chk_01 t with ⟨hok, he⟩ | ⟨hok, he⟩
  case inr =>
    rw [he, aprL_no hok]
    (conv => whnf); repeat' (first | ((with_reducible refine Know.mk fun _ => ?_); conv => whnf) | ((with_reducible refine Need.mk ?_ ?_); exact nd; conv => whnf) | ((with_reducible refine Both.mk ?_ ?_) <;> conv => whnf) | ((with_reducible refine Any.mk fun b hb => ?_); conv => whnf) | ((with_reducible first | refine AskB.dec (fun hb => ?_) (fun hb => ?_) | refine AskB.ndec (fun hb => ?_) (fun hb => ?_) | refine AskB.mk (fun hb => ?_) (fun hb => ?_)) <;> first | (exfalso; omega) | (conv => whnf)) | ((with_reducible first | refine Run.drawX rfl (by decide +kernel) ?_ | refine Run.drawT rfl (by decide +kernel) ?_ | refine Run.drawW rfl (by decide +kernel) ?_); conv => whnf) | fail)
    all_goals try (exfalso; omega)
    exact Run.leave (ts := [2,3]) (.inr ⟨_, rfl⟩) rfl Tryz.func13 rfl (resT ⟨tEn.nil, Le.refl _, trivial⟩)
  rw [he, aprL_ok hok, appE_eq]
  have hnc := hok.nc
  have hfc := hf.cols
  (conv => whnf); repeat' (first | ((with_reducible refine Know.mk fun _ => ?_); conv => whnf) | ((with_reducible refine Need.mk ?_ ?_); exact nd; conv => whnf) | ((with_reducible refine Both.mk ?_ ?_) <;> conv => whnf) | ((with_reducible refine Any.mk fun b hb => ?_); conv => whnf) | ((with_reducible first | refine AskB.dec (fun hb => ?_) (fun hb => ?_) | refine AskB.ndec (fun hb => ?_) (fun hb => ?_) | refine AskB.mk (fun hb => ?_) (fun hb => ?_)) <;> first | (exfalso; omega) | (conv => whnf)) | ((with_reducible first | refine Run.drawX rfl (by decide +kernel) ?_ | refine Run.drawT rfl (by decide +kernel) ?_ | refine Run.drawW rfl (by decide +kernel) ?_); conv => whnf) | fail)
  all_goals try (exfalso; omega)
  refine Run.holdNil 4 1000 59 2 (fun _ _ => .u) rfl ?_
  refine Run.loop [] (fun (c : Nat) => [(1, .box 1 0), (4, .row 1000), (5, .int .i64 (c : Int))]) (fun c => [(1, .box 35 [tWit.L t.wits, tIL.L t.cols]), (1000, tEn.R 59 ((sitesE t 0 c).map (enE t)))]) (fun c => c ≤ t.cols.length) (fun c => t.cols.length - c) 0 (Nat.zero_le _) ⟨Le.refl _, Le.refl _, Le.refl _, trivial⟩ ⟨MOle.refl _, ⟨rfl, rfl, rfl, fun i j hi => absurd hi (Nat.not_lt_zero _)⟩, trivial⟩ ?_
  intro c hc IH
  have hwc : IntKind.i64.wrap ((c : Int) + 1) = ((c + 1 : Nat) : Int) := wrap64 (by omega) (by omega)
  have htl : ((sitesE t 0 c).map (enE t)).length ≤ 4096 := by rw [List.length_map]; have := sites_len t 0 c; omega
  by_cases hcl : c < t.cols.length
  · have hn := enE_at t c
    have IH := IH (c + 1) (by omega) (by omega)
    rw [hn] at IH
    generalize (sitesE t 0 c).map (enE t) = L at htl IH ⊢
    show Run _ _ (lst (_ ++ [(1, .box 1 0), (4, .row 1000), (5, .int .i64 (c : Int))])) (lstH [(1, .box 35 [tWit.L t.wits, tIL.L t.cols]), (1000, tEn.R 59 L)])
    refine Run.go ?_; (conv => whnf); repeat' (first | ((with_reducible refine Know.mk fun _ => ?_); conv => whnf) | ((with_reducible refine Need.mk ?_ ?_); exact nd; conv => whnf) | ((with_reducible refine Both.mk ?_ ?_) <;> conv => whnf) | ((with_reducible refine Any.mk fun b hb => ?_); conv => whnf) | ((with_reducible first | refine AskB.dec (fun hb => ?_) (fun hb => ?_) | refine AskB.ndec (fun hb => ?_) (fun hb => ?_) | refine AskB.mk (fun hb => ?_) (fun hb => ?_)) <;> first | (exfalso; omega) | (conv => whnf)) | ((with_reducible first | refine Run.drawX rfl (by decide +kernel) ?_ | refine Run.drawT rfl (by decide +kernel) ?_ | refine Run.drawW rfl (by decide +kernel) ?_); conv => whnf) | fail)
    all_goals try (exfalso; omega)
    refine Run.callBX (readings16_fn t c 0 hf) rfl rfl ⟨tb_le t (Le.refl _) (Le.refl _), Le.refl _, Le.refl _, trivial⟩ rfl rfl rfl ?_
    obtain ⟨h1, h2⟩ := rc_ok (c := (c : Int)) hok nb0 (fun h => by unfold badC at h; omega)
    unfold readL
    rw [h1, h2, Int.toNat_natCast]
    generalize readE t c 0 t.wits.length = rs at IH ⊢
    (conv => whnf); repeat' (first | ((with_reducible refine Know.mk fun _ => ?_); conv => whnf) | ((with_reducible refine Need.mk ?_ ?_); exact nd; conv => whnf) | ((with_reducible refine Both.mk ?_ ?_) <;> conv => whnf) | ((with_reducible refine Any.mk fun b hb => ?_); conv => whnf) | ((with_reducible first | refine AskB.dec (fun hb => ?_) (fun hb => ?_) | refine AskB.ndec (fun hb => ?_) (fun hb => ?_) | refine AskB.mk (fun hb => ?_) (fun hb => ?_)) <;> first | (exfalso; omega) | (conv => whnf)) | ((with_reducible first | refine Run.drawX rfl (by decide +kernel) ?_ | refine Run.drawT rfl (by decide +kernel) ?_ | refine Run.drawW rfl (by decide +kernel) ?_); conv => whnf) | fail)
    all_goals try (exfalso; omega)
    · rw [if_pos (by omega)] at IH
      refine Run.hold (z := 32) 4 1000 (by rfl) (by rfl) (by rfl) ?_
      refine Run.to _ _ ?_ ?_ IH
      · exact ⟨Le.refl _, Le.refl _, Le.int hwc, trivial⟩
      · refine ⟨MOle.refl _, ?_, trivial⟩
        refine tEn.push 59 L ⟨c, rs⟩ _ (fun q hq => ?_)
        match q, hq with
        | 0, _ => exact Le.refl _
        | 1, _ => exact Le.refl _
    · rw [if_neg (by omega)] at IH
      refine Run.to _ _ ?_ ?_ IH
      · exact ⟨Le.refl _, Le.refl _, Le.int hwc, trivial⟩
      · exact ⟨MOle.refl _, MOle.refl _, trivial⟩
  · obtain rfl : c = t.cols.length := by omega
    refine Run.go ?_; (conv => whnf); repeat' (first | ((with_reducible refine Know.mk fun _ => ?_); conv => whnf) | ((with_reducible refine Need.mk ?_ ?_); exact nd; conv => whnf) | ((with_reducible refine Both.mk ?_ ?_) <;> conv => whnf) | ((with_reducible refine Any.mk fun b hb => ?_); conv => whnf) | ((with_reducible first | refine AskB.dec (fun hb => ?_) (fun hb => ?_) | refine AskB.ndec (fun hb => ?_) (fun hb => ?_) | refine AskB.mk (fun hb => ?_) (fun hb => ?_)) <;> first | (exfalso; omega) | (conv => whnf)) | ((with_reducible first | refine Run.drawX rfl (by decide +kernel) ?_ | refine Run.drawT rfl (by decide +kernel) ?_ | refine Run.drawW rfl (by decide +kernel) ?_); conv => whnf) | fail)
    all_goals try (exfalso; omega)
    exact Run.leave (ts := [2,3]) (.inr ⟨_, rfl⟩) rfl Tryz.func13 rfl (resT ⟨Le.refl _, Le.refl _, trivial⟩)
theorem sameEE_fn (a : List En) (ha : a.length ≤ 1000000) (hr : ∀ e ∈ a, e.rds.length ≤ 1000000 ∧ ∀ r ∈ e.rds, r.wits.length ≤ 1000000) : Fn Tryz.prog 11 [tEn.L a, tEn.L a] .tt := by
  refine Fn.of Tryz.f11 _ Tryz.func11 rfl (by decide) (by show 2 ≤ _; decide) tbOk 42 rfl fun S w0 gl => ?_
  refine Run.go ?_; (conv => whnf); repeat' (first | ((with_reducible refine Know.mk fun _ => ?_); conv => whnf) | ((with_reducible refine Need.mk ?_ ?_); exact nd; conv => whnf) | ((with_reducible first | refine Both.mk ?_ ?_ | refine Any.mk fun b hb => ?_ | refine AskB.dec (fun hb => ?_) (fun hb => ?_) | refine AskB.ndec (fun hb => ?_) (fun hb => ?_) | refine AskB.mk (fun hb => ?_) (fun hb => ?_)) <;> conv => whnf) | ((with_reducible first | refine Run.drawX rfl (by decide +kernel) ?_ | refine Run.drawT rfl (by decide +kernel) ?_ | refine Run.drawW rfl (by decide +kernel) ?_); conv => whnf) | fail)
  all_goals try (exact absurd rfl hb)
  refine Run.loop [0, 1] (fun (i : Nat) => [(5, .int .i64 (i : Int))]) (fun i => []) (fun i => i ≤ a.length) (fun i => a.length - i) 0 (Nat.zero_le _) ⟨Le.refl _, trivial⟩ trivial ?_
  intro i hi IH
  have hwi : IntKind.i64.wrap ((i : Int) + 1) = ((i + 1 : Nat) : Int) := wrap64 (by omega) (by omega)
  by_cases hil : i < a.length
  · have hri := hr _ (getD_mem' (z := tEn.z) i hil)
    refine Run.go ?_; (conv => whnf); repeat' (first | ((with_reducible refine Know.mk fun _ => ?_); conv => whnf) | ((with_reducible refine Need.mk ?_ ?_); exact nd; conv => whnf) | ((with_reducible refine Both.mk ?_ ?_) <;> conv => whnf) | ((with_reducible refine Any.mk fun b hb => ?_); conv => whnf) | ((with_reducible first | refine AskB.dec (fun hb => ?_) (fun hb => ?_) | refine AskB.ndec (fun hb => ?_) (fun hb => ?_) | refine AskB.mk (fun hb => ?_) (fun hb => ?_)) <;> first | (exfalso; omega) | (conv => whnf)) | ((with_reducible first | refine Run.drawX rfl (by decide +kernel) ?_ | refine Run.drawT rfl (by decide +kernel) ?_ | refine Run.drawW rfl (by decide +kernel) ?_); conv => whnf) | fail)
    all_goals try (exfalso; omega)
    all_goals try (exact absurd rfl hb)
    refine CallQ.flat (same16_fn (a.getD i tEn.z).rds (a.getD i tEn.z).rds (by omega) (fun r h => by have := hri.2 r h; omega)) rfl ⟨Le.refl _, Le.refl _, trivial⟩ rfl ?_
    rw [show decide ((a.getD i tEn.z).rds = (a.getD i tEn.z).rds) = true from decide_eq_true rfl]
    (conv => whnf); repeat' (first | ((with_reducible refine Know.mk fun _ => ?_); conv => whnf) | ((with_reducible refine Need.mk ?_ ?_); exact nd; conv => whnf) | ((with_reducible first | refine Both.mk ?_ ?_ | refine Any.mk fun b hb => ?_ | refine AskB.dec (fun hb => ?_) (fun hb => ?_) | refine AskB.ndec (fun hb => ?_) (fun hb => ?_) | refine AskB.mk (fun hb => ?_) (fun hb => ?_)) <;> conv => whnf) | ((with_reducible first | refine Run.drawX rfl (by decide +kernel) ?_ | refine Run.drawT rfl (by decide +kernel) ?_ | refine Run.drawW rfl (by decide +kernel) ?_); conv => whnf) | fail)
    all_goals try (exact absurd hb (by decide))
    refine Run.to _ _ ?_ ?_ (IH (i + 1) (by omega) (by omega))
    · exact ⟨Le.refl _, Le.refl _, Le.int hwi, trivial⟩
    · exact trivial
  · obtain rfl : i = a.length := by omega
    refine Run.go ?_; (conv => whnf); repeat' (first | ((with_reducible refine Know.mk fun _ => ?_); conv => whnf) | ((with_reducible refine Need.mk ?_ ?_); exact nd; conv => whnf) | ((with_reducible refine Both.mk ?_ ?_) <;> conv => whnf) | ((with_reducible refine Any.mk fun b hb => ?_); conv => whnf) | ((with_reducible first | refine AskB.dec (fun hb => ?_) (fun hb => ?_) | refine AskB.ndec (fun hb => ?_) (fun hb => ?_) | refine AskB.mk (fun hb => ?_) (fun hb => ?_)) <;> first | (exfalso; omega) | (conv => whnf)) | ((with_reducible first | refine Run.drawX rfl (by decide +kernel) ?_ | refine Run.drawT rfl (by decide +kernel) ?_ | refine Run.drawW rfl (by decide +kernel) ?_); conv => whnf) | fail)
    all_goals try (exfalso; omega)
    exact Run.leave (ts := [4]) (.inr ⟨_, rfl⟩) rfl Tryz.func11 rfl (Le.refl _)
theorem appE_fit {t : Tab} (hok : OkT t) : (appE t).length ≤ 4096 ∧ ∀ e ∈ appE t, e.rds.length ≤ 12 ∧ ∀ r ∈ e.rds, r.wits.length ≤ 12 := by
  have hnc := hok.nc
  have hn12 := hok.n12
  refine ⟨?_, fun e he => ?_⟩
  · rw [appE_eq, List.length_map]
    have := sites_len t 0 t.cols.length
    omega
  · obtain ⟨c, _, _, _, h⟩ := app_mem he
    rw [h]
    refine ⟨by have := read_len t c 0 t.wits.length; omega, fun r hr => by have := wits_le t c 0 t.wits.length r hr; omega⟩
theorem appOfs_fn (t : Tab) (hf : FitT t) : Fn Tryz.prog 4 [tbA t] .tt := by
  refine Fn.of Tryz.f4 _ Tryz.func4 rfl (by decide) (by show 1 ≤ _; decide) tbOk 27 rfl fun S w0 gl => ?_
  refine Run.go ?_; (conv => whnf); repeat' (first | ((with_reducible refine Know.mk fun _ => ?_); conv => whnf) | ((with_reducible refine Need.mk ?_ ?_); exact nd; conv => whnf) | ((with_reducible first | refine Both.mk ?_ ?_ | refine Any.mk fun b hb => ?_ | refine AskB.dec (fun hb => ?_) (fun hb => ?_) | refine AskB.ndec (fun hb => ?_) (fun hb => ?_) | refine AskB.mk (fun hb => ?_) (fun hb => ?_)) <;> conv => whnf) | ((with_reducible first | refine Run.drawX rfl (by decide +kernel) ?_ | refine Run.drawT rfl (by decide +kernel) ?_ | refine Run.drawW rfl (by decide +kernel) ?_); conv => whnf) | fail)
  refine Run.callBX awake17_fn rfl rfl trivial rfl rfl rfl ?_
  (conv => whnf); repeat' (first | ((with_reducible refine Know.mk fun _ => ?_); conv => whnf) | ((with_reducible refine Need.mk ?_ ?_); exact nd; conv => whnf) | ((with_reducible first | refine Both.mk ?_ ?_ | refine Any.mk fun b hb => ?_ | refine AskB.dec (fun hb => ?_) (fun hb => ?_) | refine AskB.ndec (fun hb => ?_) (fun hb => ?_) | refine AskB.mk (fun hb => ?_) (fun hb => ?_)) <;> conv => whnf) | ((with_reducible first | refine Run.drawX rfl (by decide +kernel) ?_ | refine Run.drawT rfl (by decide +kernel) ?_ | refine Run.drawW rfl (by decide +kernel) ?_); conv => whnf) | fail)
  refine Run.callBX (appOf_fn t hf) rfl rfl ⟨tb_le t (Le.refl _) (Le.refl _), trivial⟩ rfl rfl rfl ?_
  have h2 := rappOf_fn t hf
  have hfit : (if siteCode t 0 = 0 then appE t else []).length ≤ 1000000 ∧ ∀ e ∈ (if siteCode t 0 = 0 then appE t else []), e.rds.length ≤ 1000000 ∧ ∀ r ∈ e.rds, r.wits.length ≤ 1000000 := by
    by_cases hok : OkT t
    · obtain ⟨a, b⟩ := appE_fit hok
      rw [siteC_ok hok, if_pos rfl]
      refine ⟨by omega, fun e he => ?_⟩
      obtain ⟨c, d⟩ := b e he
      exact ⟨by omega, fun r hr => by have := d r hr; omega⟩
    · have hc : siteCode t 0 = 121 := if_pos hok
      rw [hc, if_neg (by decide)]
      exact ⟨Nat.zero_le _, fun e he => absurd he List.not_mem_nil⟩
  unfold aprL at h2 ⊢
  generalize (if siteCode t 0 = 0 then appE t else []) = l at h2 hfit ⊢
  (conv => whnf); repeat' (first | ((with_reducible refine Know.mk fun _ => ?_); conv => whnf) | ((with_reducible refine Need.mk ?_ ?_); exact nd; conv => whnf) | ((with_reducible first | refine Both.mk ?_ ?_ | refine Any.mk fun b hb => ?_ | refine AskB.dec (fun hb => ?_) (fun hb => ?_) | refine AskB.ndec (fun hb => ?_) (fun hb => ?_) | refine AskB.mk (fun hb => ?_) (fun hb => ?_)) <;> conv => whnf) | ((with_reducible first | refine Run.drawX rfl (by decide +kernel) ?_ | refine Run.drawT rfl (by decide +kernel) ?_ | refine Run.drawW rfl (by decide +kernel) ?_); conv => whnf) | fail)
  refine Run.callBX h2 rfl rfl ⟨tb_le t (Le.refl _) (Le.refl _), trivial⟩ rfl rfl rfl ?_
  (conv => whnf); repeat' (first | ((with_reducible refine Know.mk fun _ => ?_); conv => whnf) | ((with_reducible refine Need.mk ?_ ?_); exact nd; conv => whnf) | ((with_reducible first | refine Both.mk ?_ ?_ | refine Any.mk fun b hb => ?_ | refine AskB.dec (fun hb => ?_) (fun hb => ?_) | refine AskB.ndec (fun hb => ?_) (fun hb => ?_) | refine AskB.mk (fun hb => ?_) (fun hb => ?_)) <;> conv => whnf) | ((with_reducible first | refine Run.drawX rfl (by decide +kernel) ?_ | refine Run.drawT rfl (by decide +kernel) ?_ | refine Run.drawW rfl (by decide +kernel) ?_); conv => whnf) | fail)
  all_goals try (exfalso; exact hb rfl)
  refine Run.callBX (sameEE_fn l hfit.1 hfit.2) rfl rfl ⟨Le.refl _, Le.refl _, trivial⟩ rfl rfl rfl ?_
  (conv => whnf); repeat' (first | ((with_reducible refine Know.mk fun _ => ?_); conv => whnf) | ((with_reducible refine Need.mk ?_ ?_); exact nd; conv => whnf) | ((with_reducible first | refine Both.mk ?_ ?_ | refine Any.mk fun b hb => ?_ | refine AskB.dec (fun hb => ?_) (fun hb => ?_) | refine AskB.ndec (fun hb => ?_) (fun hb => ?_) | refine AskB.mk (fun hb => ?_) (fun hb => ?_)) <;> conv => whnf) | ((with_reducible first | refine Run.drawX rfl (by decide +kernel) ?_ | refine Run.drawT rfl (by decide +kernel) ?_ | refine Run.drawW rfl (by decide +kernel) ?_); conv => whnf) | fail)
  all_goals first
    | exact absurd rfl hb
    | exact Run.leave (ts := [2]) (.inr ⟨_, rfl⟩) rfl Tryz.func4 rfl (Le.refl _)
end Go.Proofs.YteklnpgiloebcaaGreatDoor.V

namespace Go.Proofs.YteklnpgiloebcaaGreatDoor.V
set_option linter.unusedVariables false
set_option linter.unusedSimpArgs false
open Go Go.Proofs Go.RowKit
set_option maxRecDepth 100000
def bkWit (w : Wit) : Nat := w.name.size + w.head.size + sumL bkW w.words + 4
theorem dWs : Dec Tryz.prog 42 (tL tWrd) (fun l => sumL bkW l + 1) := Dec.slice (e := 50) (by kernel_rfl) (by kernel_rfl) (by decide) dWord
theorem dWit : Dec Tryz.prog 44 tWit bkWit :=
  Dec.map (fun x : ByteArray × ByteArray × List Wrd × Unit => ⟨x.1, x.2.1, x.2.2.1⟩) rfl (fun x j hj => match j, hj with | 0, _ => Le.refl _ | 1, _ => Le.refl _ | 2, _ => Le.refl _) (fun x => by simp only [bkWit]; omega)
    (Dec.struct (t := 44) (fs := #[⟨"Name", 9, 0, false, "", "", 0⟩, ⟨"Head", 9, 1, false, "", "", 16⟩, ⟨"Words", 42, 2, false, "", "", 32⟩]) (by kernel_rfl) (by kernel_rfl)
      (DecF.cons rfl (Dec.str (by kernel_rfl) (by kernel_rfl)) (DecF.cons rfl (Dec.str (by kernel_rfl) (by kernel_rfl)) (DecF.cons rfl dWs DecF.nil))))
theorem dInt : Dec Tryz.prog 3 tI (fun _ => 1) := Dec.int (by kernel_rfl) (by kernel_rfl)
def bkI (l : List Int) : Nat := sumL (fun _ => 1) l + 1
theorem dIs : Dec Tryz.prog 52 (tL tI) bkI := Dec.slice (e := 3) (by kernel_rfl) (by kernel_rfl) (by decide) dInt
def tTab : Ty Tab := ⟨2, tabG, ⟨[], []⟩⟩
def bkTab (t : Tab) : Nat := sumL bkWit t.wits + sumL bkI t.cols + 3
theorem dTab : Dec Tryz.prog 35 tTab bkTab :=
  Dec.map (fun x : List Wit × List (List Int) × Unit => ⟨x.1, x.2.1⟩) rfl (fun x j hj => match j, hj with | 0, _ => Le.refl _ | 1, _ => Le.refl _) (fun x => by simp only [bkTab]; omega)
    (Dec.struct (t := 35) (fs := #[⟨"Wits", 32, 0, false, "", "", 0⟩, ⟨"Cols", 33, 1, false, "", "", 24⟩]) (by kernel_rfl) (by kernel_rfl)
      (DecF.cons rfl (Dec.slice (e := 44) (t := 32) (by kernel_rfl) (by kernel_rfl) (by decide) dWit) (DecF.cons rfl (Dec.slice (e := 52) (t := 33) (by kernel_rfl) (by kernel_rfl) (by decide) dIs) DecF.nil)))
theorem argTab : Arg Tryz.prog 35 tbA bkTab := Arg.struct (T := tTab) (fs := #[⟨"Wits", 32, 0, false, "", "", 0⟩, ⟨"Cols", 33, 1, false, "", "", 24⟩]) (by kernel_rfl) dTab
/-! ### bounds -/
theorem fitT_of {t : Tab} {n : Nat} (h : bkTab t ≤ n) (hn : n ≤ 1048576) : FitT t := by
  unfold bkTab at h
  have h1 := sumL_len bkWit (fun w => by unfold bkWit; omega) t.wits
  have h2 := sumL_len bkI (fun w => by unfold bkI; omega) t.cols
  refine ⟨by omega, by omega, fun l hl => ?_, fun w hw => ?_, fun w hw => ?_⟩
  · have h3 : sumL (fun _ : Int => 1) l + 1 ≤ sumL bkI t.cols := sumL_mem bkI hl
    have h4 := sumL_len (fun _ : Int => 1) (fun _ => Nat.le_refl _) l
    omega
  · have h3 : w.name.size + w.head.size + sumL bkW w.words + 4 ≤ sumL bkWit t.wits := sumL_mem bkWit hw
    omega
  · have h3 : w.name.size + w.head.size + sumL bkW w.words + 4 ≤ sumL bkWit t.wits := sumL_mem bkWit hw
    obtain ⟨f1, f2, f3⟩ := fitW_of (s := w.head) (l := w.words) (n := 1048576) (by omega) (by omega)
    have h4 := bkW_sum w.words
    exact ⟨f1, by omega, f3⟩
end Go.Proofs.YteklnpgiloebcaaGreatDoor.V

namespace Go.Proofs.YteklnpgiloebcaaGreatDoor.V
set_option linter.unusedVariables false
set_option linter.unusedSimpArgs false
open Go Go.Proofs Go.RowKit
set_option maxRecDepth 100000
set_option maxHeartbeats 1000000
theorem appSites_fn (t : Tab) (hf : FitT t) : Fn Tryz.prog 7 [tbA t] .tt := by
  refine Fn.of Tryz.f7 _ Tryz.func7 rfl (by decide) (by show 1 ≤ _; decide) tbOk 80 rfl fun S w0 gl => ?_
  refine Run.go ?_; (conv => whnf); repeat' (first | ((with_reducible refine Know.mk fun _ => ?_); conv => whnf) | ((with_reducible refine Need.mk ?_ ?_); exact nd; conv => whnf) | ((with_reducible first | refine Both.mk ?_ ?_ | refine Any.mk fun b hb => ?_ | refine AskB.dec (fun hb => ?_) (fun hb => ?_) | refine AskB.ndec (fun hb => ?_) (fun hb => ?_) | refine AskB.mk (fun hb => ?_) (fun hb => ?_)) <;> conv => whnf) | ((with_reducible first | refine Run.drawX rfl (by decide +kernel) ?_ | refine Run.drawT rfl (by decide +kernel) ?_ | refine Run.drawW rfl (by decide +kernel) ?_); conv => whnf) | fail)
  refine Run.callBX awake17_fn rfl rfl trivial rfl rfl rfl ?_
  (conv => whnf); repeat' (first | ((with_reducible refine Know.mk fun _ => ?_); conv => whnf) | ((with_reducible refine Need.mk ?_ ?_); exact nd; conv => whnf) | ((with_reducible first | refine Both.mk ?_ ?_ | refine Any.mk fun b hb => ?_ | refine AskB.dec (fun hb => ?_) (fun hb => ?_) | refine AskB.ndec (fun hb => ?_) (fun hb => ?_) | refine AskB.mk (fun hb => ?_) (fun hb => ?_)) <;> conv => whnf) | ((with_reducible first | refine Run.drawX rfl (by decide +kernel) ?_ | refine Run.drawT rfl (by decide +kernel) ?_ | refine Run.drawW rfl (by decide +kernel) ?_); conv => whnf) | fail)
  refine Run.callBX (appOf_fn t hf) rfl rfl ⟨tb_le t (Le.refl _) (Le.refl _), trivial⟩ rfl rfl rfl ?_
  by_cases hok : OkT t
  case neg =>
    rw [aprL_no hok]
    (conv => whnf); repeat' (first | ((with_reducible refine Know.mk fun _ => ?_); conv => whnf) | ((with_reducible refine Need.mk ?_ ?_); exact nd; conv => whnf) | ((with_reducible refine Both.mk ?_ ?_) <;> conv => whnf) | ((with_reducible refine Any.mk fun b hb => ?_); conv => whnf) | ((with_reducible first | refine AskB.dec (fun hb => ?_) (fun hb => ?_) | refine AskB.ndec (fun hb => ?_) (fun hb => ?_) | refine AskB.mk (fun hb => ?_) (fun hb => ?_)) <;> first | (exfalso; omega) | (conv => whnf)) | ((with_reducible first | refine Run.drawX rfl (by decide +kernel) ?_ | refine Run.drawT rfl (by decide +kernel) ?_ | refine Run.drawW rfl (by decide +kernel) ?_); conv => whnf) | fail)
    refine Run.callBX (sites_fn t 0 hf) rfl rfl ⟨tb_le t (Le.refl _) (Le.refl _), Le.refl _, trivial⟩ rfl rfl rfl ?_
    rw [sitesL_no 0 hok]
    (conv => whnf); repeat' (first | ((with_reducible refine Know.mk fun _ => ?_); conv => whnf) | ((with_reducible refine Need.mk ?_ ?_); exact nd; conv => whnf) | ((with_reducible refine Both.mk ?_ ?_) <;> conv => whnf) | ((with_reducible refine Any.mk fun b hb => ?_); conv => whnf) | ((with_reducible first | refine AskB.dec (fun hb => ?_) (fun hb => ?_) | refine AskB.ndec (fun hb => ?_) (fun hb => ?_) | refine AskB.mk (fun hb => ?_) (fun hb => ?_)) <;> first | (exfalso; omega) | (conv => whnf)) | ((with_reducible first | refine Run.drawX rfl (by decide +kernel) ?_ | refine Run.drawT rfl (by decide +kernel) ?_ | refine Run.drawW rfl (by decide +kernel) ?_); conv => whnf) | fail)
    all_goals try (exfalso; omega)
    all_goals first
      | exact absurd rfl hb
      | exact Run.leave (ts := [2]) (.inr ⟨_, rfl⟩) rfl Tryz.func7 rfl (Le.refl _)
  rw [aprL_ok hok]
  have hl : (appE t).length = (sitesE t 0 t.cols.length).length := by rw [appE_eq, List.length_map]
  have hget : ∀ i, i < (sitesE t 0 t.cols.length).length → (appE t).getD i tEn.z = enE t ((sitesE t 0 t.cols.length).getD i 0) := fun i hi => by
    rw [appE_eq, List.getD, List.getElem?_map, List.getD, List.getElem?_eq_getElem hi]; rfl
  have hmem := sites_mem (t := t) (o := 0) t.cols.length
  have hsl := sites_len t 0 t.cols.length
  have hnc := hok.nc
  have hn12 := hok.n12
  generalize appE t = es at hl hget ⊢
  (conv => whnf); repeat' (first | ((with_reducible refine Know.mk fun _ => ?_); conv => whnf) | ((with_reducible refine Need.mk ?_ ?_); exact nd; conv => whnf) | ((with_reducible refine Both.mk ?_ ?_) <;> conv => whnf) | ((with_reducible refine Any.mk fun b hb => ?_); conv => whnf) | ((with_reducible first | refine AskB.dec (fun hb => ?_) (fun hb => ?_) | refine AskB.ndec (fun hb => ?_) (fun hb => ?_) | refine AskB.mk (fun hb => ?_) (fun hb => ?_)) <;> first | (exfalso; omega) | (conv => whnf)) | ((with_reducible first | refine Run.drawX rfl (by decide +kernel) ?_ | refine Run.drawT rfl (by decide +kernel) ?_ | refine Run.drawW rfl (by decide +kernel) ?_); conv => whnf) | fail)
  refine Run.callBX (sites_fn t 0 hf) rfl rfl ⟨tb_le t (Le.refl _) (Le.refl _), Le.refl _, trivial⟩ rfl rfl rfl ?_
  rw [sitesL_ok hok nb0]
  generalize sitesE t 0 t.cols.length = ss at hl hget hmem hsl ⊢
  (conv => whnf); repeat' (first | ((with_reducible refine Know.mk fun _ => ?_); conv => whnf) | ((with_reducible refine Need.mk ?_ ?_); exact nd; conv => whnf) | ((with_reducible refine Both.mk ?_ ?_) <;> conv => whnf) | ((with_reducible refine Any.mk fun b hb => ?_); conv => whnf) | ((with_reducible first | refine AskB.dec (fun hb => ?_) (fun hb => ?_) | refine AskB.ndec (fun hb => ?_) (fun hb => ?_) | refine AskB.mk (fun hb => ?_) (fun hb => ?_)) <;> first | (exfalso; omega) | (conv => whnf)) | ((with_reducible first | refine Run.drawX rfl (by decide +kernel) ?_ | refine Run.drawT rfl (by decide +kernel) ?_ | refine Run.drawW rfl (by decide +kernel) ?_); conv => whnf) | fail)
  all_goals try (exfalso; omega)
  refine Run.loop [3, 5, 42] (fun (i : Nat) => [(1, .box 1 0), (43, .int .i64 (i : Int))]) (fun i => [(1, .box 35 [tWit.L t.wits, tIL.L t.cols])]) (fun i => i ≤ ss.length) (fun i => ss.length - i) 0 (Nat.zero_le _) ⟨Le.refl _, Le.refl _, trivial⟩ ⟨MOle.refl _, trivial⟩ ?_
  intro i hi IH
  have hwi : IntKind.i64.wrap ((i : Int) + 1) = ((i + 1 : Nat) : Int) := wrap64 (by omega) (by omega)
  by_cases hil : i < ss.length
  · obtain ⟨c, hc, hcC, _⟩ := (hmem (ss.getD i 0)).mp (getD_mem' i hil)
    have hge := hget i hil
    have hcol : (es.getD (i : Int).toNat tEn.z).col = ss.getD (i : Int).toNat tI.z := by
      show (es.getD i tEn.z).col = ss.getD i 0
      rw [hge]; rfl
    refine Run.go ?_; (conv => whnf); repeat' (first | ((with_reducible refine Know.mk fun _ => ?_); conv => whnf) | ((with_reducible refine Need.mk ?_ ?_); exact nd; conv => whnf) | ((with_reducible refine Both.mk ?_ ?_) <;> conv => whnf) | ((with_reducible refine Any.mk fun b hb => ?_); conv => whnf) | ((with_reducible first | refine AskB.dec (fun hb => ?_) (fun hb => ?_) | refine AskB.ndec (fun hb => ?_) (fun hb => ?_) | refine AskB.mk (fun hb => ?_) (fun hb => ?_)) <;> first | (exfalso; omega) | (conv => whnf)) | ((with_reducible first | refine Run.drawX rfl (by decide +kernel) ?_ | refine Run.drawT rfl (by decide +kernel) ?_ | refine Run.drawW rfl (by decide +kernel) ?_); conv => whnf) | fail)
    all_goals try (exfalso; omega)
    refine CallQ.imm (readings_fn t (ss.getD i 0) 0 hf) rfl ⟨tb_le t (Le.refl _) (Le.refl _), Le.refl _, Le.refl _, trivial⟩ rfl ?_
    obtain ⟨h1, h2⟩ := rc_ok (c := ss.getD i 0) hok nb0 (fun h => by unfold badC at h; omega)
    unfold readL
    rw [h1, h2]
    have hrds : (es.getD i tEn.z).rds = readE t (ss.getD i 0).toNat 0 t.wits.length := by rw [hge]; rfl
    have hln := read_len t (ss.getD i 0).toNat 0 t.wits.length
    have hwl := wits_le t (ss.getD i 0).toNat 0 t.wits.length
    generalize readE t (ss.getD i 0).toNat 0 t.wits.length = rs at hrds hln hwl ⊢
    (conv => whnf); repeat' (first | ((with_reducible refine Know.mk fun _ => ?_); conv => whnf) | ((with_reducible refine Need.mk ?_ ?_); exact nd; conv => whnf) | ((with_reducible refine Both.mk ?_ ?_) <;> conv => whnf) | ((with_reducible refine Any.mk fun b hb => ?_); conv => whnf) | ((with_reducible first | refine AskB.dec (fun hb => ?_) (fun hb => ?_) | refine AskB.ndec (fun hb => ?_) (fun hb => ?_) | refine AskB.mk (fun hb => ?_) (fun hb => ?_)) <;> first | (exfalso; omega) | (conv => whnf)) | ((with_reducible first | refine Run.drawX rfl (by decide +kernel) ?_ | refine Run.drawT rfl (by decide +kernel) ?_ | refine Run.drawW rfl (by decide +kernel) ?_); conv => whnf) | fail)
    all_goals try (exfalso; omega)
    refine CallQ.flat (same16_fn (es.getD i tEn.z).rds rs (by rw [hrds]; omega) (fun r hr => by rw [hrds] at hr; have := hwl r hr; omega)) rfl ⟨Le.refl _, Le.refl _, trivial⟩ rfl ?_
    rw [decide_eq_true hrds]
    (conv => whnf); repeat' (first | ((with_reducible refine Know.mk fun _ => ?_); conv => whnf) | ((with_reducible refine Need.mk ?_ ?_); exact nd; conv => whnf) | ((with_reducible first | refine Both.mk ?_ ?_ | refine Any.mk fun b hb => ?_ | refine AskB.dec (fun hb => ?_) (fun hb => ?_) | refine AskB.ndec (fun hb => ?_) (fun hb => ?_) | refine AskB.mk (fun hb => ?_) (fun hb => ?_)) <;> conv => whnf) | ((with_reducible first | refine Run.drawX rfl (by decide +kernel) ?_ | refine Run.drawT rfl (by decide +kernel) ?_ | refine Run.drawW rfl (by decide +kernel) ?_); conv => whnf) | fail)
    all_goals try (exact absurd hb (by decide))
    refine Run.to _ _ ?_ ?_ (IH (i + 1) (by omega) (by omega))
    · exact ⟨Le.refl _, Le.refl _, Le.refl _, Le.refl _, Le.int hwi, trivial⟩
    · exact ⟨MOle.refl _, trivial⟩
  · obtain rfl : i = ss.length := by omega
    refine Run.go ?_; (conv => whnf); repeat' (first | ((with_reducible refine Know.mk fun _ => ?_); conv => whnf) | ((with_reducible refine Need.mk ?_ ?_); exact nd; conv => whnf) | ((with_reducible refine Both.mk ?_ ?_) <;> conv => whnf) | ((with_reducible refine Any.mk fun b hb => ?_); conv => whnf) | ((with_reducible first | refine AskB.dec (fun hb => ?_) (fun hb => ?_) | refine AskB.ndec (fun hb => ?_) (fun hb => ?_) | refine AskB.mk (fun hb => ?_) (fun hb => ?_)) <;> first | (exfalso; omega) | (conv => whnf)) | ((with_reducible first | refine Run.drawX rfl (by decide +kernel) ?_ | refine Run.drawT rfl (by decide +kernel) ?_ | refine Run.drawW rfl (by decide +kernel) ?_); conv => whnf) | fail)
    all_goals try (exfalso; omega)
    exact Run.leave (ts := [2]) (.inr ⟨_, rfl⟩) rfl Tryz.func7 rfl (Le.refl _)
end Go.Proofs.YteklnpgiloebcaaGreatDoor.V

