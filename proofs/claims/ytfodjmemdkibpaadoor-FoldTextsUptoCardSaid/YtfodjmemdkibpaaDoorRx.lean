/-
Folding in plain words: texts without bad bytes are runes one behind the other; to fold by less and then by more is to fold by more.
-/
import Derived.Test.YtfodjmemdkibpaaDoorXa
import Derived.Lib.MapLaws
import Derived.Lib.TrimUEq
namespace Go.Proofs.YtfodjmemdkibpaaDoor.V
open Go
set_option linter.unusedVariables false
set_option linter.unusedSimpArgs false
set_option maxRecDepth 100000
/-- A text of these bytes. -/
def bl (l : List UInt8) : ByteArray := ⟨l.toArray⟩
theorem bl_list (l : List UInt8) : (bl l).data.toList = l := by simp [bl]
theorem bl_of (s : ByteArray) : bl s.data.toList = s := by simp [bl]
theorem bl_app (a b : List UInt8) : bl (a ++ b) = bl a ++ bl b := by
  apply ByteArray.ext; apply Array.ext'; simp [bl]
/-- A number that is a rune. -/
def Sc (r : Int) : Prop := 0 ≤ r ∧ r ≤ 1114111 ∧ ¬ (55296 ≤ r ∧ r ≤ 57343)
theorem enc_eq (r : Int) : Utf8.encode r = bl (Lib.encodeRune r) := by
  unfold bl Utf8.encode Lib.encodeRune Lib.encodeRuneZ
  by_cases hv : Utf8.valid r = true
  · have h : (0 ≤ r ∧ r < 55296) ∨ (57344 ≤ r ∧ r ≤ 1114111) := by simpa [Utf8.valid] using hv
    obtain ⟨n, rfl⟩ : ∃ n : Nat, r = n := ⟨r.toNat, by omega⟩
    simp only [hv, if_true, Int.toNat_natCast]
    have t : ∀ (a b : Nat), (((a : Int) + (b : Int)).toNat.toUInt8) = UInt8.ofNat (a + b) := fun a b => by
      rw [show ((a : Int) + (b : Int)).toNat = a + b by omega]
    by_cases h1 : n < 128
    · rw [if_pos h1, if_pos (by omega)]
      simp [Nat.toUInt8]
    by_cases h2 : n < 2048
    · rw [if_neg h1, if_pos h2, if_neg (by omega), if_pos (by omega)]
      simp only [List.map_cons, List.map_nil]
      have e1 : (192 + (n : Int) / 64).toNat = 192 + n / 64 := by omega
      have e2 : (128 + (n : Int) % 64).toNat = 128 + n % 64 := by omega
      rw [e1, e2]
    by_cases h3 : n < 65536
    · rw [if_neg h1, if_neg h2, if_pos h3, if_neg (by omega), if_neg (by omega), if_pos (by omega)]
      simp only [List.map_cons, List.map_nil]
      have e1 : (224 + (n : Int) / 4096).toNat = 224 + n / 4096 := by omega
      have e2 : (128 + (n : Int) / 64 % 64).toNat = 128 + n / 64 % 64 := by omega
      have e3 : (128 + (n : Int) % 64).toNat = 128 + n % 64 := by omega
      rw [e1, e2, e3]
    · rw [if_neg h1, if_neg h2, if_neg h3, if_neg (by omega), if_neg (by omega), if_neg (by omega), if_pos (by omega)]
      simp only [List.map_cons, List.map_nil]
      have e0 : (240 + (n : Int) / 262144).toNat = 240 + n / 262144 := by omega
      have e1 : (128 + (n : Int) / 4096 % 64).toNat = 128 + n / 4096 % 64 := by omega
      have e2 : (128 + (n : Int) / 64 % 64).toNat = 128 + n / 64 % 64 := by omega
      have e3 : (128 + (n : Int) % 64).toNat = 128 + n % 64 := by omega
      rw [e0, e1, e2, e3]
  · have h : ¬ ((0 ≤ r ∧ r < 55296) ∨ (57344 ≤ r ∧ r ≤ 1114111)) := by simpa [Utf8.valid] using hv
    have hv' : Utf8.valid r = false := by simpa using hv
    simp only [hv', Bool.false_eq_true, if_false]
    rw [if_neg (show ¬ (0 ≤ r ∧ r ≤ 127) by omega), if_neg (show ¬ (128 ≤ r ∧ r ≤ 2047) by omega), if_neg (show ¬ ((2048 ≤ r ∧ r < 55296) ∨ (57343 < r ∧ r ≤ 65535)) by omega), if_neg (show ¬ (65536 ≤ r ∧ r ≤ 1114111) by omega)]
    rfl
theorem encR_len {r : Int} : 1 ≤ (Lib.encodeRune r).length := by
  unfold Lib.encodeRune Lib.encodeRuneZ
  repeat' split
  all_goals simp
theorem toU (x : Int) (h0 : 0 ≤ x) (h1 : x < 256) : (x.toNat.toUInt8).toNat = x.toNat := by
  rw [Nat.toUInt8, UInt8.toNat_ofNat']
  omega
/-- What a rune's bytes begin is decoded to that rune. -/
theorem dec_enc {r : Int} (h : Sc r) (u : List UInt8) : Lib.decodeL (Lib.encodeRune r ++ u) = (r.toNat, (Lib.encodeRune r).length) := by
  obtain ⟨h0, hm, hs⟩ := h
  obtain ⟨n, rfl⟩ : ∃ n : Nat, r = n := ⟨r.toNat, by omega⟩
  rw [Lib.decodeL_N]
  unfold Lib.encodeRune
  by_cases h1 : n < 128
  · rw [Lib.encodeRuneZ_one (by omega) (by omega)]
    simp only [List.map_cons, List.map_nil, List.cons_append, List.nil_append, List.getD_cons_zero, List.length_cons, List.length_nil]
    rw [toU _ (by omega) (by omega)]
    unfold Lib.decodeN
    rw [if_pos (by omega)]
  by_cases h2 : n < 2048
  · rw [Lib.encodeRuneZ_two (by omega) (by omega)]
    simp only [List.map_cons, List.map_nil, List.cons_append, List.nil_append, List.getD_cons_zero, List.getD_cons_succ, List.length_cons, List.length_nil]
    rw [toU _ (by omega) (by omega), toU _ (by omega) (by omega)]
    unfold Lib.decodeN
    rw [if_neg (by omega), if_pos (by omega), if_pos (by omega)]
    congr 1; omega
  by_cases h3 : n < 65536
  · rw [Lib.encodeRuneZ_three (by omega)]
    simp only [List.map_cons, List.map_nil, List.cons_append, List.nil_append, List.getD_cons_zero, List.getD_cons_succ, List.length_cons, List.length_nil]
    rw [toU _ (by omega) (by omega), toU _ (by omega) (by omega), toU _ (by omega) (by omega)]
    unfold Lib.decodeN
    rw [if_neg (by omega), if_neg (by omega), if_pos (by omega), if_pos (by omega)]
    congr 1; omega
  · rw [Lib.encodeRuneZ_four (by omega) (by omega)]
    simp only [List.map_cons, List.map_nil, List.cons_append, List.nil_append, List.getD_cons_zero, List.getD_cons_succ, List.length_cons, List.length_nil]
    rw [toU _ (by omega) (by omega), toU _ (by omega) (by omega), toU _ (by omega) (by omega), toU _ (by omega) (by omega)]
    unfold Lib.decodeN
    rw [if_neg (by omega), if_neg (by omega), if_neg (by omega), if_pos (by omega), if_pos (by omega)]
    congr 1; omega
/-- What is decoded from valid bytes is a rune. -/
theorem dec_sc (l : List UInt8) : Sc (Lib.decodeL l).1 := by
  rw [Lib.decodeL_N]
  unfold Sc
  have k0 := (l.getD 0 0).toNat_lt
  rcases Lib.decodeN_shape l.length (l.getD 0 0).toNat (l.getD 1 0).toNat (l.getD 2 0).toNat (l.getD 3 0).toNat with ⟨c, e⟩ | ⟨c1, c2, c3, cv, e⟩ | ⟨c1, c2, c3, c4, cv, cs, e⟩ | ⟨c1, c2, c3, c4, c5, cv, cw, e⟩ | e
  all_goals (rw [e]; simp only []; omega)
def encs (rs : List Int) : List UInt8 := rs.flatMap Lib.encodeRune
theorem encs_app (a b : List Int) : encs (a ++ b) = encs a ++ encs b := by unfold encs; rw [List.flatMap_append]
theorem encs_cons (r : Int) (b : List Int) : encs (r :: b) = Lib.encodeRune r ++ encs b := rfl

/-- The steps, by their bits. -/
def stepB (c k l : Bool) (x : Int) : Int := cond l (letterV (cond k (bareV (cond c (lowV x) x)) (cond c (lowV x) x))) (cond k (bareV (cond c (lowV x) x)) (cond c (lowV x) x))
theorem low_high {x : Int} (h : 255 < x) (h2 : x ≠ 376) : 255 < lowV x ∧ lowV x ≠ 376 := by
  unfold lowV
  repeat' split
  all_goals omega
theorem low_idem {x : Int} (h : 255 < x) (h2 : x ≠ 376) : lowV (lowV x) = lowV x := by
  have h3 := low_high h h2
  generalize hy : lowV x = y at *
  unfold lowV at hy ⊢
  repeat' split
  all_goals first | rfl | ((repeat' split at hy) <;> omega)
theorem bare_high {x : Int} (h : 255 < x) : bareV x = x := by unfold bareV; rw [if_pos (.inr h)]
theorem letter_high {x : Int} (h : 255 < x) : letterV x = x := by unfold letterV; rw [if_neg (by omega)]
theorem step_high (c k l : Bool) {x : Int} (h : 255 < x) (h2 : x ≠ 376) : stepB c k l x = cond c (lowV x) x ∧ 255 < stepB c k l x ∧ stepB c k l x ≠ 376 := by
  have h3 := low_high h h2
  have e : stepB c k l x = cond c (lowV x) x := by
    unfold stepB
    cases c <;> cases k <;> cases l <;> simp only [cond_true, cond_false] <;> simp only [bare_high h, bare_high h3.1, letter_high h, letter_high h3.1]
  rw [e]
  cases c
  · exact ⟨rfl, h, h2⟩
  · exact ⟨rfl, h3.1, h3.2⟩
/-- The few numbers that any step but the first concerns. -/
def lowN (i : Nat) : Int := if i = 256 then 376 else i
theorem low_cases {x : Int} (h0 : 0 ≤ x) : (∃ i : Fin 257, x = lowN i.val) ∨ (255 < x ∧ x ≠ 376) := by
  by_cases h1 : x = 376
  · exact .inl ⟨⟨256, by omega⟩, h1⟩
  by_cases h2 : 255 < x
  · exact .inr ⟨h2, h1⟩
  · refine .inl ⟨⟨x.toNat, by omega⟩, ?_⟩
    unfold lowN
    rw [if_neg (by simp only []; omega)]; simp only []; omega
theorem fin_more : ∀ i : Fin 257, ∀ c k l c' k' l' : Bool, (!c || c') && (!k || k') && (!l || l') = true → stepB c' k' l' (stepB c k l (lowN i.val)) = stepB c' k' l' (lowN i.val) := by decide +kernel
theorem step_more {c k l c' k' l' : Bool} (h : (!c || c') && (!k || k') && (!l || l') = true) {x : Int} (h0 : 0 ≤ x) : stepB c' k' l' (stepB c k l x) = stepB c' k' l' x := by
  rcases low_cases h0 with ⟨i, rfl⟩ | ⟨h1, h2⟩
  · exact fin_more i c k l c' k' l' h
  · have a := step_high c k l h1 h2
    rw [(step_high c' k' l' a.2.1 a.2.2).1, (step_high c' k' l' h1 h2).1, a.1]
    cases c <;> cases c' <;> simp only [cond_true, cond_false]
    · simp at h
    · exact low_idem h1 h2
theorem fin_range : ∀ i : Fin 257, ∀ c k l : Bool, 0 ≤ stepB c k l (lowN i.val) ∧ stepB c k l (lowN i.val) ≤ 376 := by decide +kernel
theorem step_sc (c k l : Bool) {x : Int} (h : Sc x) : Sc (stepB c k l x) := by
  rcases low_cases h.1 with ⟨i, rfl⟩ | ⟨h1, h2⟩
  · have := fin_range i c k l
    exact ⟨by omega, by omega, by omega⟩
  · rw [(step_high c k l h1 h2).1]
    cases c
    · exact h
    · obtain ⟨a, b, d⟩ := h
      simp only [cond_true]
      unfold Sc lowV
      repeat' split
      all_goals omega
/-- What folding may leave out. -/
def lost (x : Int) : Prop := kOf x = 4 ∨ kOf x = 2
theorem lost_iff (x : Int) : lost x ↔ (isJoiner x ∨ isAccent x) := by
  unfold lost kOf
  constructor
  · intro h
    repeat' split at h
    all_goals first | (left; assumption) | (right; assumption) | (exfalso; omega)
  · intro h
    rcases h with h | h
    · rw [if_pos h]; exact .inl rfl
    · rw [if_neg (by omega), if_neg (by omega), if_neg (by omega), if_pos h]; exact .inr rfl
theorem kind_lost {x : Int} (h : isJoiner x ∨ isAccent x) : (kOf x = 4 ↔ isJoiner x) ∧ (kOf x = 2 ↔ isAccent x) := by
  unfold kOf
  by_cases hj : isJoiner x
  · rw [if_pos hj]
    exact ⟨⟨fun _ => hj, fun _ => rfl⟩, fun h => by omega, fun h => by omega⟩
  · have ha : isAccent x := h.resolve_left hj
    rw [if_neg hj, if_neg (by omega), if_neg (by omega), if_pos ha]
    exact ⟨⟨fun h => by omega, fun h => absurd h hj⟩, fun _ => ha, fun _ => rfl⟩
theorem fin_lost : ∀ i : Fin 257, ∀ c k l : Bool, ((isJoiner (lowN i.val) ∨ isAccent (lowN i.val)) ↔ (isJoiner (stepB c k l (lowN i.val)) ∨ isAccent (stepB c k l (lowN i.val)))) ∧ ((isJoiner (lowN i.val) ∨ isAccent (lowN i.val)) → stepB c k l (lowN i.val) = lowN i.val) := by decide +kernel
theorem step_lost (c k l : Bool) {x : Int} (h0 : 0 ≤ x) : (lost x ↔ lost (stepB c k l x)) ∧ (lost x → stepB c k l x = x) := by
  rw [lost_iff, lost_iff]
  rcases low_cases h0 with ⟨i, rfl⟩ | ⟨h1, h2⟩
  · exact fin_lost i c k l
  · rw [(step_high c k l h1 h2).1]
    cases c
    · exact ⟨Iff.rfl, fun _ => rfl⟩
    · simp only [cond_true]
      unfold lowV
      repeat' split
      all_goals first | exact ⟨Iff.rfl, fun _ => rfl⟩ | (refine ⟨⟨fun h => ?_, fun h => ?_⟩, fun h => ?_⟩ <;> omega)
theorem fin_lig : ∀ i : Fin 257, ∀ c k l : Bool, isLig (stepB c k l (lowN i.val)) = isLig (lowN i.val) := by decide +kernel
theorem step_lig (c k l : Bool) {x : Int} (h0 : 0 ≤ x) : isLig (stepB c k l x) = isLig x := by
  rcases low_cases h0 with ⟨i, rfl⟩ | ⟨h1, h2⟩
  · exact fin_lig i c k l
  · rw [(step_high c k l h1 h2).1]
    cases c
    · rfl
    · simp only [cond_true]
      unfold isLig
      rw [decide_eq_decide]
      unfold lowV
      repeat' split
      all_goals omega
def ligsL : List Int := [198, 230, 338, 339, 223, 383, 306, 307, 64256, 64257, 64258, 64259, 64260, 64261, 64262]
theorem lig_mem {x : Int} (h : isLig x = true) : ∃ i : Fin 15, x = ligsL.getD i.val 0 := by
  have h := of_decide_eq_true h
  rcases h with h | h | h | h | h | h | h | h | h
  · exact ⟨0, h⟩
  · exact ⟨1, h⟩
  · exact ⟨2, h⟩
  · exact ⟨3, h⟩
  · exact ⟨4, h⟩
  · exact ⟨5, h⟩
  · exact ⟨6, h⟩
  · exact ⟨7, h⟩
  · obtain ⟨n, hn⟩ : ∃ n : Fin 7, x = 64256 + (n.val : Int) := ⟨⟨(x - 64256).toNat, by omega⟩, by simp only []; omega⟩
    subst hn
    refine ⟨⟨8 + n.val, by omega⟩, ?_⟩
    revert n; decide +kernel
theorem fin_ligs : ∀ i : Fin 15, ∀ c k l c' k' l' : Bool, (!c || c') && (!k || k') && (!l || l') = true →
    (bytesI (ligB (stepB c k l (ligsL.getD i.val 0)))).map (stepB c' k' l') = (bytesI (ligB (ligsL.getD i.val 0))).map (stepB c' k' l') := by decide +kernel
def lostB (x : Int) : Bool := decide (isJoiner x ∨ isAccent x)
theorem fin_ligb : ∀ i : Fin 15, ((bytesI (ligB (ligsL.getD i.val 0))).all fun b => decide (0 ≤ b) && decide (b ≤ 255) && !lostB b && !isLig b) = true ∧ lostB (ligsL.getD i.val 0) = false := by decide +kernel
theorem lostB_iff {x : Int} : lostB x = true ↔ lost x := by rw [lost_iff]; unfold lostB; exact decide_eq_true_iff
theorem lig_kept {x : Int} (h : isLig x = true) : ¬ lost x := fun hl => by
  obtain ⟨i, rfl⟩ := lig_mem h
  have := (fin_ligb i).2
  rw [lostB_iff.mpr hl] at this; cases this
theorem lig_bytes {x b : Int} (h : isLig x = true) (hb : b ∈ bytesI (ligB x)) : 0 ≤ b ∧ b ≤ 255 ∧ ¬ lost b ∧ isLig b = false := by
  obtain ⟨i, rfl⟩ := lig_mem h
  have := List.all_eq_true.mp (fin_ligb i).1 b hb
  simp only [Bool.and_eq_true, decide_eq_true_eq, Bool.not_eq_true'] at this
  exact ⟨this.1.1.1, this.1.1.2, fun hl => (by rw [lostB_iff.mpr hl] at this; cases this.1.2), this.2⟩
/-- What a rune becomes, as runes: by the bits of the sum. -/
def foldB (c k g l j : Bool) (x : Int) : List Int :=
  if (j = true ∧ kOf x = 4) ∨ (k = true ∧ kOf x = 2) then [] else (if isLig x = true ∧ g = true then bytesI (ligB x) else [x]).map (stepB c k l)
theorem foldB_gone {c k g l j : Bool} {x : Int} (h : (j = true ∧ kOf x = 4) ∨ (k = true ∧ kOf x = 2)) : foldB c k g l j x = [] := if_pos h
theorem foldB_stay {c k g l j : Bool} {x : Int} (h : ¬ ((j = true ∧ kOf x = 4) ∨ (k = true ∧ kOf x = 2))) : foldB c k g l j x = (if isLig x = true ∧ g = true then bytesI (ligB x) else [x]).map (stepB c k l) := if_neg h
/-- Runes that are not left out and that stand for no others. -/
theorem foldB_plain {c k g l j : Bool} {x : Int} (h : ¬ lost x) (h2 : isLig x = false) : foldB c k g l j x = [stepB c k l x] := by
  rw [foldB_stay (fun h3 => h (by rcases h3 with ⟨_, h3⟩ | ⟨_, h3⟩; exact .inl h3; exact .inr h3)), if_neg (fun h3 => by rw [h2] at h3; exact Bool.noConfusion h3.1)]
  rfl
theorem fold_more {c k g l j c' k' g' l' j' : Bool} (h : (!c || c') && (!k || k') && (!l || l') = true) (hg : g = true → g' = true) (hj : j = true → j' = true) {x : Int} (hx : Sc x) :
    (foldB c k g l j x).flatMap (foldB c' k' g' l' j') = foldB c' k' g' l' j' x := by
  have hk : k = true → k' = true := fun e => by subst e; cases k' with | true => rfl | false => simp at h
  by_cases hd : (j = true ∧ kOf x = 4) ∨ (k = true ∧ kOf x = 2)
  · have hd' : (j' = true ∧ kOf x = 4) ∨ (k' = true ∧ kOf x = 2) := by
      rcases hd with ⟨a, b⟩ | ⟨a, b⟩
      · exact .inl ⟨hj a, b⟩
      · exact .inr ⟨hk a, b⟩
    rw [foldB_gone hd, foldB_gone hd']; rfl
  rw [foldB_stay hd]
  by_cases hlg : isLig x = true ∧ g = true
  · -- the ligature's letters
    have hnl := lig_kept hlg.1
    rw [if_pos hlg, foldB_stay (c := c') (fun h3 => hnl (by rcases h3 with ⟨_, h3⟩ | ⟨_, h3⟩; exact .inl h3; exact .inr h3)), if_pos ⟨hlg.1, hg hlg.2⟩]
    rw [List.flatMap_map]
    have key : ∀ b ∈ bytesI (ligB x), foldB c' k' g' l' j' (stepB c k l b) = [stepB c' k' l' b] := fun b hb => by
      obtain ⟨b0, b1, b2, b3⟩ := lig_bytes hlg.1 hb
      rw [foldB_plain (fun h => b2 ((step_lost c k l b0).1.mpr h)) (by rw [step_lig c k l b0]; exact b3), step_more h b0]
    generalize bytesI (ligB x) = B at key
    induction B with
    | nil => rfl
    | cons b B ih =>
      rw [List.flatMap_cons, key b (List.mem_cons_self ..), ih (fun b hb => key b (List.mem_cons_of_mem _ hb))]; rfl
  · rw [if_neg hlg]
    simp only [List.map_cons, List.map_nil, List.flatMap_cons, List.flatMap_nil, List.append_nil]
    have hsl := step_lost c k l hx.1
    have hgl := step_lig c k l hx.1
    by_cases hl : lost x
    · rw [hsl.2 hl]
    · have hl2 : ¬ lost (stepB c k l x) := fun h => hl (hsl.1.mpr h)
      cases hq : isLig x with
      | false => rw [foldB_plain hl hq, foldB_plain hl2 (by rw [hgl]; exact hq), step_more h hx.1]
      | true =>
        rw [foldB_stay (x := stepB c k l x) (fun h3 => hl2 (by rcases h3 with ⟨_, h3⟩ | ⟨_, h3⟩; exact .inl h3; exact .inr h3)), foldB_stay (x := x) (c := c') (fun h3 => hl (by rcases h3 with ⟨_, h3⟩ | ⟨_, h3⟩; exact .inl h3; exact .inr h3)), hgl, hq]
        cases g' with
        | false => simp only [Bool.false_eq_true, and_false, if_false, List.map_cons, List.map_nil]; rw [step_more h hx.1]
        | true =>
          simp only [and_self, if_true]
          obtain ⟨i, rfl⟩ := lig_mem hq
          exact fin_ligs i c k l c' k' l' h
theorem foldB_sc {c k g l j : Bool} {x y : Int} (hx : Sc x) (hy : y ∈ foldB c k g l j x) : Sc y := by
  unfold foldB at hy
  split at hy
  · cases hy
  · obtain ⟨z, hz, rfl⟩ := List.mem_map.mp hy
    refine step_sc c k l ?_
    split at hz
    · rename_i h
      have := lig_bytes h.1 hz
      exact ⟨by omega, by omega, by omega⟩
    · rcases List.mem_cons.mp hz with rfl | hz
      · exact hx
      · cases hz
/-- What a rune becomes, as runes. -/
def foldL (o r : Int) : List Int := foldB (decide (o % 2 = 1)) (decide (o / 2 % 2 = 1)) (decide (o / 4 % 2 = 1)) (decide (o / 8 % 2 = 1)) (decide (o / 16 % 2 = 1)) r
theorem stepV_eq (o x : Int) : stepV o x = stepB (decide (o % 2 = 1)) (decide (o / 2 % 2 = 1)) (decide (o / 8 % 2 = 1)) x := by
  unfold stepV appL stepsF stepB
  by_cases h1 : o % 2 = 1 <;> by_cases h2 : o / 2 % 2 = 1 <;> by_cases h3 : o / 8 % 2 = 1 <;> simp [h1, h2, h3, appF]
theorem catE_eq (o : Int) : ∀ l : List Int, catE o l = bl (encs (l.map (stepV o)))
  | [] => rfl
  | x :: r => by
    rw [catE, catE_eq o r, enc_eq, ← bl_app]; rfl
theorem foldR_eq (r o : Int) : foldR r o = bl (encs (foldL o r)) := by
  unfold foldR foldL foldB dropV
  simp only [decide_eq_true_eq]
  split
  · rfl
  · rw [catE_eq, runesV_eq]
    congr 2
    refine List.map_congr_left (fun x _ => stepV_eq o x)
theorem enc_one {r : Int} (h : Sc r) : ¬ (r.toNat = 65533 ∧ (Lib.encodeRune r).length = 1) := by
  rintro ⟨h1, h2⟩
  obtain rfl : r = 65533 := by have := h.1; omega
  revert h2; decide
theorem cells_step {s : ByteArray} {p : Nat} {r : Int} {u : List UInt8} (h : s.data.toList.drop p = Lib.encodeRune r ++ u) (hr : Sc r) :
    cells s p = ⟨p, (Lib.encodeRune r).length, r, false, 0⟩ :: cells s (p + (Lib.encodeRune r).length) := by
  have hd : Utf8.decode s p = (r.toNat, (Lib.encodeRune r).length) := by rw [← Lib.decodeL_drop, h, dec_enc hr]
  have hp : p < s.size := by
    have h1 := encR_len (r := r)
    have h2 := congrArg List.length h
    rw [List.length_drop, List.length_append] at h2
    have h3 : s.data.toList.length = s.size := by simp
    omega
  rw [cells_in hp, hd]
  unfold cellAt
  rw [hd, if_neg (enc_one hr)]
  simp only []
  rw [Int.toNat_of_nonneg hr.1]
theorem cells_encs (o : Int) (s : ByteArray) : ∀ (rs : List Int) (p : Nat), (∀ r ∈ rs, Sc r) → s.data.toList.drop p = encs rs → catC o (cells s p) = bl (encs (rs.flatMap (foldL o))) ∧ ∀ c ∈ cells s p, c.bad = false
  | [], p, _, h => by
    have hp : ¬ p < s.size := by
      have h2 := congrArg List.length h
      rw [List.length_drop] at h2
      have h3 : s.data.toList.length = s.size := by simp
      simp [encs] at h2; omega
    rw [cells_out hp]
    exact ⟨rfl, fun c hc => by cases hc⟩
  | r :: rs, p, hs, h => by
    rw [encs_cons] at h
    have hr := hs r (List.mem_cons_self ..)
    have hn : s.data.toList.drop (p + (Lib.encodeRune r).length) = encs rs := by rw [← List.drop_drop, h, List.drop_left]
    obtain ⟨i1, i2⟩ := cells_encs o s rs _ (fun r hr => hs r (List.mem_cons_of_mem _ hr)) hn
    rw [cells_step h hr]
    refine ⟨?_, fun c hc => ?_⟩
    · rw [catC, i1, List.flatMap_cons, encs_app, bl_app]
      congr 1
      unfold cellF
      rw [if_neg (by simp)]
      exact foldR_eq r o
    · rcases List.mem_cons.mp hc with rfl | hc
      · rfl
      · exact i2 c hc
theorem text_encs (o : Int) {rs : List Int} (h : ∀ r ∈ rs, Sc r) : textF (bl (encs rs)) o = bl (encs (rs.flatMap (foldL o))) := (cells_encs o (bl (encs rs)) rs 0 h (by rw [bl_list]; rfl)).1
/-- A text without bad bytes. -/
def ValidT (s : ByteArray) : Prop := ∀ c ∈ cells s 0, c.bad = false
theorem valid_encs {rs : List Int} (h : ∀ r ∈ rs, Sc r) : ValidT (bl (encs rs)) := (cells_encs 0 (bl (encs rs)) rs 0 h (by rw [bl_list]; rfl)).2
theorem valid_drop (s : ByteArray) (p : Nat) (h : ∀ c ∈ cells s p, c.bad = false) : ∃ rs, (∀ r ∈ rs, Sc r) ∧ s.data.toList.drop p = encs rs := by
  by_cases hp : p < s.size
  · have hw := Lib.width_pos s p
    rw [cells_in hp] at h
    obtain ⟨rs, h1, h2⟩ := valid_drop s (p + (Utf8.decode s p).2) (fun c hc => h c (List.mem_cons_of_mem _ hc))
    have hc := h _ (List.mem_cons_self ..)
    have hv : ¬ ((Utf8.decode s p).1 = 65533 ∧ (Utf8.decode s p).2 = 1) := fun hv => by
      unfold cellAt at hc
      rw [if_pos hv] at hc; cases hc
    have hne : s.data.toList.drop p ≠ [] := fun e => by
      have h2 := congrArg List.length e
      rw [List.length_drop] at h2
      have h3 : s.data.toList.length = s.size := by simp
      simp at h2; omega
    have he := Lib.encode_decode _ hne (by rw [Lib.decodeL_drop]; exact hv)
    have hsc := dec_sc (s.data.toList.drop p)
    rw [Lib.decodeL_drop] at he hsc
    refine ⟨(Utf8.decode s p).1 :: rs, fun r hr => ?_, ?_⟩
    · rcases List.mem_cons.mp hr with rfl | hr
      · exact hsc
      · exact h1 r hr
    · rw [encs_cons, he, ← h2, ← List.drop_drop, List.take_append_drop]
  · refine ⟨[], fun r hr => (by cases hr), ?_⟩
    rw [List.drop_eq_nil_of_le (by have h3 : s.data.toList.length = s.size := by simp
                                   omega)]
    rfl
termination_by s.size - p
theorem valid_of {s : ByteArray} (h : ValidT s) : ∃ rs, (∀ r ∈ rs, Sc r) ∧ s = bl (encs rs) := by
  obtain ⟨rs, h1, h2⟩ := valid_drop s 0 h
  exact ⟨rs, h1, by rw [← h2, List.drop_zero, bl_of]⟩
theorem foldL_sc {o r x : Int} (h : Sc r) (hx : x ∈ foldL o r) : Sc x := foldB_sc h hx
theorem text_valid (o : Int) {s : ByteArray} (h : ValidT s) : ValidT (textF s o) := by
  obtain ⟨rs, h1, rfl⟩ := valid_of h
  rw [text_encs o h1]
  refine valid_encs (fun x hx => ?_)
  obtain ⟨r, hr, hx⟩ := List.mem_flatMap.mp hx
  exact foldL_sc (h1 r hr) hx
/-- One sum within another. -/
def subO (o m : Int) : Prop := (o % 2 = 1 → m % 2 = 1) ∧ (o / 2 % 2 = 1 → m / 2 % 2 = 1) ∧ (o / 4 % 2 = 1 → m / 4 % 2 = 1) ∧ (o / 8 % 2 = 1 → m / 8 % 2 = 1) ∧ (o / 16 % 2 = 1 → m / 16 % 2 = 1)
theorem text_more {o m : Int} (h : subO o m) {s : ByteArray} (hs : ValidT s) : textF (textF s o) m = textF s m := by
  obtain ⟨rs, h1, rfl⟩ := valid_of hs
  have h2 : ∀ x ∈ rs.flatMap (foldL o), Sc x := fun x hx => by
    obtain ⟨r, hr, hx⟩ := List.mem_flatMap.mp hx
    exact foldL_sc (h1 r hr) hx
  rw [text_encs o h1, text_encs m h2, text_encs m h1]
  congr 2
  have key : ∀ r ∈ rs, (foldL o r).flatMap (foldL m) = foldL m r := fun r hr => by
    obtain ⟨a1, a2, a3, a4, a5⟩ := h
    refine fold_more ?_ (fun e => decide_eq_true (a3 (of_decide_eq_true e))) (fun e => decide_eq_true (a5 (of_decide_eq_true e))) (h1 r hr)
    simp only [Bool.and_eq_true, Bool.or_eq_true, Bool.not_eq_true', decide_eq_false_iff_not, decide_eq_true_eq]
    exact ⟨⟨by omega, by omega⟩, by omega⟩
  clear h1 h2 hs
  induction rs with
  | nil => rfl
  | cons r rs ih =>
    rw [List.flatMap_cons, List.flatMap_append, key r (List.mem_cons_self ..), ih (fun r hr => key r (List.mem_cons_of_mem _ hr)), List.flatMap_cons]
theorem text_once (o : Int) {s : ByteArray} (hs : ValidT s) : textF (textF s o) o = textF s o := text_more ⟨id, id, id, id, id⟩ hs
theorem text_joins (o : Int) {s t : ByteArray} (hs : ValidT s) (ht : ValidT t) : textF (s ++ t) o = textF s o ++ textF t o := by
  obtain ⟨rs, h1, rfl⟩ := valid_of hs
  obtain ⟨ts, h2, rfl⟩ := valid_of ht
  have h3 : ∀ r ∈ rs ++ ts, Sc r := fun r hr => (List.mem_append.mp hr).elim (h1 r) (h2 r)
  rw [← bl_app, ← encs_app, text_encs o h3, text_encs o h1, text_encs o h2, List.flatMap_append, encs_app, bl_app]
theorem text_size (o : Int) (s : ByteArray) : (textF s o).size ≤ 12 * s.size := by
  have h1 := catC_size o (cells s 0)
  have h2 := cells_len s 0
  unfold textF; omega
end Go.Proofs.YtfodjmemdkibpaaDoor.V
