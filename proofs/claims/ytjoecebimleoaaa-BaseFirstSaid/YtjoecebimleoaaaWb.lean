/-
The functions that this seat's laws reach, walked: one entry's check (the document's).
-/
import Derived.Test.YtjoecebimleoaaaWa
import Derived.Test.YtjoecebimleoaaaRa
namespace Go.Proofs.Ytjoecebimleoaaa.V
open Go Go.Proofs Go.RowKit
set_option maxRecDepth 100000
set_option maxHeartbeats 1000000
theorem entry_fn (e : En) (n : Int) (h0 : 1 ≤ n) (h1 : n ≤ 12) : Fn Try.prog 15 [.agg 2 (tEn.enc e), .int .i64 n] (.bool (decide (Right n e.rds))) := by
  refine Fn.of Try.f15 _ Try.func15 rfl (by decide) (by show 2 ≤ _; decide) tbOk 123 rfl fun S w0 => ?_
  refine Run.go ?_; (conv => whnf); repeat' (first | ((with_reducible refine Know.mk fun _ => ?_); conv => whnf) | ((with_reducible refine Need.mk ?_ ?_); (first | omega | (dsimp only; omega) | exact bytes_le (by rfl) (by omega) | exact ⟨rfl, by omega, bytes_le (by rfl) (by omega), by omega⟩ | (refine ⟨?_, ?_⟩ <;> (rw [wrap64 (by omega) (by omega)]; omega))); conv => whnf) | ((with_reducible refine Any.mk fun b hb => ?_); conv => whnf) | ((with_reducible refine AskB.dec (fun hb => ?_) (fun hb => ?_)) <;> conv => whnf) | ((with_reducible refine AskB.ndec (fun hb => ?_) (fun hb => ?_)) <;> conv => whnf) | ((with_reducible refine AskB.mk (fun hb => ?_) (fun hb => ?_)) <;> conv => whnf) | ((with_reducible refine Run.drawX rfl (by decide +kernel) ?_); conv => whnf) | ((with_reducible refine Run.drawW rfl (by kernel_rfl) ?_); conv => whnf))
  · refine Run.leave (ts := [4]) (.inr ⟨_, rfl⟩) rfl Try.func15 rfl (Le.bool (decide_eq_false ?_).symm)
    rintro ⟨_, h2, _⟩; omega
  refine Run.loop [1,2,5] (fun i : Nat => [(6, .int .i64 ((fl (e.rds.take i)).length : Int)), (7, .int .i64 (i : Int))]) (fun i => [(2, .box 39 [.int .i64 e.col, tRd.L e.rds]), (18, .row 4 1 n.toNat (tB.G (seenL n (fl (e.rds.take i)))))])
    (fun i => i ≤ e.rds.length ∧ Part n (e.rds.take i)) (fun i => e.rds.length - i) 0 ⟨Nat.zero_le _, ⟨by simp, by simp [fl], by simp⟩⟩ ⟨Le.refl _, Le.refl _, trivial⟩ ⟨?_, ?_, trivial⟩ ?_
  · exact MOle.refl _
  · refine ⟨rfl, rfl, rfl, fun i j hi hj => ?_⟩
    have : j = 0 := by omega
    subst this
    refine Le.ff.trans (Le.bool ?_)
    simp [seenL, fl, hi]
  intro i ⟨hi, hP⟩ IH
  refine Run.go ?_; (conv => whnf); repeat' (first | ((with_reducible refine Know.mk fun _ => ?_); conv => whnf) | ((with_reducible refine Need.mk ?_ ?_); (first | omega | (dsimp only; omega) | exact bytes_le (by rfl) (by omega) | exact ⟨rfl, by omega, bytes_le (by rfl) (by omega), by omega⟩ | (refine ⟨?_, ?_⟩ <;> (rw [wrap64 (by omega) (by omega)]; omega))); conv => whnf) | ((with_reducible refine Any.mk fun b hb => ?_); conv => whnf) | ((with_reducible refine AskB.dec (fun hb => ?_) (fun hb => ?_)) <;> conv => whnf) | ((with_reducible refine AskB.ndec (fun hb => ?_) (fun hb => ?_)) <;> conv => whnf) | ((with_reducible refine AskB.mk (fun hb => ?_) (fun hb => ?_)) <;> conv => whnf) | ((with_reducible refine Run.drawX rfl (by decide +kernel) ?_); conv => whnf) | ((with_reducible refine Run.drawW rfl (by kernel_rfl) ?_); conv => whnf))
  · refine Run.leave (ts := [4]) (.inr ⟨_, rfl⟩) rfl Try.func15 rfl (Le.bool (decide_eq_false fun hR => ?_).symm)
    rw [Int.toNat_natCast] at hb
    exact (hR.1.each _ (getD_mem (z := tRd.z) i (by omega))).some (List.length_eq_zero_iff.mp (by omega))
  · refine Run.leave (ts := [4]) (.inr ⟨_, rfl⟩) rfl Try.func15 rfl (Le.bool (decide_eq_false fun hR => ?_).symm)
    rw [Int.toNat_natCast] at hb
    have := (hR.1.each _ (getD_mem (z := tRd.z) _ (show i < e.rds.length by omega))).nons
    rw [this] at hb
    simp at hb
  · have hil : i < e.rds.length := by omega
    have hrn0 := hb
    rename_i hwl
    have hmem : e.rds.getD (↑i : Int).toNat tRd.z ∈ e.rds := by rw [Int.toNat_natCast]; exact getD_mem i hil
    have hfl : fl (e.rds.take (i + 1)) = fl (e.rds.take i) ++ (e.rds.getD (↑i : Int).toNat tRd.z).wits := by rw [Int.toNat_natCast]; exact fl_take _ _ _ hil
    have hsub : ∃ rest, fl e.rds = fl (e.rds.take i) ++ (e.rds.getD (↑i : Int).toNat tRd.z).wits ++ rest := by rw [Int.toNat_natCast]; exact fl_sub _ _ _ hil
    have htk : e.rds.take (i + 1) = e.rds.take i ++ [e.rds.getD (↑i : Int).toNat tRd.z] := by rw [Int.toNat_natCast]; exact take_get _ _ _ hil
    generalize hr : e.rds.getD (↑i : Int).toNat tRd.z = r at *
    refine Run.loop [1,2,5,7,8] (fun k : Nat => [(6, .int .i64 (((fl (e.rds.take i)).length + k : Nat) : Int)), (9, .int .i64 (k : Int))])
      (fun k => [(2, .box 39 [.int .i64 e.col, tRd.L e.rds]), (8, .box 42 [.bool r.none, .str r.text, tI.L r.wits]), (18, .row 4 1 n.toNat (tB.G (seenL n (fl (e.rds.take i) ++ r.wits.take k))))])
      (fun k => k ≤ r.wits.length ∧ (r.wits.take k).Pairwise (· < ·) ∧ (∀ w ∈ r.wits.take k, 0 ≤ w ∧ w < n) ∧ (fl (e.rds.take i) ++ r.wits.take k).Nodup) (fun k => r.wits.length - k) 0
      ⟨Nat.zero_le _, by simp, by simp, by simpa using hP.nodup⟩ ⟨Le.refl _, Le.refl _, trivial⟩ ⟨?_, ?_, ?_, trivial⟩ ?_
    · exact MOle.refl _
    · rw [← hr]; exact MOle.refl _
    · simp only [List.take_zero, List.append_nil]; exact MOle.refl _
    intro k ⟨hk, hup, hrng, hnd⟩ IHk
    refine Run.go ?_; (conv => whnf); repeat' (first | ((with_reducible refine Know.mk fun _ => ?_); conv => whnf) | ((with_reducible refine Need.mk ?_ ?_); (first | omega | (dsimp only; omega) | exact bytes_le (by rfl) (by omega) | exact ⟨rfl, by omega, bytes_le (by rfl) (by omega), by omega⟩ | (refine ⟨?_, ?_⟩ <;> (rw [wrap64 (by omega) (by omega)]; omega))); conv => whnf) | ((with_reducible refine Any.mk fun b hb => ?_); conv => whnf) | ((with_reducible refine AskB.dec (fun hb => ?_) (fun hb => ?_)) <;> conv => whnf) | ((with_reducible refine AskB.ndec (fun hb => ?_) (fun hb => ?_)) <;> conv => whnf) | ((with_reducible refine AskB.mk (fun hb => ?_) (fun hb => ?_)) <;> conv => whnf) | ((with_reducible refine Run.drawX rfl (by decide +kernel) ?_); conv => whnf) | ((with_reducible refine Run.drawW rfl (by kernel_rfl) ?_); conv => whnf))
    · refine Run.leave (ts := [4]) (.inr ⟨_, rfl⟩) rfl Try.func15 rfl (Le.bool (decide_eq_false fun hR => ?_).symm)
      rw [Int.toNat_natCast] at hb
      have := ((hR.1.each _ hmem).rng _ (getD_mem (z := tI.z) k (by omega))).1
      omega
    · refine Run.leave (ts := [4]) (.inr ⟨_, rfl⟩) rfl Try.func15 rfl (Le.bool (decide_eq_false fun hR => ?_).symm)
      rw [Int.toNat_natCast] at hb
      have := ((hR.1.each _ hmem).rng _ (getD_mem (z := tI.z) k (by omega))).2
      omega
    · refine Run.leave (ts := [4]) (.inr ⟨_, rfl⟩) rfl Try.func15 rfl (Le.bool (decide_eq_false fun hR => ?_).symm)
      rw [Int.toNat_natCast] at hb
      have h9 := ((hR.1.each _ hmem).rng _ (getD_mem (z := tI.z) k (by omega)))
      rw [show tB.z = false from rfl, seen_at h9.1 h9.2, decide_eq_true_eq] at hb
      obtain ⟨rest, hrest⟩ := hsub
      have hn := hR.1.nodup
      rw [hrest, all_get tI.z r.wits k (by omega), ← List.append_assoc, List.append_assoc] at hn
      exact (List.nodup_append.mp hn).2.2 _ hb _ (by simp) rfl
    · refine Run.leave (ts := [4]) (.inr ⟨_, rfl⟩) rfl Try.func15 rfl (Le.bool (decide_eq_false fun hR => ?_).symm)
      rw [Int.toNat_natCast, wrap64 (by omega) (by omega), show ((k : Int) - 1).toNat = k - 1 by omega] at hb
      have := pair_at (hR.1.each _ hmem).up (show k - 1 < k by omega) (by omega)
      have hb' : r.wits.getD k 0 ≤ r.wits.getD (k - 1) 0 := hb
      omega
    · rename_i hw0 hwn hsn hk0
      rw [Int.toNat_natCast] at hw0 hwn hsn
      rw [Int.toNat_natCast, wrap64 (by omega) (by omega), show ((k : Int) - 1).toNat = k - 1 by omega] at hb
      have hw0' : 0 ≤ r.wits.getD k 0 := Int.not_lt.mp hw0
      have hwn' : r.wits.getD k 0 < n := Int.not_le.mp hwn
      have hb' : r.wits.getD (k - 1) 0 < r.wits.getD k 0 := Int.not_le.mp hb
      have htk2 := take_get 0 r.wits k (by omega)
      have hlen := nodup_len n.toNat _ hnd (fun w hw => by
        rcases List.mem_append.mp hw with hw | hw
        · obtain ⟨r', hr', hw'⟩ := List.mem_flatMap.mp hw
          have := (hP.each r' hr').rng w hw'; omega
        · have := hrng w hw; omega)
      rw [List.length_append, List.length_take] at hlen
      rw [show tB.z = false from rfl, show tI.z = 0 from rfl, seen_at hw0' hwn', decide_eq_false_iff_not] at hsn
      refine Run.to _ _ ?_ ?_ (IHk (k + 1) (by omega) ⟨by omega, pair_push (R := fun a b => a < b) (fun a b c => Int.lt_trans) (show k < r.wits.length by omega) hup (fun _ => hb'), fun w hw => ?_, ?_⟩)
      · exact ⟨Le.refl _, Le.refl _, Le.refl _, Le.refl _, Le.refl _, Le.wrap64 (by omega) (by omega) (by omega), Le.wrap64 (by omega) (by omega) (by omega), trivial⟩
      · refine ⟨MOle.refl _, MOle.refl _, ?_, trivial⟩
        rw [htk2, ← List.append_assoc]
        exact seen_upd hw0' hwn' _ rfl
      · rw [htk2] at hw
        rcases List.mem_append.mp hw with hw | hw
        · exact hrng w hw
        · have : w = r.wits.getD k 0 := by simpa using hw
          omega
      · rw [htk2, ← List.append_assoc]
        exact List.nodup_append.mpr ⟨hnd, by simp, fun a ha b hb2 e => hsn (by rw [← (show b = r.wits.getD k 0 by simpa using hb2), ← e]; exact ha)⟩
    · rename_i hw0 hwn hsn
      rw [Int.toNat_natCast] at hw0 hwn hsn
      have hw0' : 0 ≤ r.wits.getD k 0 := Int.not_lt.mp hw0
      have hwn' : r.wits.getD k 0 < n := Int.not_le.mp hwn
      have htk2 := take_get 0 r.wits k (by omega)
      have hlen := nodup_len n.toNat _ hnd (fun w hw => by
        rcases List.mem_append.mp hw with hw | hw
        · obtain ⟨r', hr', hw'⟩ := List.mem_flatMap.mp hw
          have := (hP.each r' hr').rng w hw'; omega
        · have := hrng w hw; omega)
      rw [List.length_append, List.length_take] at hlen
      rw [show tB.z = false from rfl, show tI.z = 0 from rfl, seen_at hw0' hwn', decide_eq_false_iff_not] at hsn
      refine Run.to _ _ ?_ ?_ (IHk (k + 1) (by omega) ⟨by omega, pair_push (R := fun a b => a < b) (fun a b c => Int.lt_trans) (show k < r.wits.length by omega) hup (fun h => absurd h (by omega)), fun w hw => ?_, ?_⟩)
      · exact ⟨Le.refl _, Le.refl _, Le.refl _, Le.refl _, Le.refl _, Le.wrap64 (by omega) (by omega) (by omega), Le.wrap64 (by omega) (by omega) (by omega), trivial⟩
      · refine ⟨MOle.refl _, MOle.refl _, ?_, trivial⟩
        rw [htk2, ← List.append_assoc]
        exact seen_upd hw0' hwn' _ rfl
      · rw [htk2] at hw
        rcases List.mem_append.mp hw with hw | hw
        · exact hrng w hw
        · have : w = r.wits.getD k 0 := by simpa using hw
          omega
      · rw [htk2, ← List.append_assoc]
        exact List.nodup_append.mpr ⟨hnd, by simp, fun a ha b hb2 e => hsn (by rw [← (show b = r.wits.getD k 0 by simpa using hb2), ← e]; exact ha)⟩
    · have hkl : k = r.wits.length := by omega
      subst hkl
      rw [List.take_length] at hnd hrng hup ⊢
      refine Run.loop [1,2,5,6,7,8] (fun j : Nat => [(11, .int .i64 (j : Int))])
        (fun j => [(2, .box 39 [.int .i64 e.col, tRd.L e.rds]), (8, .box 42 [.bool r.none, .str r.text, tI.L r.wits]), (18, .row 4 1 n.toNat (tB.G (seenL n (fl (e.rds.take i) ++ r.wits))))])
        (fun j => j ≤ i ∧ ∀ q, q < j → (e.rds.getD q tRd.z).text ≠ r.text ∧ (e.rds.getD q tRd.z).wits.headD 0 < r.wits.headD 0) (fun j => i - j) 0
        ⟨Nat.zero_le _, fun q hq => absurd hq (Nat.not_lt_zero _)⟩ ⟨Le.refl _, trivial⟩ ⟨MOle.refl _, MOle.refl _, MOle.refl _, trivial⟩ ?_
      intro j ⟨hj, hap⟩ IHj
      have hjm : j < i → e.rds.getD j tRd.z ∈ e.rds.take i := fun h => by
        have h2 : (e.rds.take i).getD j tRd.z = e.rds.getD j tRd.z := by simp [List.getD, h]
        rw [← h2]; exact getD_mem j (by simp; omega)
      have hjp : j < i → 0 < (e.rds.getD (↑j : Int).toNat tRd.z).wits.length := fun h => by
        rw [Int.toNat_natCast]
        exact List.length_pos_iff.mpr (hP.each _ (hjm h)).some
      refine Run.go ?_; (conv => whnf); repeat' (first | ((with_reducible refine Know.mk fun _ => ?_); conv => whnf) | ((with_reducible refine Need.mk ?_ ?_); (first | omega | (dsimp only; omega) | exact bytes_le (by rfl) (by omega) | exact ⟨rfl, by omega, bytes_le (by rfl) (by omega), by omega⟩ | (refine ⟨?_, ?_⟩ <;> (rw [wrap64 (by omega) (by omega)]; omega))); conv => whnf) | ((with_reducible refine Any.mk fun b hb => ?_); conv => whnf) | ((with_reducible refine AskB.dec (fun hb => ?_) (fun hb => ?_)) <;> conv => whnf) | ((with_reducible refine AskB.ndec (fun hb => ?_) (fun hb => ?_)) <;> conv => whnf) | ((with_reducible refine AskB.mk (fun hb => ?_) (fun hb => ?_)) <;> conv => whnf) | ((with_reducible refine Run.drawX rfl (by decide +kernel) ?_); conv => whnf) | ((with_reducible refine Run.drawW rfl (by kernel_rfl) ?_); conv => whnf))
      · refine Run.leave (ts := [4]) (.inr ⟨_, rfl⟩) rfl Try.func15 rfl (Le.bool (decide_eq_false fun hR => ?_).symm)
        have h9 := pair_atG (z := tRd.z) hR.1.apart (show j < i by omega) hil
        rw [← Int.toNat_natCast i, hr] at h9
        rw [Int.toNat_natCast] at hb
        exact h9.1 hb
      · refine Run.leave (ts := [4]) (.inr ⟨_, rfl⟩) rfl Try.func15 rfl (Le.bool (decide_eq_false fun hR => ?_).symm)
        have h9 := pair_atG (z := tRd.z) hR.1.apart (show j < i by omega) hil
        rw [← Int.toNat_natCast i, hr, head_get, head_get] at h9
        rw [Int.toNat_natCast] at hb
        exact absurd h9.2 (Int.not_lt.mpr hb)
      · refine Run.to _ _ ?_ ?_ (IHj (j + 1) (by omega) ⟨by omega, fun q hq => ?_⟩)
        · exact ⟨Le.refl _, Le.refl _, Le.refl _, Le.refl _, Le.refl _, Le.refl _, Le.wrap64 (by omega) (by omega) (by omega), trivial⟩
        · exact ⟨MOle.refl _, MOle.refl _, MOle.refl _, trivial⟩
        · by_cases hqj : q = j
          · subst hqj
            rw [Int.toNat_natCast] at *
            refine ⟨by assumption, ?_⟩
            rw [head_get, head_get]
            exact Int.not_le.mp hb
          · exact hap q (by omega)
      · refine Run.leave (ts := [4]) (.inr ⟨_, rfl⟩) rfl Try.func15 rfl (Le.bool (decide_eq_false fun hR => ?_).symm)
        have h9 := pair_atG (z := tRd.z) hR.1.apart (show j < i by omega) hil
        rw [← Int.toNat_natCast i, hr, head_get, head_get] at h9
        rw [Int.toNat_natCast] at hb
        exact absurd h9.2 (Int.not_lt.mpr hb)
      · refine Run.to _ _ ?_ ?_ (IHj (j + 1) (by omega) ⟨by omega, fun q hq => ?_⟩)
        · exact ⟨Le.refl _, Le.refl _, Le.refl _, Le.refl _, Le.refl _, Le.refl _, Le.wrap64 (by omega) (by omega) (by omega), trivial⟩
        · exact ⟨MOle.refl _, MOle.refl _, MOle.refl _, trivial⟩
        · by_cases hqj : q = j
          · subst hqj
            rw [Int.toNat_natCast] at *
            refine ⟨fun e => by
              have e1 := (hP.each _ (hjm (by omega))).nons
              rename_i hne
              have e2 : r.none = decide (r.text = ⟨#[]⟩) := by simpa using hrn0
              rw [e1, e, e2] at hne
              simp at hne, ?_⟩
            rw [head_get, head_get]
            exact Int.not_le.mp hb
          · exact hap q (by omega)
      · have hji : j = i := by omega
        subst hji
        have hnew : Part n (e.rds.take (j + 1)) := by
          rw [htk]
          refine ⟨fun r' hr' => ?_, ?_, ?_⟩
          · rcases List.mem_append.mp hr' with h | h
            · exact hP.each r' h
            · have : r' = r := by simpa using h
              subst this
              exact ⟨fun e9 => hwl (by rw [e9]; rfl), by simpa using hrn0, hup, hrng⟩
          · rw [fl_append]; simpa [fl] using hnd
          · refine List.pairwise_append.mpr ⟨hP.apart, by simp, fun p hp q hq => ?_⟩
            have : q = r := by simpa using hq
            subst this
            obtain ⟨m, hm, rfl⟩ := List.getElem_of_mem hp
            have hmj : m < j := by simp at hm; omega
            have := hap m hmj
            simpa [List.getD, show m < e.rds.length by omega] using this
        refine Run.to _ _ ?_ ?_ (IH (j + 1) (by omega) ⟨by omega, hnew⟩)
        · exact ⟨Le.refl _, Le.refl _, Le.refl _, Le.int (by rw [hfl, List.length_append]), Le.wrap64 (by omega) (by omega) (by omega), trivial⟩
        · refine ⟨MOle.refl _, ?_, trivial⟩
          rw [hfl]; exact MOle.refl _
  · refine Run.leave (ts := [4]) (.inr ⟨_, rfl⟩) rfl Try.func15 rfl (Le.bool ?_)
    have : i = e.rds.length := by omega
    subst this
    rw [List.take_length] at hP ⊢
    rw [decide_eq_decide]
    exact ⟨fun h => ⟨hP, by omega, h⟩, fun h => h.2.2⟩

end Go.Proofs.Ytjoecebimleoaaa.V
