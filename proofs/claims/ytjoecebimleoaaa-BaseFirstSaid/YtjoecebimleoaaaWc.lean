/-
The functions that this seat's laws reach, walked: one entry's check (the program's).
-/
import Derived.Test.YtjoecebimleoaaaWb
namespace Go.Proofs.Ytjoecebimleoaaa.V
open Go Go.Proofs Go.RowKit
set_option maxRecDepth 100000
set_option maxHeartbeats 1000000
set_option linter.unusedVariables false
theorem right_fn (e : En) (n : Int) (h0 : 1 ≤ n) (h1 : n ≤ 12) : Fn Try.prog 14 [.agg 2 (tEn.enc e), .int .i64 n] (.bool (decide (Right n e.rds))) := by
  refine Fn.of Try.f14 _ Try.func14 rfl (by decide) (by show 2 ≤ _; decide) tbOk 90 rfl fun S w0 => ?_
  refine Run.go ?_; (conv => whnf); repeat' (first | ((with_reducible refine Know.mk fun _ => ?_); conv => whnf) | ((with_reducible refine Need.mk ?_ ?_); (first | omega | (dsimp only; omega) | exact bytes_le (by rfl) (by omega) | exact ⟨rfl, by omega, bytes_le (by rfl) (by omega), by omega⟩ | (refine ⟨?_, ?_⟩ <;> (rw [wrap64 (by omega) (by omega)]; omega))); conv => whnf) | ((with_reducible refine Any.mk fun b hb => ?_); conv => whnf) | ((with_reducible refine AskB.dec (fun hb => ?_) (fun hb => ?_)) <;> conv => whnf) | ((with_reducible refine AskB.ndec (fun hb => ?_) (fun hb => ?_)) <;> conv => whnf) | ((with_reducible refine AskB.mk (fun hb => ?_) (fun hb => ?_)) <;> conv => whnf) | ((with_reducible refine Run.drawX rfl (by decide +kernel) ?_); conv => whnf) | ((with_reducible refine Run.drawW rfl (by kernel_rfl) ?_); conv => whnf))
  refine Run.loop [1,2,5,6,16,17] (fun i : Nat => [(7, .int .i64 (lastW (e.rds.take i))), (18, .int .i64 (i : Int))])
    (fun i => [(2, .box 39 [.int .i64 e.col, tRd.L e.rds]), (13, .mp (.ib (fl (e.rds.take i)))), (14, .mp (.sb ((e.rds.take i).map (·.text))))])
    (fun i => i ≤ e.rds.length ∧ Part n (e.rds.take i)) (fun i => e.rds.length - i) 0 ⟨Nat.zero_le _, ⟨by simp, by simp [fl], by simp⟩⟩ ⟨Le.refl _, Le.refl _, trivial⟩ ⟨MOle.refl _, rfl, rfl, trivial⟩ ?_
  intro i ⟨hi, hP⟩ IH
  refine Run.go ?_; (conv => whnf); repeat' (first | ((with_reducible refine Know.mk fun _ => ?_); conv => whnf) | ((with_reducible refine Need.mk ?_ ?_); (first | omega | (dsimp only; omega) | exact bytes_le (by rfl) (by omega) | exact ⟨rfl, by omega, bytes_le (by rfl) (by omega), by omega⟩ | (refine ⟨?_, ?_⟩ <;> (rw [wrap64 (by omega) (by omega)]; omega))); conv => whnf) | ((with_reducible refine Any.mk fun b hb => ?_); conv => whnf) | ((with_reducible refine AskB.dec (fun hb => ?_) (fun hb => ?_)) <;> conv => whnf) | ((with_reducible refine AskB.ndec (fun hb => ?_) (fun hb => ?_)) <;> conv => whnf) | ((with_reducible refine AskB.mk (fun hb => ?_) (fun hb => ?_)) <;> conv => whnf) | ((with_reducible refine Run.drawX rfl (by decide +kernel) ?_); conv => whnf) | ((with_reducible refine Run.drawW rfl (by kernel_rfl) ?_); conv => whnf))
  · refine Run.leave (ts := [4]) (.inr ⟨_, rfl⟩) rfl Try.func14 rfl (Le.bool (decide_eq_false fun hR => ?_).symm)
    rw [Int.toNat_natCast] at hb
    exact (hR.1.each _ (getD_mem (z := tRd.z) i (by omega))).some (List.length_eq_zero_iff.mp (by omega))
  · refine Run.leave (ts := [4]) (.inr ⟨_, rfl⟩) rfl Try.func14 rfl (Le.bool (decide_eq_false fun hR => ?_).symm)
    rw [Int.toNat_natCast] at hb
    exact absurd (lastW_lt hR.1 (show i < e.rds.length by omega)) (Int.not_lt.mpr (by rw [head_get]; exact hb))
  · refine Run.leave (ts := [4]) (.inr ⟨_, rfl⟩) rfl Try.func14 rfl (Le.bool (decide_eq_false fun hR => ?_).symm)
    rw [Int.toNat_natCast] at hb
    have := (hR.1.each _ (getD_mem (z := tRd.z) _ (show i < e.rds.length by omega))).nons
    rw [this] at hb
    simp at hb
  · refine Run.leave (ts := [4]) (.inr ⟨_, rfl⟩) rfl Try.func14 rfl (Le.bool (decide_eq_false fun hR => ?_).symm)
    rw [Int.toNat_natCast, hasK_iff] at hb
    obtain ⟨p, hp, hpt⟩ := List.mem_map.mp hb
    obtain ⟨m, hm, rfl⟩ := List.getElem_of_mem hp
    have hmi : m < i := by simp at hm; omega
    have := (pair_atG (z := tRd.z) hR.1.apart hmi (by omega)).1
    refine this ?_
    rw [← hpt]
    simp [List.getD, show m < e.rds.length by omega]
  · have hil : i < e.rds.length := by omega
    have hmem : e.rds.getD (↑i : Int).toNat tRd.z ∈ e.rds := by rw [Int.toNat_natCast]; exact getD_mem i hil
    have hfl : fl (e.rds.take (i + 1)) = fl (e.rds.take i) ++ (e.rds.getD (↑i : Int).toNat tRd.z).wits := by rw [Int.toNat_natCast]; exact fl_take _ _ _ hil
    have hsub : ∃ rest, fl e.rds = fl (e.rds.take i) ++ (e.rds.getD (↑i : Int).toNat tRd.z).wits ++ rest := by rw [Int.toNat_natCast]; exact fl_sub _ _ _ hil
    have htk : e.rds.take (i + 1) = e.rds.take i ++ [e.rds.getD (↑i : Int).toNat tRd.z] := by rw [Int.toNat_natCast]; exact take_get _ _ _ hil
    rename_i hwl hlast hrn0 hkn
    generalize hr : e.rds.getD (↑i : Int).toNat tRd.z = r at *
    rw [hasK_not] at hb
    have hbt := hb
    have htx : ins r.text ((e.rds.take i).map (·.text)) = (e.rds.take (i + 1)).map (·.text) := by rw [ins_new hb, htk]; simp
    refine Run.loop [1,2,5,6,7,16,17,18,56,57] (fun k : Nat => [(10, .int .i64 (if k = 0 then -1 else r.wits.getD (k - 1) 0)), (58, .int .i64 (k : Int))])
      (fun k => [(2, .box 39 [.int .i64 e.col, tRd.L e.rds]), (13, .mp (.ib (fl (e.rds.take i) ++ r.wits.take k))), (14, .mp (.sb ((e.rds.take (i + 1)).map (·.text))))])
      (fun k => k ≤ r.wits.length ∧ (r.wits.take k).Pairwise (· < ·) ∧ (∀ w ∈ r.wits.take k, 0 ≤ w ∧ w < n) ∧ (fl (e.rds.take i) ++ r.wits.take k).Nodup) (fun k => r.wits.length - k) 0
      ⟨Nat.zero_le _, by simp, by simp, by simpa using hP.nodup⟩ ⟨Le.refl _, Le.refl _, trivial⟩ ⟨?_, ?_, ?_, trivial⟩ ?_
    · exact MOle.refl _
    · simp only [List.take_zero, List.append_nil]; exact MOle.refl _
    · rw [← htx]; exact MOle.refl _
    intro k ⟨hk, hup, hrng, hnd⟩ IHk
    refine Run.go ?_; (conv => whnf); repeat' (first | ((with_reducible refine Know.mk fun _ => ?_); conv => whnf) | ((with_reducible refine Need.mk ?_ ?_); (first | omega | (dsimp only; omega) | exact bytes_le (by rfl) (by omega) | exact ⟨rfl, by omega, bytes_le (by rfl) (by omega), by omega⟩ | (refine ⟨?_, ?_⟩ <;> (rw [wrap64 (by omega) (by omega)]; omega))); conv => whnf) | ((with_reducible refine Any.mk fun b hb => ?_); conv => whnf) | ((with_reducible refine AskB.dec (fun hb => ?_) (fun hb => ?_)) <;> conv => whnf) | ((with_reducible refine AskB.ndec (fun hb => ?_) (fun hb => ?_)) <;> conv => whnf) | ((with_reducible refine AskB.mk (fun hb => ?_) (fun hb => ?_)) <;> conv => whnf) | ((with_reducible refine Run.drawX rfl (by decide +kernel) ?_); conv => whnf) | ((with_reducible refine Run.drawW rfl (by kernel_rfl) ?_); conv => whnf))
    · refine Run.leave (ts := [4]) (.inr ⟨_, rfl⟩) rfl Try.func14 rfl (Le.bool (decide_eq_false fun hR => ?_).symm)
      rw [Int.toNat_natCast] at hb
      have h9 := (hR.1.each _ hmem).rng _ (getD_mem (z := 0) k (show k < r.wits.length by omega))
      have hb' : r.wits.getD k 0 ≤ if k = 0 then -1 else r.wits.getD (k - 1) 0 := hb
      by_cases hk0 : k = 0
      · rw [if_pos hk0] at hb'; omega
      · rw [if_neg hk0] at hb'
        have := pair_at (hR.1.each _ hmem).up (show k - 1 < k by omega) (by omega)
        omega
    · refine Run.leave (ts := [4]) (.inr ⟨_, rfl⟩) rfl Try.func14 rfl (Le.bool (decide_eq_false fun hR => ?_).symm)
      rw [Int.toNat_natCast] at hb
      have := ((hR.1.each _ hmem).rng _ (getD_mem (z := tI.z) k (by omega))).2
      omega
    · refine Run.leave (ts := [4]) (.inr ⟨_, rfl⟩) rfl Try.func14 rfl (Le.bool (decide_eq_false fun hR => ?_).symm)
      rw [Int.toNat_natCast, hasK_iff] at hb
      obtain ⟨rest, hrest⟩ := hsub
      have hn := hR.1.nodup
      rw [hrest, all_get tI.z r.wits k (by omega), ← List.append_assoc, List.append_assoc] at hn
      exact (List.nodup_append.mp hn).2.2 _ hb _ (by simp) rfl
    · rename_i hpv hwn
      rw [Int.toNat_natCast, hasK_not] at hb
      have hb : r.wits.getD k 0 ∉ fl (e.rds.take i) ++ r.wits.take k := hb
      rw [Int.toNat_natCast] at hpv hwn
      have hpv' : (if k = 0 then -1 else r.wits.getD (k - 1) 0) < r.wits.getD k 0 := Int.not_le.mp hpv
      have hwn' : r.wits.getD k 0 < n := Int.not_le.mp hwn
      have htk2 := take_get 0 r.wits k (by omega)
      have hw0' : 0 ≤ r.wits.getD k 0 := by
        by_cases hk0 : k = 0
        · rw [if_pos hk0] at hpv'; omega
        · rw [if_neg hk0] at hpv'
          have : r.wits.getD (k - 1) 0 ∈ r.wits.take k := by
            have h2 : (r.wits.take k).getD (k - 1) 0 = r.wits.getD (k - 1) 0 := by simp [List.getD, show k - 1 < k by omega]
            rw [← h2]; exact getD_mem (k - 1) (by simp; omega)
          have := (hrng _ this).1; omega
      refine Run.to _ _ ?_ ?_ (IHk (k + 1) (by omega) ⟨by omega, pair_push (R := fun a b => a < b) (fun a b c => Int.lt_trans) (show k < r.wits.length by omega) hup (fun h => by rw [if_neg (by omega)] at hpv'; exact hpv'), fun w hw => ?_, ?_⟩)
      · refine ⟨Le.refl _, Le.refl _, Le.refl _, Le.refl _, Le.refl _, Le.refl _, Le.refl _, Le.refl _, Le.refl _, Le.refl _, ?_, Le.wrap64 (by omega) (by omega) (by omega), trivial⟩
        show Le (.int .i64 (r.wits.getD k 0)) (.int .i64 (if k + 1 = 0 then -1 else r.wits.getD (k + 1 - 1) 0))
        rw [if_neg (Nat.succ_ne_zero k)]
        exact Le.refl _
      · refine ⟨MOle.refl _, ?_, MOle.refl _, trivial⟩
        show MOle (.mp (.ib (ins (r.wits.getD k 0) (fl (e.rds.take i) ++ r.wits.take k)))) (.mp (.ib (fl (e.rds.take i) ++ r.wits.take (k + 1))))
        rw [htk2, ← List.append_assoc, ins_new hb]
        exact MOle.refl _
      · rw [htk2] at hw
        rcases List.mem_append.mp hw with hw | hw
        · exact hrng w hw
        · have : w = r.wits.getD k 0 := by simpa using hw
          omega
      · rw [htk2, ← List.append_assoc]
        exact List.nodup_append.mpr ⟨hnd, by simp, fun a ha b hb2 e => hb (by rw [← (show b = r.wits.getD k 0 by simpa using hb2), ← e]; exact ha)⟩
    · have hkl : k = r.wits.length := by omega
      subst hkl
      rw [List.take_length] at hnd hrng hup
      have hnew : Part n (e.rds.take (i + 1)) := by
        rw [htk]
        refine ⟨fun r' hr' => ?_, ?_, ?_⟩
        · rcases List.mem_append.mp hr' with h | h
          · exact hP.each r' h
          · have : r' = r := by simpa using h
            subst this
            exact ⟨fun e9 => hwl (by rw [e9]; rfl), by simpa using hrn0, hup, hrng⟩
        · rw [fl_append]; simpa [fl] using hnd
        · refine List.pairwise_append.mpr ⟨hP.apart, by simp, fun p hp q hq => ?_⟩
          have : q = r := by simpa using hq
          subst this
          refine ⟨fun e9 => ?_, ?_⟩
          · exact hbt (List.mem_map.mpr ⟨p, hp, e9⟩)
          · rw [head_get q.wits]
            exact Int.lt_of_le_of_lt (lastW_ge hP hp) (Int.not_le.mp hlast)
      refine Run.to _ _ ?_ ?_ (IH (i + 1) (by omega) ⟨by omega, hnew⟩)
      · refine ⟨Le.refl _, Le.refl _, Le.refl _, Le.refl _, Le.refl _, Le.refl _, Le.int ?_, Le.wrap64 (by omega) (by omega) (by omega), trivial⟩
        rw [htk]; simp only [lastW, List.getLast?_append, List.getLast?_singleton, Option.some_or, Option.map_some, Option.getD_some, head_get]; rfl
      · refine ⟨MOle.refl _, ?_, MOle.refl _, trivial⟩
        rw [hfl, List.take_length]; exact MOle.refl _
  · refine Run.leave (ts := [4]) (.inr ⟨_, rfl⟩) rfl Try.func14 rfl (Le.bool ?_)
    have : i = e.rds.length := by omega
    subst this
    rw [List.take_length] at hP ⊢
    rw [decide_eq_decide]
    exact ⟨fun h => ⟨hP, by omega, h⟩, fun h => h.2.2⟩
  · refine Run.leave (ts := [4]) (.inr ⟨_, rfl⟩) rfl Try.func14 rfl (Le.bool (decide_eq_false ?_).symm)
    rintro ⟨_, h2, _⟩; omega

end Go.Proofs.Ytjoecebimleoaaa.V
