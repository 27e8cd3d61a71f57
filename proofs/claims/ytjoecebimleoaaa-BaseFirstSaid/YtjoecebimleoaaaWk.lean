/-
The law BaseFirst, walked.
-/
import Derived.Test.YtjoecebimleoaaaWi
import Derived.Test.YtjoecebimleoaaaRc
namespace Go.Proofs.Ytjoecebimleoaaa.V
open Go Go.Proofs Go.RowKit
set_option linter.unusedVariables false
set_option linter.unusedSimpArgs false
set_option maxRecDepth 100000
set_option maxHeartbeats 1000000
open Go Go.Proofs Go.Proofs.Ytjoecebimleoaaa.V
theorem first_fn (row : List ByteArray) (has : List Bool) (es : List En) (n : Int) : Fn Try.prog 5 [tTo row has es n] .tt := by
  refine Fn.of Try.f5 _ Try.func5 rfl (by decide) (by show 1 ≤ _; decide) tbOk 160 rfl fun S w0 => ?_
  refine Run.go ?_; (conv => whnf); repeat' (first | ((with_reducible refine Know.mk fun _ => ?_); conv => whnf) | ((with_reducible refine Need.mk ?_ ?_); (first | omega | (dsimp only; omega) | exact bytes_le (by rfl) (by omega) | exact ⟨rfl, by omega, bytes_le (by rfl) (by omega), by omega⟩ | (refine ⟨?_, ?_⟩ <;> (rw [wrap64 (by omega) (by omega)]; omega))); conv => whnf) | ((with_reducible refine Any.mk fun b hb => ?_); conv => whnf) | ((with_reducible refine AskB.dec (fun hb => ?_) (fun hb => ?_)) <;> conv => whnf) | ((with_reducible refine AskB.ndec (fun hb => ?_) (fun hb => ?_)) <;> conv => whnf) | ((with_reducible refine AskB.mk (fun hb => ?_) (fun hb => ?_)) <;> conv => whnf) | ((with_reducible refine Run.drawX rfl (by decide +kernel) ?_); conv => whnf) | ((with_reducible refine Run.drawW rfl (by kernel_rfl) ?_); conv => whnf))
  refine Run.callBX awake_fn rfl rfl trivial rfl rfl rfl ?_
  (conv => whnf); repeat' (first | ((with_reducible refine Know.mk fun _ => ?_); conv => whnf) | ((with_reducible refine Need.mk ?_ ?_); (first | omega | (dsimp only; omega) | exact bytes_le (by rfl) (by omega) | exact ⟨rfl, by omega, bytes_le (by rfl) (by omega), by omega⟩ | (refine ⟨?_, ?_⟩ <;> (rw [wrap64 (by omega) (by omega)]; omega))); conv => whnf) | ((with_reducible refine Any.mk fun b hb => ?_); conv => whnf) | ((with_reducible refine AskB.dec (fun hb => ?_) (fun hb => ?_)) <;> conv => whnf) | ((with_reducible refine AskB.ndec (fun hb => ?_) (fun hb => ?_)) <;> conv => whnf) | ((with_reducible refine AskB.mk (fun hb => ?_) (fun hb => ?_)) <;> conv => whnf) | ((with_reducible refine Run.drawX rfl (by decide +kernel) ?_); conv => whnf) | ((with_reducible refine Run.drawW rfl (by kernel_rfl) ?_); conv => whnf))
  refine Run.callFA 1000 (rebuild_fn row has es n) rfl rfl ⟨Le.refl _, Le.refl _, Le.refl _, Le.refl _, trivial⟩ rfl rfl rfl (flat_cons (Ty.M_flat tS_flat) (flat_cons (Ty.M_flat tB_flat) flat_nil)) ?_
  by_cases hc : rbCode row has es n = 0
  · obtain ⟨h1, h2, h3, h4, h5, h6, h7⟩ := rb_ok hc
    have hl1 : (rbRows row has es n).length = n.toNat := by unfold rbRows; rw [if_pos hc, rowsT_len]
    have hl2 : (rbHas row has es n).length = n.toNat := by unfold rbHas; rw [if_pos hc, rowsH_len]
    rw [hc]
    (conv => whnf); repeat' (first | ((with_reducible refine Know.mk fun _ => ?_); conv => whnf) | ((with_reducible refine Need.mk ?_ ?_); (first | omega | (dsimp only; omega) | exact bytes_le (by rfl) (by omega) | exact ⟨rfl, by omega, bytes_le (by rfl) (by omega), by omega⟩ | (refine ⟨?_, ?_⟩ <;> (rw [wrap64 (by omega) (by omega)]; omega))); conv => whnf) | ((with_reducible refine Any.mk fun b hb => ?_); conv => whnf) | ((with_reducible refine AskB.dec (fun hb => ?_) (fun hb => ?_)) <;> conv => whnf) | ((with_reducible refine AskB.ndec (fun hb => ?_) (fun hb => ?_)) <;> conv => whnf) | ((with_reducible refine AskB.mk (fun hb => ?_) (fun hb => ?_)) <;> conv => whnf) | ((with_reducible refine Run.drawX rfl (by decide +kernel) ?_); conv => whnf) | ((with_reducible refine Run.drawW rfl (by kernel_rfl) ?_); conv => whnf))
    all_goals try (first | exact absurd rfl hb | (exfalso; omega) | (exfalso; dsimp only at hb; omega))
    obtain ⟨f1, f2⟩ := rows_first hc
    refine CallQ.flat (same_fn ((rbRows row has es n).getD 0 []) row ((rbHas row has es n).getD 0 []) has) rfl ⟨Le.refl _, Le.refl _, Le.refl _, Le.refl _, trivial⟩ rfl ?_
    rw [show decide (((rbRows row has es n).getD 0 []).length = ((rbHas row has es n).getD 0 []).length ∧ (rbRows row has es n).getD 0 [] = row ∧ (rbHas row has es n).getD 0 [] = has) = true from decide_eq_true ⟨by rw [f1, f2]; exact h3, f1, f2⟩]
    (conv => whnf); repeat' (first | ((with_reducible refine Know.mk fun _ => ?_); conv => whnf) | ((with_reducible refine Need.mk ?_ ?_); (first | omega | (dsimp only; omega) | exact bytes_le (by rfl) (by omega) | exact ⟨rfl, by omega, bytes_le (by rfl) (by omega), by omega⟩ | (refine ⟨?_, ?_⟩ <;> (rw [wrap64 (by omega) (by omega)]; omega))); conv => whnf) | ((with_reducible refine Any.mk fun b hb => ?_); conv => whnf) | ((with_reducible refine AskB.dec (fun hb => ?_) (fun hb => ?_)) <;> conv => whnf) | ((with_reducible refine AskB.ndec (fun hb => ?_) (fun hb => ?_)) <;> conv => whnf) | ((with_reducible refine AskB.mk (fun hb => ?_) (fun hb => ?_)) <;> conv => whnf) | ((with_reducible refine Run.drawX rfl (by decide +kernel) ?_); conv => whnf) | ((with_reducible refine Run.drawW rfl (by kernel_rfl) ?_); conv => whnf))
    · cases hb
    refine Run.loop [3, 4, 6, 72, 73] (fun i : Nat => [(1, .box 1 0), (74, .int .i64 (i : Int))]) (fun i => [(1, .box 26 [tS.L row, tB.L has, tEn.L es, .int .i64 n]), (1000, tS.M 22 9 (rbRows row has es n)), (1001, tB.M 23 4 (rbHas row has es n)), (70, .row 4 1 row.length (tB.G (seenL row.length ((es.take i).map (·.col)))))])
      (fun i => i ≤ es.length) (fun i => es.length - i) 0 (Nat.zero_le _) ⟨Le.refl _, Le.refl _, trivial⟩ ⟨MOle.refl _, MOle.refl _, MOle.refl _, ?_, trivial⟩ ?_
    · refine ⟨rfl, rfl, rfl, fun i j hi hj => ?_⟩
      have : j = 0 := by omega
      subst this
      refine Le.ff.trans (Le.bool ?_)
      have hi' : i < row.length := hi
      simp [seenL, hi']
    intro i hi IH
    have hen : i < es.length → 0 ≤ (es.getD (↑i : Int).toNat tEn.z).col ∧ (es.getD (↑i : Int).toNat tEn.z).col < row.length := fun h => by
      rw [Int.toNat_natCast]
      have := h6.each _ (getD_mem (z := tEn.z) i h)
      exact ⟨this.1, this.2.1⟩
    refine Run.go ?_; (conv => whnf); repeat' (first | ((with_reducible refine Know.mk fun _ => ?_); conv => whnf) | ((with_reducible refine Need.mk ?_ ?_); (first | omega | (dsimp only; omega) | exact bytes_le (by rfl) (by omega) | exact ⟨rfl, by omega, bytes_le (by rfl) (by omega), by omega⟩ | (refine ⟨?_, ?_⟩ <;> (rw [wrap64 (by omega) (by omega)]; omega))); conv => whnf) | ((with_reducible refine Any.mk fun b hb => ?_); conv => whnf) | ((with_reducible refine AskB.dec (fun hb => ?_) (fun hb => ?_)) <;> conv => whnf) | ((with_reducible refine AskB.ndec (fun hb => ?_) (fun hb => ?_)) <;> conv => whnf) | ((with_reducible refine AskB.mk (fun hb => ?_) (fun hb => ?_)) <;> conv => whnf) | ((with_reducible refine Run.drawX rfl (by decide +kernel) ?_); conv => whnf) | ((with_reducible refine Run.drawW rfl (by kernel_rfl) ?_); conv => whnf))
    all_goals try (first | exact absurd rfl hb | (exfalso; omega) | (exfalso; dsimp only at hb; omega))
    · refine Run.to _ _ ?_ ?_ (IH (i + 1) (by omega) (by omega))
      · exact ⟨Le.refl _, Le.refl _, Le.refl _, Le.refl _, Le.refl _, Le.refl _, Le.wrap64 (by omega) (by omega) (by omega), trivial⟩
      · refine ⟨MOle.refl _, MOle.refl _, MOle.refl _, ?_, trivial⟩
        rw [take_get tEn.z es i (by omega), List.map_append]
        exact seen_upd (n := row.length) (hen (by omega)).1 (hen (by omega)).2 _ rfl
    have hie : i = es.length := by omega
    subst hie
    rw [List.take_length]
    refine Run.loop [3, 4, 6, 94] (fun i : Nat => [(1, .box 1 0), (95, .int .i64 (i : Int))]) (fun i => [(1, .box 26 [tS.L row, tB.L has, tEn.L es, .int .i64 n]), (1000, tS.M 22 9 (rbRows row has es n)), (1001, tB.M 23 4 (rbHas row has es n)), (70, .row 4 1 row.length (tB.G (seenL row.length (es.map (·.col)))))])
      (fun i => i ≤ (rbRows row has es n).length) (fun i => (rbRows row has es n).length - i) 0 (Nat.zero_le _) ⟨Le.refl _, Le.refl _, trivial⟩ ⟨MOle.refl _, MOle.refl _, MOle.refl _, MOle.refl _, trivial⟩ ?_
    intro i hi IHi
    have hrl : i < (rbRows row has es n).length → ((rbRows row has es n).getD (↑i : Int).toNat []).length = row.length ∧ ((rbHas row has es n).getD (↑i : Int).toNat []).length = row.length := fun h => rb_rowlen h
    refine Run.go ?_; (conv => whnf); repeat' (first | ((with_reducible refine Know.mk fun _ => ?_); conv => whnf) | ((with_reducible refine Need.mk ?_ ?_); (first | omega | (dsimp only; omega) | exact bytes_le (by rfl) (by omega) | exact ⟨rfl, by omega, bytes_le (by rfl) (by omega), by omega⟩ | (refine ⟨?_, ?_⟩ <;> (rw [wrap64 (by omega) (by omega)]; omega))); conv => whnf) | ((with_reducible refine Any.mk fun b hb => ?_); conv => whnf) | ((with_reducible refine AskB.dec (fun hb => ?_) (fun hb => ?_)) <;> conv => whnf) | ((with_reducible refine AskB.ndec (fun hb => ?_) (fun hb => ?_)) <;> conv => whnf) | ((with_reducible refine AskB.mk (fun hb => ?_) (fun hb => ?_)) <;> conv => whnf) | ((with_reducible refine Run.drawX rfl (by decide +kernel) ?_); conv => whnf) | ((with_reducible refine Run.drawW rfl (by kernel_rfl) ?_); conv => whnf))
    all_goals try (first | exact absurd rfl hb | (exfalso; omega) | (exfalso; dsimp only at hb; omega))
    · have hil : i < (rbRows row has es n).length := by omega
      obtain ⟨k1, k2⟩ := hrl hil
      refine Run.loop [1, 3, 4, 6, 9, 94, 95, 119] (fun c : Nat => [(120, .int .i64 (c : Int))]) (fun c => [(1, .box 26 [tS.L row, tB.L has, tEn.L es, .int .i64 n]), (1000, tS.M 22 9 (rbRows row has es n)), (1001, tB.M 23 4 (rbHas row has es n)), (70, .row 4 1 row.length (tB.G (seenL row.length (es.map (·.col)))))])
        (fun c => c ≤ row.length) (fun c => row.length - c) 0 (Nat.zero_le _) ⟨Le.refl _, trivial⟩ ⟨MOle.refl _, MOle.refl _, MOle.refl _, MOle.refl _, trivial⟩ ?_
      intro c hcl IHc
      have hoff : c < row.length → (seenL row.length (es.map (·.col))).getD (↑c : Int).toNat tB.z = false → ((rbRows row has es n).getD (↑i : Int).toNat []).getD (↑c : Int).toNat tS.z = row.getD (↑c : Int).toNat tS.z ∧ ((rbHas row has es n).getD (↑i : Int).toNat []).getD (↑c : Int).toNat tB.z = has.getD (↑c : Int).toNat tB.z := by
        intro hlt hs
        rw [show tB.z = false from rfl, seen_at (by omega) (by omega), decide_eq_false_iff_not] at hs
        exact rows_off hc hil hs
      refine Run.go ?_; (conv => whnf); repeat' (first | ((with_reducible refine Know.mk fun _ => ?_); conv => whnf) | ((with_reducible refine Need.mk ?_ ?_); (first | omega | (dsimp only; omega) | exact bytes_le (by rfl) (by omega) | exact ⟨rfl, by omega, bytes_le (by rfl) (by omega), by omega⟩ | (refine ⟨?_, ?_⟩ <;> (rw [wrap64 (by omega) (by omega)]; omega))); conv => whnf) | ((with_reducible refine Any.mk fun b hb => ?_); conv => whnf) | ((with_reducible refine AskB.dec (fun hb => ?_) (fun hb => ?_)) <;> conv => whnf) | ((with_reducible refine AskB.ndec (fun hb => ?_) (fun hb => ?_)) <;> conv => whnf) | ((with_reducible refine AskB.mk (fun hb => ?_) (fun hb => ?_)) <;> conv => whnf) | ((with_reducible refine Run.drawX rfl (by decide +kernel) ?_); conv => whnf) | ((with_reducible refine Run.drawW rfl (by kernel_rfl) ?_); conv => whnf))
      all_goals try (first | exact absurd rfl hb | (exfalso; omega) | (exfalso; dsimp only at hb; omega))
      · rename_i hs ht
        have := (hoff (by omega) (by simpa using hs)).2
        rw [this] at hb
        simp at hb
      · refine Run.to _ _ ?_ ?_ (IHc (c + 1) (by omega) (by omega))
        · exact ⟨Le.refl _, Le.refl _, Le.refl _, Le.refl _, Le.refl _, Le.refl _, Le.refl _, Le.refl _, Le.wrap64 (by omega) (by omega) (by omega), trivial⟩
        · exact ⟨MOle.refl _, MOle.refl _, MOle.refl _, MOle.refl _, trivial⟩
      · rename_i hs
        exact absurd (hoff (by omega) (by simpa using hs)).1 hb
      · refine Run.to _ _ ?_ ?_ (IHc (c + 1) (by omega) (by omega))
        · exact ⟨Le.refl _, Le.refl _, Le.refl _, Le.refl _, Le.refl _, Le.refl _, Le.refl _, Le.refl _, Le.wrap64 (by omega) (by omega) (by omega), trivial⟩
        · exact ⟨MOle.refl _, MOle.refl _, MOle.refl _, MOle.refl _, trivial⟩
      · refine Run.to _ _ ?_ ?_ (IHi (i + 1) (by omega) (by omega))
        · exact ⟨Le.refl _, Le.refl _, Le.refl _, Le.refl _, Le.refl _, Le.wrap64 (by omega) (by omega) (by omega), trivial⟩
        · exact ⟨MOle.refl _, MOle.refl _, MOle.refl _, MOle.refl _, trivial⟩
    · exact Run.leave (ts := [2]) (.inr ⟨_, rfl⟩) rfl Try.func5 rfl (Le.refl _)
  · obtain ⟨e1, e2⟩ := rb_len0 hc
    rw [e1, e2]
    (conv => whnf); repeat' (first | ((with_reducible refine Know.mk fun _ => ?_); conv => whnf) | ((with_reducible refine Need.mk ?_ ?_); (first | omega | (dsimp only; omega) | exact bytes_le (by rfl) (by omega) | exact ⟨rfl, by omega, bytes_le (by rfl) (by omega), by omega⟩ | (refine ⟨?_, ?_⟩ <;> (rw [wrap64 (by omega) (by omega)]; omega))); conv => whnf) | ((with_reducible refine Any.mk fun b hb => ?_); conv => whnf) | ((with_reducible refine AskB.dec (fun hb => ?_) (fun hb => ?_)) <;> conv => whnf) | ((with_reducible refine AskB.ndec (fun hb => ?_) (fun hb => ?_)) <;> conv => whnf) | ((with_reducible refine AskB.mk (fun hb => ?_) (fun hb => ?_)) <;> conv => whnf) | ((with_reducible refine Run.drawX rfl (by decide +kernel) ?_); conv => whnf) | ((with_reducible refine Run.drawW rfl (by kernel_rfl) ?_); conv => whnf))
    all_goals try (first | exact absurd rfl hb | (exfalso; omega) | (exfalso; dsimp only at hb; omega))
    all_goals first | exact Run.leave (ts := [2]) (.inr ⟨_, rfl⟩) rfl Try.func5 rfl (Le.refl _) | (rename_i hq; exact absurd rfl hq)
end Go.Proofs.Ytjoecebimleoaaa.V
