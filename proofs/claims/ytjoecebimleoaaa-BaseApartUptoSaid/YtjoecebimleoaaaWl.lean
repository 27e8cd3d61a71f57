/-
The law BaseApart, walked.
-/
import Derived.Test.YtjoecebimleoaaaWk
namespace Go.Proofs.Ytjoecebimleoaaa.V
open Go Go.Proofs Go.RowKit
set_option linter.unusedVariables false
set_option linter.unusedSimpArgs false
set_option maxRecDepth 100000
set_option maxHeartbeats 1000000
open Go Go.Proofs Go.Proofs.Ytjoecebimleoaaa.V
def ownF (_ : ByteArray) : ByteArray := ⟨#[111, 119, 110]⟩
theorem apart_fn (row : List ByteArray) (has : List Bool) (es : List En) (n : Int) (hr : row.length ≤ 1048576) (hh : has.length ≤ 1048576) : Fn Try.prog 4 [tTo row has es n] .tt := by
  refine Fn.of Try.f4 _ Try.func4 rfl (by decide) (by show 1 ≤ _; decide) tbOk 128 rfl fun S w0 => ?_
  refine Run.go ?_; (conv => whnf); repeat' (first | ((with_reducible refine Know.mk fun _ => ?_); conv => whnf) | ((with_reducible refine Need.mk ?_ ?_); (first | omega | (dsimp only; omega) | exact bytes_le (by rfl) (by omega) | exact ⟨rfl, by omega, bytes_le (by rfl) (by omega), by omega⟩ | (refine ⟨?_, ?_⟩ <;> (rw [wrap64 (by omega) (by omega)]; omega))); conv => whnf) | ((with_reducible refine Any.mk fun b hb => ?_); conv => whnf) | ((with_reducible refine AskB.dec (fun hb => ?_) (fun hb => ?_)) <;> conv => whnf) | ((with_reducible refine AskB.ndec (fun hb => ?_) (fun hb => ?_)) <;> conv => whnf) | ((with_reducible refine AskB.mk (fun hb => ?_) (fun hb => ?_)) <;> conv => whnf) | ((with_reducible refine Run.drawX rfl (by decide +kernel) ?_); conv => whnf) | ((with_reducible refine Run.drawW rfl (by kernel_rfl) ?_); conv => whnf))
  refine Run.callBX awake_fn rfl rfl trivial rfl rfl rfl ?_
  (conv => whnf); repeat' (first | ((with_reducible refine Know.mk fun _ => ?_); conv => whnf) | ((with_reducible refine Need.mk ?_ ?_); (first | omega | (dsimp only; omega) | exact bytes_le (by rfl) (by omega) | exact ⟨rfl, by omega, bytes_le (by rfl) (by omega), by omega⟩ | (refine ⟨?_, ?_⟩ <;> (rw [wrap64 (by omega) (by omega)]; omega))); conv => whnf) | ((with_reducible refine Any.mk fun b hb => ?_); conv => whnf) | ((with_reducible refine AskB.dec (fun hb => ?_) (fun hb => ?_)) <;> conv => whnf) | ((with_reducible refine AskB.ndec (fun hb => ?_) (fun hb => ?_)) <;> conv => whnf) | ((with_reducible refine AskB.mk (fun hb => ?_) (fun hb => ?_)) <;> conv => whnf) | ((with_reducible refine Run.drawX rfl (by decide +kernel) ?_); conv => whnf) | ((with_reducible refine Run.drawW rfl (by kernel_rfl) ?_); conv => whnf))
  refine Run.fresh [1, 3, 4, 22, 23, 25, 27] [(1, .box 26 [tS.L row, tB.L has, tEn.L es, .int .i64 n]), (17, tS.R 9 row), (20, tB.R 4 has)] ⟨MOle.refl _, ?_, ?_, trivial⟩ ?_
  · exact Ty.join tS 9 [] row _ _ _ _ rfl rfl (fun i j hi hj => absurd hi (Nat.not_lt_zero _)) (fun _ _ _ _ => Le.refl _)
  · exact Ty.join tB 4 [] has _ _ _ _ rfl rfl (fun i j hi hj => absurd hi (Nat.not_lt_zero _)) (fun _ _ _ _ => Le.refl _)
  refine Run.callFA 1000 (rebuild_fn row has es n) rfl rfl ⟨Le.refl _, Le.refl _, Le.refl _, Le.refl _, trivial⟩ rfl rfl rfl (flat_cons (Ty.M_flat tS_flat) (flat_cons (Ty.M_flat tB_flat) flat_nil)) ?_
  by_cases hc : rbCode row has es n = 0
  · obtain ⟨h1, h2, h3, h4, h5, h6, h7⟩ := rb_ok hc
    rw [hc]
    (conv => whnf); repeat' (first | ((with_reducible refine Know.mk fun _ => ?_); conv => whnf) | ((with_reducible refine Need.mk ?_ ?_); (first | omega | (dsimp only; omega) | exact bytes_le (by rfl) (by omega) | exact ⟨rfl, by omega, bytes_le (by rfl) (by omega), by omega⟩ | (refine ⟨?_, ?_⟩ <;> (rw [wrap64 (by omega) (by omega)]; omega))); conv => whnf) | ((with_reducible refine Any.mk fun b hb => ?_); conv => whnf) | ((with_reducible refine AskB.dec (fun hb => ?_) (fun hb => ?_)) <;> conv => whnf) | ((with_reducible refine AskB.ndec (fun hb => ?_) (fun hb => ?_)) <;> conv => whnf) | ((with_reducible refine AskB.mk (fun hb => ?_) (fun hb => ?_)) <;> conv => whnf) | ((with_reducible refine Run.drawX rfl (by decide +kernel) ?_); conv => whnf) | ((with_reducible refine Run.drawW rfl (by kernel_rfl) ?_); conv => whnf))
    all_goals try (first | exact absurd rfl hb | (exfalso; omega))
    refine Run.callBX (rebuildR_fn row has es n) rfl rfl ⟨Le.refl _, Le.refl _, Le.refl _, Le.refl _, trivial⟩ rfl rfl rfl ?_
    have hl := rb_len row has es n
    (conv => whnf); repeat' (first | ((with_reducible refine Know.mk fun _ => ?_); conv => whnf) | ((with_reducible refine Need.mk ?_ ?_); (first | omega | (dsimp only; omega) | exact bytes_le (by rfl) (by omega) | exact ⟨rfl, by omega, bytes_le (by rfl) (by omega), by omega⟩ | (refine ⟨?_, ?_⟩ <;> (rw [wrap64 (by omega) (by omega)]; omega))); conv => whnf) | ((with_reducible refine Any.mk fun b hb => ?_); conv => whnf) | ((with_reducible refine AskB.dec (fun hb => ?_) (fun hb => ?_)) <;> conv => whnf) | ((with_reducible refine AskB.ndec (fun hb => ?_) (fun hb => ?_)) <;> conv => whnf) | ((with_reducible refine AskB.mk (fun hb => ?_) (fun hb => ?_)) <;> conv => whnf) | ((with_reducible refine Run.drawX rfl (by decide +kernel) ?_); conv => whnf) | ((with_reducible refine Run.drawW rfl (by kernel_rfl) ?_); conv => whnf))
    all_goals try (first | exact absurd rfl hb | (exfalso; omega))
    refine Run.loop [1, 3, 4, 5, 6, 8, 9, 68] (fun i : Nat => [(69, .int .i64 (i : Int))]) (fun i => [(1, .box 26 [tS.L row, tB.L has, tEn.L es, .int .i64 n]), (17, tS.R 9 row), (20, tB.R 4 has),
        (1000, tS.M 22 9 (mapTo (List.map ownF) (rbRows row has es n) i)), (1001, tB.M 23 4 (mapTo (List.map not) (rbHas row has es n) i))])
      (fun i => i ≤ (rbRows row has es n).length) (fun i => (rbRows row has es n).length - i) 0 (Nat.zero_le _) ⟨Le.refl _, trivial⟩ ⟨MOle.refl _, MOle.refl _, MOle.refl _, ?_, ?_, trivial⟩ ?_
    · rw [mapTo_zero]; exact MOle.refl _
    · rw [mapTo_zero]; exact MOle.refl _
    intro i hi IHi
    have hm1 := mapTo_len (List.map ownF) (rbRows row has es n) i
    have hm2 := mapTo_len (List.map not) (rbHas row has es n) i
    by_cases hil : i < (rbRows row has es n).length
    · obtain ⟨k1, k2⟩ := rb_rowlen hil
      have g1 : (mapTo (List.map ownF) (rbRows row has es n) i).getD i [] = (rbRows row has es n).getD i [] := mapTo_at _ _ _ _ hil
      have g2 : (mapTo (List.map not) (rbHas row has es n) i).getD i [] = (rbHas row has es n).getD i [] := mapTo_at _ _ _ _ (by omega)
      refine Run.go ?_; (conv => whnf); repeat' (first | ((with_reducible refine Know.mk fun _ => ?_); conv => whnf) | ((with_reducible refine Need.mk ?_ ?_); (first | omega | (dsimp only; omega) | exact bytes_le (by rfl) (by omega) | exact ⟨rfl, by omega, bytes_le (by rfl) (by omega), by omega⟩ | (refine ⟨?_, ?_⟩ <;> (rw [wrap64 (by omega) (by omega)]; omega))); conv => whnf) | ((with_reducible refine Any.mk fun b hb => ?_); conv => whnf) | ((with_reducible refine AskB.dec (fun hb => ?_) (fun hb => ?_)) <;> conv => whnf) | ((with_reducible refine AskB.ndec (fun hb => ?_) (fun hb => ?_)) <;> conv => whnf) | ((with_reducible refine AskB.mk (fun hb => ?_) (fun hb => ?_)) <;> conv => whnf) | ((with_reducible refine Run.drawX rfl (by decide +kernel) ?_); conv => whnf) | ((with_reducible refine Run.drawW rfl (by kernel_rfl) ?_); conv => whnf))
      all_goals try (first | exact absurd rfl hb | (exfalso; omega))
      refine CallQ.flat (same_fn ((rbRows row has es n).getD i []) ((rbRows row has es n).getD i []) ((rbHas row has es n).getD i []) ((rbHas row has es n).getD i [])) rfl ⟨?_, Le.refl _, ?_, Le.refl _, trivial⟩ rfl ?_
      · rw [← g1]; exact Le.refl _
      · rw [← g2]; exact Le.refl _
      rw [show decide (((rbRows row has es n).getD i []).length = ((rbHas row has es n).getD i []).length ∧ (rbRows row has es n).getD i [] = (rbRows row has es n).getD i [] ∧ (rbHas row has es n).getD i [] = (rbHas row has es n).getD i []) = true from decide_eq_true ⟨k1.trans k2.symm, rfl, rfl⟩]
      (conv => whnf); repeat' (first | ((with_reducible refine Know.mk fun _ => ?_); conv => whnf) | ((with_reducible refine Need.mk ?_ ?_); (first | omega | (dsimp only; omega) | exact bytes_le (by rfl) (by omega) | exact ⟨rfl, by omega, bytes_le (by rfl) (by omega), by omega⟩ | (refine ⟨?_, ?_⟩ <;> (rw [wrap64 (by omega) (by omega)]; omega))); conv => whnf) | ((with_reducible refine Any.mk fun b hb => ?_); conv => whnf) | ((with_reducible refine AskB.dec (fun hb => ?_) (fun hb => ?_)) <;> conv => whnf) | ((with_reducible refine AskB.ndec (fun hb => ?_) (fun hb => ?_)) <;> conv => whnf) | ((with_reducible refine AskB.mk (fun hb => ?_) (fun hb => ?_)) <;> conv => whnf) | ((with_reducible refine Run.drawX rfl (by decide +kernel) ?_); conv => whnf) | ((with_reducible refine Run.drawW rfl (by kernel_rfl) ?_); conv => whnf))
      · cases hb
      generalize hL : mapTo (List.map ownF) (rbRows row has es n) i = L at *
      generalize hH : mapTo (List.map not) (rbHas row has es n) i = M at *
      refine Run.loop [1, 3, 4, 5, 6, 8, 9, 11, 68, 69] (fun c : Nat => [(94, .int .i64 (row.length : Int)), (95, .int .i64 (c : Int))]) (fun c => [(1, .box 26 [tS.L row, tB.L has, tEn.L es, .int .i64 n]), (17, tS.R 9 row), (20, tB.R 4 has),
          (1000, tS.M 22 9 (L.set i (mapTo ownF ((rbRows row has es n).getD i []) c))), (1001, tB.M 23 4 (M.set i (mapTo not ((rbHas row has es n).getD i []) c)))])
        (fun c => c ≤ row.length) (fun c => row.length - c) 0 (Nat.zero_le _) ⟨Le.int (by show (((L.getD i []).length : Nat) : Int) = _; rw [g1, k1]), Le.refl _, trivial⟩ ⟨MOle.refl _, MOle.refl _, MOle.refl _, ?_, ?_, trivial⟩ ?_
      · rw [mapTo_zero, ← g1, set_same _ _ _ (by omega)]; exact MOle.refl _
      · rw [mapTo_zero, ← g2, set_same _ _ _ (by omega)]; exact MOle.refl _
      intro c hcl IHc
      have q1 : (L.set i (mapTo ownF ((rbRows row has es n).getD i []) c)).length = (rbRows row has es n).length := by rw [List.length_set, hm1]
      have q2 : (M.set i (mapTo not ((rbHas row has es n).getD i []) c)).length = (rbHas row has es n).length := by rw [List.length_set, hm2]
      have q3 : (L.set i (mapTo ownF ((rbRows row has es n).getD i []) c)).getD (↑i : Int).toNat [] = mapTo ownF ((rbRows row has es n).getD i []) c := by
        rw [Int.toNat_natCast]; simp [List.getD, show i < L.length by omega]
      have q4 : (M.set i (mapTo not ((rbHas row has es n).getD i []) c)).getD (↑i : Int).toNat [] = mapTo not ((rbHas row has es n).getD i []) c := by
        rw [Int.toNat_natCast]; simp [List.getD, show i < M.length by omega]
      have q5 : ((L.set i (mapTo ownF ((rbRows row has es n).getD i []) c)).getD (↑i : Int).toNat []).length = row.length := by rw [q3, mapTo_len, k1]
      have q6 : ((M.set i (mapTo not ((rbHas row has es n).getD i []) c)).getD (↑i : Int).toNat []).length = row.length := by rw [q4, mapTo_len, k2]
      refine Run.go ?_; (conv => whnf); repeat' (first | ((with_reducible refine Know.mk fun _ => ?_); conv => whnf) | ((with_reducible refine Need.mk ?_ ?_); (first | omega | (dsimp only; omega) | exact bytes_le (by rfl) (by omega) | exact ⟨rfl, by omega, bytes_le (by rfl) (by omega), by omega⟩ | (refine ⟨?_, ?_⟩ <;> (rw [wrap64 (by omega) (by omega)]; omega))); conv => whnf) | ((with_reducible refine Any.mk fun b hb => ?_); conv => whnf) | ((with_reducible refine AskB.dec (fun hb => ?_) (fun hb => ?_)) <;> conv => whnf) | ((with_reducible refine AskB.ndec (fun hb => ?_) (fun hb => ?_)) <;> conv => whnf) | ((with_reducible refine AskB.mk (fun hb => ?_) (fun hb => ?_)) <;> conv => whnf) | ((with_reducible refine Run.drawX rfl (by decide +kernel) ?_); conv => whnf) | ((with_reducible refine Run.drawW rfl (by kernel_rfl) ?_); conv => whnf))
      all_goals try (first | exact absurd rfl hb | (exfalso; omega))
      · refine Run.to _ _ ?_ ?_ (IHc (c + 1) (by omega) (by omega))
        · exact ⟨Le.refl _, Le.refl _, Le.refl _, Le.refl _, Le.refl _, Le.refl _, Le.refl _, Le.refl _, Le.refl _, Le.refl _, Le.refl _, Le.wrap64 (by omega) (by omega) (by omega), trivial⟩
        · refine ⟨MOle.refl _, MOle.refl _, MOle.refl _, ?_, ?_, trivial⟩
          · have e1 : L.set i (mapTo ownF ((rbRows row has es n).getD i []) (c + 1)) = (L.set i (mapTo ownF ((rbRows row has es n).getD i []) c)).set i (((L.set i (mapTo ownF ((rbRows row has es n).getD i []) c)).getD i []).set c ⟨#[111, 119, 110]⟩) := by
              rw [List.set_set, show (L.set i (mapTo ownF ((rbRows row has es n).getD i []) c)).getD i [] = _ from q3, ← mapTo_set ownF _ c ByteArray.empty (by omega)]; rfl
            rw [e1]
            exact tS.M_set 22 9 _ i c _ _ _ (by have := q5; rw [Int.toNat_natCast] at this; omega) rfl (Le.one (Le.refl _))
          · have e1 : M.set i (mapTo not ((rbHas row has es n).getD i []) (c + 1)) = (M.set i (mapTo not ((rbHas row has es n).getD i []) c)).set i (((M.set i (mapTo not ((rbHas row has es n).getD i []) c)).getD i []).set c (!((M.set i (mapTo not ((rbHas row has es n).getD i []) c)).getD i []).getD c false)) := by
              rw [List.set_set, show (M.set i (mapTo not ((rbHas row has es n).getD i []) c)).getD i [] = _ from q4, ← mapTo_set not _ c false (by omega), mapTo_at not _ c false (by omega)]
            rw [e1]
            exact tB.M_set 23 4 _ i c _ _ _ (by have := q6; rw [Int.toNat_natCast] at this; omega) rfl (Le.one (Le.refl _))
      have hce : c = row.length := by omega
      subst hce
      have n1 : L.set i (mapTo ownF ((rbRows row has es n).getD i []) row.length) = mapTo (List.map ownF) (rbRows row has es n) (i + 1) := by
        rw [← k1, mapTo_all, ← mapTo_set (List.map ownF) _ i [] hil, hL]
      have n2 : M.set i (mapTo not ((rbHas row has es n).getD i []) row.length) = mapTo (List.map not) (rbHas row has es n) (i + 1) := by
        rw [← k2, mapTo_all, ← mapTo_set (List.map not) _ i [] (by omega), hH]
      refine Run.callAX (same_fn row row has has) rfl rfl ⟨Le.refl _, Le.refl _, Le.refl _, Le.refl _, trivial⟩ rfl rfl rfl ?_
      rw [show decide (row.length = has.length ∧ row = row ∧ has = has) = true from decide_eq_true ⟨h3, rfl, rfl⟩]
      (conv => whnf); repeat' (first | ((with_reducible refine Know.mk fun _ => ?_); conv => whnf) | ((with_reducible refine Need.mk ?_ ?_); (first | omega | (dsimp only; omega) | exact bytes_le (by rfl) (by omega) | exact ⟨rfl, by omega, bytes_le (by rfl) (by omega), by omega⟩ | (refine ⟨?_, ?_⟩ <;> (rw [wrap64 (by omega) (by omega)]; omega))); conv => whnf) | ((with_reducible refine Any.mk fun b hb => ?_); conv => whnf) | ((with_reducible refine AskB.dec (fun hb => ?_) (fun hb => ?_)) <;> conv => whnf) | ((with_reducible refine AskB.ndec (fun hb => ?_) (fun hb => ?_)) <;> conv => whnf) | ((with_reducible refine AskB.mk (fun hb => ?_) (fun hb => ?_)) <;> conv => whnf) | ((with_reducible refine Run.drawX rfl (by decide +kernel) ?_); conv => whnf) | ((with_reducible refine Run.drawW rfl (by kernel_rfl) ?_); conv => whnf))
      · cases hb
      rw [n1, n2]
      refine Run.to _ _ ?_ ?_ (IHi (i + 1) (by omega) (by omega))
      · exact ⟨Le.refl _, Le.refl _, Le.refl _, Le.refl _, Le.refl _, Le.refl _, Le.refl _, Le.refl _, Le.wrap64 (by omega) (by omega) (by omega), trivial⟩
      · exact ⟨MOle.refl _, MOle.refl _, MOle.refl _, MOle.refl _, MOle.refl _, trivial⟩
    · have hie : i = (rbRows row has es n).length := by omega
      refine Run.go ?_; (conv => whnf); repeat' (first | ((with_reducible refine Know.mk fun _ => ?_); conv => whnf) | ((with_reducible refine Need.mk ?_ ?_); (first | omega | (dsimp only; omega) | exact bytes_le (by rfl) (by omega) | exact ⟨rfl, by omega, bytes_le (by rfl) (by omega), by omega⟩ | (refine ⟨?_, ?_⟩ <;> (rw [wrap64 (by omega) (by omega)]; omega))); conv => whnf) | ((with_reducible refine Any.mk fun b hb => ?_); conv => whnf) | ((with_reducible refine AskB.dec (fun hb => ?_) (fun hb => ?_)) <;> conv => whnf) | ((with_reducible refine AskB.ndec (fun hb => ?_) (fun hb => ?_)) <;> conv => whnf) | ((with_reducible refine AskB.mk (fun hb => ?_) (fun hb => ?_)) <;> conv => whnf) | ((with_reducible refine Run.drawX rfl (by decide +kernel) ?_); conv => whnf) | ((with_reducible refine Run.drawW rfl (by kernel_rfl) ?_); conv => whnf))
      · omega
      · exact Run.leave (ts := [2]) (.inr ⟨_, rfl⟩) rfl Try.func4 rfl (Le.refl _)
  · obtain ⟨e1, e2⟩ := rb_len0 hc
    rw [e1, e2]
    (conv => whnf); repeat' (first | ((with_reducible refine Know.mk fun _ => ?_); conv => whnf) | ((with_reducible refine Need.mk ?_ ?_); (first | omega | (dsimp only; omega) | exact bytes_le (by rfl) (by omega) | exact ⟨rfl, by omega, bytes_le (by rfl) (by omega), by omega⟩ | (refine ⟨?_, ?_⟩ <;> (rw [wrap64 (by omega) (by omega)]; omega))); conv => whnf) | ((with_reducible refine Any.mk fun b hb => ?_); conv => whnf) | ((with_reducible refine AskB.dec (fun hb => ?_) (fun hb => ?_)) <;> conv => whnf) | ((with_reducible refine AskB.ndec (fun hb => ?_) (fun hb => ?_)) <;> conv => whnf) | ((with_reducible refine AskB.mk (fun hb => ?_) (fun hb => ?_)) <;> conv => whnf) | ((with_reducible refine Run.drawX rfl (by decide +kernel) ?_); conv => whnf) | ((with_reducible refine Run.drawW rfl (by kernel_rfl) ?_); conv => whnf))
    all_goals try (first | exact absurd rfl hb | (exfalso; omega))
    all_goals first | exact Run.leave (ts := [2]) (.inr ⟨_, rfl⟩) rfl Try.func4 rfl (Le.refl _) | (rename_i hq; exact absurd rfl hq)
end Go.Proofs.Ytjoecebimleoaaa.V
