/-
The functions that this seat's laws reach, walked: Rebuild (the document's).
-/
import Derived.Test.YtjoecebimleoaaaWf
namespace Go.Proofs.Ytjoecebimleoaaa.V
open Go Go.Proofs Go.RowKit
set_option linter.unusedVariables false
set_option linter.unusedSimpArgs false
set_option maxRecDepth 100000
set_option maxHeartbeats 1000000
noncomputable def rbL (row : List ByteArray) (has : List Bool) (es : List En) (n : Int) : AV := tupL [(tL tS).L (rbRows row has es n), (tL tB).L (rbHas row has es n), .int .i64 (rbCode row has es n)]
theorem rbL_bad {row : List ByteArray} {has : List Bool} {es : List En} {n : Int} {c : Int} (hc : rbCode row has es n = c) (h0 : c ≠ 0) : ArgsLe [.nils, .nils, .int .i64 c] [(tL tS).L (rbRows row has es n), (tL tB).L (rbHas row has es n), .int .i64 (rbCode row has es n)] := by
  have e1 : rbRows row has es n = [] := by unfold rbRows; rw [hc, if_neg h0]
  have e2 : rbHas row has es n = [] := by unfold rbHas; rw [hc, if_neg h0]
  rw [e1, e2, hc]
  exact ⟨Ty.nil _, Ty.nil _, Le.refl _, trivial⟩
theorem eqB {x : ByteArray} {y : Bool} (h : (y == decide (x = ⟨#[]⟩)) = false) : y = decide (x ≠ ⟨#[]⟩) := by
  cases y <;> by_cases h9 : x = ⟨#[]⟩ <;> simp [h9] at h ⊢
theorem rebuildR_fn (row : List ByteArray) (has : List Bool) (es : List En) (n : Int) : Fn Try.prog 8 [tS.L row, tB.L has, tEn.L es, .int .i64 n] (rbL row has es n) := by
  refine Fn.of Try.f8 _ Try.func8 rfl (by decide) (by show 4 ≤ _; decide) tbOk 176 rfl fun S w0 => ?_
  refine Run.go ?_; (conv => whnf); repeat' (first | ((with_reducible refine Know.mk fun _ => ?_); conv => whnf) | ((with_reducible refine Need.mk ?_ ?_); (first | omega | (dsimp only; omega) | exact bytes_le (by rfl) (by omega) | exact ⟨rfl, by omega, bytes_le (by rfl) (by omega), by omega⟩ | (refine ⟨?_, ?_⟩ <;> (rw [wrap64 (by omega) (by omega)]; omega))); conv => whnf) | ((with_reducible refine Any.mk fun b hb => ?_); conv => whnf) | ((with_reducible refine AskB.dec (fun hb => ?_) (fun hb => ?_)) <;> conv => whnf) | ((with_reducible refine AskB.ndec (fun hb => ?_) (fun hb => ?_)) <;> conv => whnf) | ((with_reducible refine AskB.mk (fun hb => ?_) (fun hb => ?_)) <;> conv => whnf) | ((with_reducible refine Run.drawX rfl (by decide +kernel) ?_); conv => whnf) | ((with_reducible refine Run.drawW rfl (by kernel_rfl) ?_); conv => whnf))
  iterate 3 (· exact Run.leave (ts := [8,9,10]) (.inr ⟨_, rfl⟩) rfl Try.func8 rfl (resT (rbL_bad (c := 2) (by unfold rbCode; rw [if_pos (by omega)]) (by decide))))
  rotate_left
  · exact Run.leave (ts := [8,9,10]) (.inr ⟨_, rfl⟩) rfl Try.func8 rfl (resT (rbL_bad (c := 2) (by unfold rbCode; rw [if_pos (by omega)]) (by decide)))
  have hlen : row.length = has.length := by omega
  refine Run.loop [0, 1, 2, 3] (fun i : Nat => [(11, .int .i64 (i : Int))]) (fun i => [])
    (fun i => i ≤ row.length ∧ ∀ j, j < i → has.getD j false = decide (row.getD j ⟨#[]⟩ ≠ ⟨#[]⟩)) (fun i => row.length - i) 0 ⟨Nat.zero_le _, fun j hj => absurd hj (Nat.not_lt_zero _)⟩ ⟨Le.refl _, trivial⟩ trivial ?_
  intro i ⟨hi, hok⟩ IH
  refine Run.go ?_; (conv => whnf); repeat' (first | ((with_reducible refine Know.mk fun _ => ?_); conv => whnf) | ((with_reducible refine Need.mk ?_ ?_); (first | omega | (dsimp only; omega) | exact bytes_le (by rfl) (by omega) | exact ⟨rfl, by omega, bytes_le (by rfl) (by omega), by omega⟩ | (refine ⟨?_, ?_⟩ <;> (rw [wrap64 (by omega) (by omega)]; omega))); conv => whnf) | ((with_reducible refine Any.mk fun b hb => ?_); conv => whnf) | ((with_reducible refine AskB.dec (fun hb => ?_) (fun hb => ?_)) <;> conv => whnf) | ((with_reducible refine AskB.ndec (fun hb => ?_) (fun hb => ?_)) <;> conv => whnf) | ((with_reducible refine AskB.mk (fun hb => ?_) (fun hb => ?_)) <;> conv => whnf) | ((with_reducible refine Run.drawX rfl (by decide +kernel) ?_); conv => whnf) | ((with_reducible refine Run.drawW rfl (by kernel_rfl) ?_); conv => whnf))
  · exact Run.leave (ts := [8,9,10]) (.inr ⟨_, rfl⟩) rfl Try.func8 rfl (resT (rbL_bad (c := 2) (by
      rw [Int.toNat_natCast] at hb
      unfold rbCode; rw [if_neg (by omega), if_pos (fun hr => ?_)]
      have := hr i (by omega)
      rw [show tB.z = false from rfl, show tS.z = ⟨#[]⟩ from rfl, this] at hb
      by_cases h9 : row.getD i ⟨#[]⟩ = ⟨#[]⟩ <;> simp [h9] at hb) (by decide)))
  · refine Run.to _ _ ?_ ?_ (IH (i+1) (by omega) ⟨by omega, fun j hj => ?_⟩)
    · exact ⟨Le.refl _, Le.refl _, Le.refl _, Le.refl _, Le.wrap64 (by omega) (by omega) (by omega), trivial⟩
    · exact trivial
    · rcases Nat.lt_or_ge j i with h | h
      · exact hok j h
      · have : j = i := by omega
        subst this
        rw [Int.toNat_natCast] at hb
        exact eqB hb
  have hR : rowOk row has := fun j hj => hok j (by omega)
  refine Run.callAX (checkR_fn es n row.length) rfl rfl (ArgsLe.of_eq rfl) rfl rfl rfl ?_
  (conv => whnf); repeat' (first | ((with_reducible refine Know.mk fun _ => ?_); conv => whnf) | ((with_reducible refine Need.mk ?_ ?_); (first | omega | (dsimp only; omega) | exact bytes_le (by rfl) (by omega) | exact ⟨rfl, by omega, bytes_le (by rfl) (by omega), by omega⟩ | (refine ⟨?_, ?_⟩ <;> (rw [wrap64 (by omega) (by omega)]; omega))); conv => whnf) | ((with_reducible refine Any.mk fun b hb => ?_); conv => whnf) | ((with_reducible refine AskB.dec (fun hb => ?_) (fun hb => ?_)) <;> conv => whnf) | ((with_reducible refine AskB.ndec (fun hb => ?_) (fun hb => ?_)) <;> conv => whnf) | ((with_reducible refine AskB.mk (fun hb => ?_) (fun hb => ?_)) <;> conv => whnf) | ((with_reducible refine Run.drawX rfl (by decide +kernel) ?_); conv => whnf) | ((with_reducible refine Run.drawW rfl (by kernel_rfl) ?_); conv => whnf))
  rotate_left
  · exact Run.leave (ts := [8,9,10]) (.inr ⟨_, rfl⟩) rfl Try.func8 rfl (resT (rbL_bad (c := 170) (by
      unfold rbCode; rw [if_neg (by omega), if_neg (fun h => h hR), if_neg (fun h => ?_)]
      refine hb ?_
      unfold chk; rw [if_neg (by omega), if_pos h.1]) (by decide)))
  have hG : Good n row.length es := by
    have hb0 : chk es n row.length = 0 := by assumption
    refine Classical.byContradiction fun hg => ?_
    unfold chk at hb0
    rw [if_neg (by omega), if_neg hg] at hb0
    exact absurd hb0 (by decide)
  refine Run.loop [0, 1, 2, 3] (fun i : Nat => [(12, .int .i64 (i : Int))]) (fun i => [])
    (fun i => i ≤ es.length ∧ ∀ q, q < i → ((es.getD q tEn.z).rds.getD 0 tRd.z).text = row.getD (es.getD q tEn.z).col.toNat ByteArray.empty) (fun i => es.length - i) 0 ⟨Nat.zero_le _, fun q hq => absurd hq (Nat.not_lt_zero _)⟩ ⟨Le.refl _, trivial⟩ trivial ?_
  intro i ⟨hi, hf⟩ IHi
  have hen : i < es.length → 0 ≤ (es.getD (↑i : Int).toNat tEn.z).col ∧ (es.getD (↑i : Int).toNat tEn.z).col < row.length ∧ 2 ≤ (es.getD (↑i : Int).toNat tEn.z).rds.length := fun h => by
    rw [Int.toNat_natCast]
    have := hG.each _ (getD_mem (z := tEn.z) i h)
    exact ⟨this.1, this.2.1, this.2.2.2.1⟩
  refine Run.go ?_; (conv => whnf); repeat' (first | ((with_reducible refine Know.mk fun _ => ?_); conv => whnf) | ((with_reducible refine Need.mk ?_ ?_); (first | omega | (dsimp only; omega) | exact bytes_le (by rfl) (by omega) | exact ⟨rfl, by omega, bytes_le (by rfl) (by omega), by omega⟩ | (refine ⟨?_, ?_⟩ <;> (rw [wrap64 (by omega) (by omega)]; omega))); conv => whnf) | ((with_reducible refine Any.mk fun b hb => ?_); conv => whnf) | ((with_reducible refine AskB.dec (fun hb => ?_) (fun hb => ?_)) <;> conv => whnf) | ((with_reducible refine AskB.ndec (fun hb => ?_) (fun hb => ?_)) <;> conv => whnf) | ((with_reducible refine AskB.mk (fun hb => ?_) (fun hb => ?_)) <;> conv => whnf) | ((with_reducible refine Run.drawX rfl (by decide +kernel) ?_); conv => whnf) | ((with_reducible refine Run.drawW rfl (by kernel_rfl) ?_); conv => whnf))
  · exact Run.leave (ts := [8,9,10]) (.inr ⟨_, rfl⟩) rfl Try.func8 rfl (resT (rbL_bad (c := 170) (by
      unfold rbCode; rw [if_neg (by omega), if_neg (fun h => h hR), if_neg (fun h => ?_)]
      rw [Int.toNat_natCast] at hb
      exact (h.2 _ (getD_mem (z := tEn.z) i (by omega))).1 (by rw [beq_iff_eq] at hb; exact hb)) (by decide)))
  · refine Run.to _ _ ?_ ?_ (IHi (i + 1) (by omega) ⟨by omega, fun q hq => ?_⟩)
    · exact ⟨Le.refl _, Le.refl _, Le.refl _, Le.refl _, Le.wrap64 (by omega) (by omega) (by omega), trivial⟩
    · exact trivial
    · rcases Nat.lt_or_ge q i with h | h
      · exact hf q h
      · have : q = i := by omega
        subst this
        rw [Int.toNat_natCast] at hb
        exact hb
  · exact Run.leave (ts := [8,9,10]) (.inr ⟨_, rfl⟩) rfl Try.func8 rfl (resT (rbL_bad (c := 170) (by
      unfold rbCode; rw [if_neg (by omega), if_neg (fun h => h hR), if_neg (fun h => ?_)]
      rw [Int.toNat_natCast] at hb
      exact hb ((row_first hR hG).mp h.2 i (by omega))) (by decide)))
  have hie : i = es.length := by omega
  subst hie
  have hcode : rbCode row has es n = 0 := by
    unfold rbCode; rw [if_neg (by omega), if_neg (fun h => h hR), if_pos ⟨hG, (row_first hR hG).mpr hf⟩]
  clear hen IHi IH
  refine Run.holdNil 14 1000 22 1 (fun _ _ => .u) rfl ?_
  refine Run.holdNil 15 1001 23 1 (fun _ _ => .u) rfl ?_
  refine Run.loop [0, 1, 2, 3] (fun w : Nat => [(14, .row 1000), (15, .row 1001), (16, .int .i64 (w : Int))]) (fun w => [(1000, (tL tS).R 22 ((rowsT n (says es) row).take w)), (1001, (tL tB).R 23 ((rowsH n (says es) has).take w))])
    (fun w => w ≤ n.toNat) (fun w => n.toNat - w) 0 (Nat.zero_le _) ⟨Le.refl _, Le.refl _, Le.refl _, trivial⟩ ⟨?_, ?_, trivial⟩ ?_
  · exact ⟨rfl, rfl, rfl, fun i j hi => absurd hi (Nat.not_lt_zero _)⟩
  · exact ⟨rfl, rfl, rfl, fun i j hi => absurd hi (Nat.not_lt_zero _)⟩
  intro w hw IHw
  refine Run.go ?_; (conv => whnf); repeat' (first | ((with_reducible refine Know.mk fun _ => ?_); conv => whnf) | ((with_reducible refine Need.mk ?_ ?_); (first | omega | (dsimp only; omega) | exact bytes_le (by rfl) (by omega) | exact ⟨rfl, by omega, bytes_le (by rfl) (by omega), by omega⟩ | (refine ⟨?_, ?_⟩ <;> (rw [wrap64 (by omega) (by omega)]; omega))); conv => whnf) | ((with_reducible refine Any.mk fun b hb => ?_); conv => whnf) | ((with_reducible refine AskB.dec (fun hb => ?_) (fun hb => ?_)) <;> conv => whnf) | ((with_reducible refine AskB.ndec (fun hb => ?_) (fun hb => ?_)) <;> conv => whnf) | ((with_reducible refine AskB.mk (fun hb => ?_) (fun hb => ?_)) <;> conv => whnf) | ((with_reducible refine Run.drawX rfl (by decide +kernel) ?_); conv => whnf) | ((with_reducible refine Run.drawW rfl (by kernel_rfl) ?_); conv => whnf))
  · refine Run.loop [0, 1, 2, 3, 14, 15, 16, 17, 18] (fun i : Nat => [(19, .int .i64 (i : Int))])
      (fun i => [(1000, (tL tS).R 22 ((rowsT n (says es) row).take w)), (1001, (tL tB).R 23 ((rowsH n (says es) has).take w)), (106, tS.R 9 (appT w (says (es.take i)) row)), (108, tB.R 4 (appH w (says (es.take i)) has))])
      (fun i => i ≤ es.length) (fun i => es.length - i) 0 (Nat.zero_le _) ⟨Le.refl _, trivial⟩ ⟨MOle.refl _, MOle.refl _, ?_, ?_, trivial⟩ ?_
    · exact Ty.join tS 9 [] row _ _ _ _ rfl rfl (fun i j hi => absurd hi (Nat.not_lt_zero _)) (fun _ _ _ _ => Le.refl _)
    · exact Ty.join tB 4 [] has _ _ _ _ rfl rfl (fun i j hi => absurd hi (Nat.not_lt_zero _)) (fun _ _ _ _ => Le.refl _)
    intro i hi IHi
    by_cases hil : i < es.length
    · refine Run.go ?_; (conv => whnf); repeat' (first | ((with_reducible refine Know.mk fun _ => ?_); conv => whnf) | ((with_reducible refine Need.mk ?_ ?_); (first | omega | (dsimp only; omega) | exact bytes_le (by rfl) (by omega) | exact ⟨rfl, by omega, bytes_le (by rfl) (by omega), by omega⟩ | (refine ⟨?_, ?_⟩ <;> (rw [wrap64 (by omega) (by omega)]; omega))); conv => whnf) | ((with_reducible refine Any.mk fun b hb => ?_); conv => whnf) | ((with_reducible refine AskB.dec (fun hb => ?_) (fun hb => ?_)) <;> conv => whnf) | ((with_reducible refine AskB.ndec (fun hb => ?_) (fun hb => ?_)) <;> conv => whnf) | ((with_reducible refine AskB.mk (fun hb => ?_) (fun hb => ?_)) <;> conv => whnf) | ((with_reducible refine Run.drawX rfl (by decide +kernel) ?_); conv => whnf) | ((with_reducible refine Run.drawW rfl (by kernel_rfl) ?_); conv => whnf))
      · obtain ⟨hc0, hc1, hRt⟩ := hG.each _ (getD_mem (z := tEn.z) i hil)
        have hsay := says_take es i hil
        rw [← Int.toNat_natCast i] at hsay hc0 hc1 hRt
        refine Run.loop [0, 1, 2, 3, 14, 15, 16, 17, 18, 19] (fun k : Nat => [(20, .int .i64 (k : Int))])
          (fun k => [(1000, (tL tS).R 22 ((rowsT n (says es) row).take w)), (1001, (tL tB).R 23 ((rowsH n (says es) has).take w)), (106, tS.R 9 (appT w (says (es.take i) ++ ((es.getD (↑i : Int).toNat tEn.z).rds.take k).flatMap (sayR (es.getD (↑i : Int).toNat tEn.z).col.toNat)) row)), (108, tB.R 4 (appH w (says (es.take i) ++ ((es.getD (↑i : Int).toNat tEn.z).rds.take k).flatMap (sayR (es.getD (↑i : Int).toNat tEn.z).col.toNat)) has))])
          (fun k => k ≤ (es.getD (↑i : Int).toNat tEn.z).rds.length) (fun k => (es.getD (↑i : Int).toNat tEn.z).rds.length - k) 0 (Nat.zero_le _) ⟨Le.refl _, trivial⟩ ⟨MOle.refl _, MOle.refl _, ?_, ?_, trivial⟩ ?_
        · rw [List.take_zero, List.flatMap_nil, List.append_nil]; exact MOle.refl _
        · rw [List.take_zero, List.flatMap_nil, List.append_nil]; exact MOle.refl _
        intro k hk IHk
        refine Run.go ?_; (conv => whnf); repeat' (first | ((with_reducible refine Know.mk fun _ => ?_); conv => whnf) | ((with_reducible refine Need.mk ?_ ?_); (first | omega | (dsimp only; omega) | exact bytes_le (by rfl) (by omega) | exact ⟨rfl, by omega, bytes_le (by rfl) (by omega), by omega⟩ | (refine ⟨?_, ?_⟩ <;> (rw [wrap64 (by omega) (by omega)]; omega))); conv => whnf) | ((with_reducible refine Any.mk fun b hb => ?_); conv => whnf) | ((with_reducible refine AskB.dec (fun hb => ?_) (fun hb => ?_)) <;> conv => whnf) | ((with_reducible refine AskB.ndec (fun hb => ?_) (fun hb => ?_)) <;> conv => whnf) | ((with_reducible refine AskB.mk (fun hb => ?_) (fun hb => ?_)) <;> conv => whnf) | ((with_reducible refine Run.drawX rfl (by decide +kernel) ?_); conv => whnf) | ((with_reducible refine Run.drawW rfl (by kernel_rfl) ?_); conv => whnf))
        · have hkl : k < (es.getD (↑i : Int).toNat tEn.z).rds.length := by omega
          have hsayE := sayE_take (es.getD (↑i : Int).toNat tEn.z).col.toNat (es.getD (↑i : Int).toNat tEn.z).rds k hkl
          rw [← Int.toNat_natCast k] at hsayE
          generalize hbase : says (es.take i) ++ ((es.getD (↑i : Int).toNat tEn.z).rds.take (↑k : Int).toNat).flatMap (sayR (es.getD (↑i : Int).toNat tEn.z).col.toNat) = base at *
          have hbase' : says (es.take i) ++ ((es.getD (↑i : Int).toNat tEn.z).rds.take k).flatMap (sayR (es.getD (↑i : Int).toNat tEn.z).col.toNat) = base := hbase
          rw [hbase']
          refine Run.loop [0, 1, 2, 3, 14, 15, 16, 17, 18, 19, 20, 21] (fun m : Nat => [(22, .int .i64 (m : Int))])
            (fun m => [(21, .box 42 [.bool ((es.getD (↑i : Int).toNat tEn.z).rds.getD (↑k : Int).toNat tRd.z).none, .str ((es.getD (↑i : Int).toNat tEn.z).rds.getD (↑k : Int).toNat tRd.z).text, tI.L ((es.getD (↑i : Int).toNat tEn.z).rds.getD (↑k : Int).toNat tRd.z).wits]),
              (1000, (tL tS).R 22 ((rowsT n (says es) row).take w)), (1001, (tL tB).R 23 ((rowsH n (says es) has).take w)),
              (106, tS.R 9 (appT w (base ++ ((((es.getD (↑i : Int).toNat tEn.z).rds.getD (↑k : Int).toNat tRd.z).wits.take m).map (fun w => (⟨w, (es.getD (↑i : Int).toNat tEn.z).col.toNat, ((es.getD (↑i : Int).toNat tEn.z).rds.getD (↑k : Int).toNat tRd.z).text, !((es.getD (↑i : Int).toNat tEn.z).rds.getD (↑k : Int).toNat tRd.z).none⟩ : Sayn)))) row)),
              (108, tB.R 4 (appH w (base ++ ((((es.getD (↑i : Int).toNat tEn.z).rds.getD (↑k : Int).toNat tRd.z).wits.take m).map (fun w => (⟨w, (es.getD (↑i : Int).toNat tEn.z).col.toNat, ((es.getD (↑i : Int).toNat tEn.z).rds.getD (↑k : Int).toNat tRd.z).text, !((es.getD (↑i : Int).toNat tEn.z).rds.getD (↑k : Int).toNat tRd.z).none⟩ : Sayn)))) has))])
            (fun m => m ≤ ((es.getD (↑i : Int).toNat tEn.z).rds.getD (↑k : Int).toNat tRd.z).wits.length) (fun m => ((es.getD (↑i : Int).toNat tEn.z).rds.getD (↑k : Int).toNat tRd.z).wits.length - m) 0 (Nat.zero_le _) ⟨Le.refl _, trivial⟩ ⟨MOle.refl _, MOle.refl _, MOle.refl _, ?_, ?_, trivial⟩ ?_
          · rw [List.take_zero, List.map_nil, List.append_nil]; exact MOle.refl _
          · rw [List.take_zero, List.map_nil, List.append_nil]; exact MOle.refl _
          intro m hm IHm
          generalize hr : (es.getD (↑i : Int).toNat tEn.z).rds.getD (↑k : Int).toNat tRd.z = r at *
          have hst : m < r.wits.length → (r.wits.take (m + 1)).map (fun w => (⟨w, (es.getD (↑i : Int).toNat tEn.z).col.toNat, r.text, !r.none⟩ : Sayn)) = (r.wits.take m).map (fun w => ⟨w, (es.getD (↑i : Int).toNat tEn.z).col.toNat, r.text, !r.none⟩) ++ [⟨r.wits.getD m 0, (es.getD (↑i : Int).toNat tEn.z).col.toNat, r.text, !r.none⟩] := fun h => sayR_take _ _ _ h
          generalize hd : base ++ ((r.wits.take m).map (fun w => (⟨w, (es.getD (↑i : Int).toNat tEn.z).col.toNat, r.text, !r.none⟩ : Sayn))) = d at *
          have hl1 := appT_len w d row
          have hl2 := appH_len w d has
          refine Run.go ?_; (conv => whnf); repeat' (first | ((with_reducible refine Know.mk fun _ => ?_); conv => whnf) | ((with_reducible refine Need.mk ?_ ?_); (first | omega | (dsimp only; omega) | exact bytes_le (by rfl) (by omega) | exact ⟨rfl, by omega, bytes_le (by rfl) (by omega), by omega⟩ | (refine ⟨?_, ?_⟩ <;> (rw [wrap64 (by omega) (by omega)]; omega))); conv => whnf) | ((with_reducible refine Any.mk fun b hb => ?_); conv => whnf) | ((with_reducible refine AskB.dec (fun hb => ?_) (fun hb => ?_)) <;> conv => whnf) | ((with_reducible refine AskB.ndec (fun hb => ?_) (fun hb => ?_)) <;> conv => whnf) | ((with_reducible refine AskB.mk (fun hb => ?_) (fun hb => ?_)) <;> conv => whnf) | ((with_reducible refine Run.drawX rfl (by decide +kernel) ?_); conv => whnf) | ((with_reducible refine Run.drawW rfl (by kernel_rfl) ?_); conv => whnf))
          · have hml : m < r.wits.length := by omega
            rw [Int.toNat_natCast] at hb
            have hb' : r.wits.getD m 0 = (w : Int) := hb
            refine Run.to _ _ ?_ ?_ (IHm (m + 1) (by omega) (by omega))
            · exact ⟨Le.refl _, Le.refl _, Le.refl _, Le.refl _, Le.refl _, Le.refl _, Le.refl _, Le.refl _, Le.refl _, Le.refl _, Le.refl _, Le.refl _, Le.wrap64 (by omega) (by omega) (by omega), trivial⟩
            · refine ⟨MOle.refl _, MOle.refl _, MOle.refl _, ?_, ?_, trivial⟩
              · rw [hst hml, ← List.append_assoc, hd, show appT w (d ++ [⟨r.wits.getD m 0, (es.getD (↑i : Int).toNat tEn.z).col.toNat, r.text, !r.none⟩]) row = (appT w d row).set (es.getD (↑i : Int).toNat tEn.z).col.toNat r.text by
                  unfold appT; rw [List.foldl_append]; simp only [List.foldl_cons, List.foldl_nil, hb', if_true]]
                exact tS.set 9 _ _ _ (by omega) _ rfl (Le.one (Le.refl _))
              · rw [hst hml, ← List.append_assoc, hd, show appH w (d ++ [⟨r.wits.getD m 0, (es.getD (↑i : Int).toNat tEn.z).col.toNat, r.text, !r.none⟩]) has = (appH w d has).set (es.getD (↑i : Int).toNat tEn.z).col.toNat (!r.none) by
                  unfold appH; rw [List.foldl_append]; simp only [List.foldl_cons, List.foldl_nil, hb', if_true]]
                exact tB.set 4 _ _ _ (by omega) _ rfl (Le.one (Le.refl _))
          · have hml : m < r.wits.length := by omega
            rw [Int.toNat_natCast] at hb
            have hb' : ¬ r.wits.getD m 0 = (w : Int) := hb
            refine Run.to _ _ ?_ ?_ (IHm (m + 1) (by omega) (by omega))
            · exact ⟨Le.refl _, Le.refl _, Le.refl _, Le.refl _, Le.refl _, Le.refl _, Le.refl _, Le.refl _, Le.refl _, Le.refl _, Le.refl _, Le.refl _, Le.wrap64 (by omega) (by omega) (by omega), trivial⟩
            · refine ⟨MOle.refl _, MOle.refl _, MOle.refl _, ?_, ?_, trivial⟩
              · rw [hst hml, ← List.append_assoc, hd, show appT w (d ++ [⟨r.wits.getD m 0, (es.getD (↑i : Int).toNat tEn.z).col.toNat, r.text, !r.none⟩]) row = appT w d row by
                  unfold appT; rw [List.foldl_append]; simp only [List.foldl_cons, List.foldl_nil, hb', if_false]]
                exact MOle.refl _
              · rw [hst hml, ← List.append_assoc, hd, show appH w (d ++ [⟨r.wits.getD m 0, (es.getD (↑i : Int).toNat tEn.z).col.toNat, r.text, !r.none⟩]) has = appH w d has by
                  unfold appH; rw [List.foldl_append]; simp only [List.foldl_cons, List.foldl_nil, hb', if_false]]
                exact MOle.refl _
          · have hmw : m = r.wits.length := by omega
            subst hmw
            rw [List.take_length] at hd
            have hd2 : says (es.take i) ++ ((es.getD (↑i : Int).toNat tEn.z).rds.take (k + 1)).flatMap (sayR (es.getD (↑i : Int).toNat tEn.z).col.toNat) = d := by
              rw [show ((es.getD (↑i : Int).toNat tEn.z).rds.take (k + 1)).flatMap (sayR (es.getD (↑i : Int).toNat tEn.z).col.toNat) = _ from hsayE, ← List.append_assoc]
              refine Eq.trans (congrArg (· ++ _) hbase') ?_
              rw [← hd]; rfl
            refine Run.to _ _ ?_ ?_ (IHk (k + 1) (by omega) (by omega))
            · exact ⟨Le.refl _, Le.refl _, Le.refl _, Le.refl _, Le.refl _, Le.refl _, Le.refl _, Le.refl _, Le.refl _, Le.refl _, Le.wrap64 (by omega) (by omega) (by omega), trivial⟩
            · rw [hd2]; exact ⟨MOle.refl _, MOle.refl _, MOle.refl _, MOle.refl _, trivial⟩
        · have hke : k = (es.getD (↑i : Int).toNat tEn.z).rds.length := by omega
          have hd2 : says (es.take (i + 1)) = says (es.take i) ++ ((es.getD (↑i : Int).toNat tEn.z).rds.take k).flatMap (sayR (es.getD (↑i : Int).toNat tEn.z).col.toNat) := by
            rw [Int.toNat_natCast] at hsay
            rw [hke, hsay, List.take_length]; rfl
          refine Run.to _ _ ?_ ?_ (IHi (i + 1) (by omega) (by omega))
          · exact ⟨Le.refl _, Le.refl _, Le.refl _, Le.refl _, Le.refl _, Le.refl _, Le.refl _, Le.refl _, Le.refl _, Le.wrap64 (by omega) (by omega) (by omega), trivial⟩
          · rw [hd2]; exact ⟨MOle.refl _, MOle.refl _, MOle.refl _, MOle.refl _, trivial⟩
      · omega
    · have hie : i = es.length := by omega
      subst hie
      have hw1 : ((rowsT n (says es) row).take w).length = w := by rw [List.length_take, rowsT_len]; omega
      have hw2 : ((rowsH n (says es) has).take w).length = w := by rw [List.length_take, rowsH_len]; omega
      refine Run.freeze 106 rfl ?_
      refine Run.freeze 108 rfl ?_
      refine Run.fresh [0, 1, 2, 3, 14, 15, 16, 17, 18, 19] [(1000, (tL tS).R 22 ((rowsT n (says es) row).take w)), (1001, (tL tB).R 23 ((rowsH n (says es) has).take w))] ⟨MOle.refl _, MOle.refl _, trivial⟩ ?_
      refine Run.go ?_; (conv => whnf); repeat' (first | ((with_reducible refine Know.mk fun _ => ?_); conv => whnf) | ((with_reducible refine Need.mk ?_ ?_); (first | omega | (dsimp only; omega) | exact bytes_le (by rfl) (by omega) | exact ⟨rfl, by omega, bytes_le (by rfl) (by omega), by omega⟩ | (refine ⟨?_, ?_⟩ <;> (rw [wrap64 (by omega) (by omega)]; omega))); conv => whnf) | ((with_reducible refine Any.mk fun b hb => ?_); conv => whnf) | ((with_reducible refine AskB.dec (fun hb => ?_) (fun hb => ?_)) <;> conv => whnf) | ((with_reducible refine AskB.ndec (fun hb => ?_) (fun hb => ?_)) <;> conv => whnf) | ((with_reducible refine AskB.mk (fun hb => ?_) (fun hb => ?_)) <;> conv => whnf) | ((with_reducible refine Run.drawX rfl (by decide +kernel) ?_); conv => whnf) | ((with_reducible refine Run.drawW rfl (by kernel_rfl) ?_); conv => whnf))
      · omega
      · refine Run.hold (z := 169) 14 1000 (by rfl) (by rfl) (by rfl) ?_
        refine Run.hold (z := 173) 15 1001 (by rfl) (by rfl) (by rfl) ?_
        have hwn : w < n.toNat := by omega
        refine Run.to _ _ ?_ ?_ (IHw (w + 1) (by omega) (by omega))
        · exact ⟨Le.refl _, Le.refl _, Le.refl _, Le.refl _, Le.refl _, Le.refl _, Le.wrap64 (by omega) (by omega) (by omega), trivial⟩
        · refine ⟨?_, ?_, trivial⟩
          · rw [take_get [] (rowsT n (says es) row) w (by rw [rowsT_len]; exact hwn), rowsT_at _ _ hwn]
            refine (tL tS).push 22 _ (appT w (says es) row) _ (fun j hj => ?_)
            have : j = 0 := by simp [tL] at hj; exact hj
            subst this
            rw [List.take_length]; exact Le.refl _
          · rw [take_get [] (rowsH n (says es) has) w (by rw [rowsH_len]; exact hwn), rowsH_at _ _ hwn]
            refine (tL tB).push 23 _ (appH w (says es) has) _ (fun j hj => ?_)
            have : j = 0 := by simp [tL] at hj; exact hj
            subst this
            rw [List.take_length]; exact Le.refl _
  · have hwn : w = n.toNat := by omega
    subst hwn
    refine Run.leave (ts := [8,9,10]) (.inr ⟨_, rfl⟩) rfl Try.func8 rfl (resT ⟨?_, ?_, ?_, trivial⟩)
    · unfold rbRows; rw [if_pos hcode]
      have : (rowsT n (says es) row).take n.toNat = rowsT n (says es) row := List.take_of_length_le (by rw [rowsT_len]; exact Nat.le_refl _)
      conv => rhs; rw [← this]
      exact Le.refl _
    · unfold rbHas; rw [if_pos hcode]
      have : (rowsH n (says es) has).take n.toNat = rowsH n (says es) has := List.take_of_length_le (by rw [rowsH_len]; exact Nat.le_refl _)
      conv => rhs; rw [← this]
      exact Le.refl _
    · rw [hcode]; exact Le.refl _
end Go.Proofs.Ytjoecebimleoaaa.V
