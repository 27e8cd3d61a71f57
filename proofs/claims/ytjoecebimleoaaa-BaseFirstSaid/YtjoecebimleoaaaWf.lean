/-
The functions that this seat's laws reach, walked: Rebuild (the program's).
-/
import Derived.Test.YtjoecebimleoaaaVu
import Derived.Test.YtjoecebimleoaaaWe
import Derived.Test.YtjoecebimleoaaaRb
namespace Go.Proofs.Ytjoecebimleoaaa.V
open Go Go.Proofs Go.RowKit
set_option linter.unusedVariables false
set_option linter.unusedSimpArgs false
set_option maxRecDepth 100000
set_option maxHeartbeats 1000000
def rbR (code : Int) : AV := .tup 3 (fun j => match j with | 0 => .row 0 | 1 => .row 1 | _ => .int .i64 code)
theorem leave_nil {C : Ctx} {env : Env} {h : Heap} {k : List Item} {fn : Func} {code : Int} {a b c : Nat} (h8 : env a = .nils) (h9 : env b = .nils) (h10 : env c = .int .i64 code) (hab : Nat.beq b a = false) (hac : Nat.beq c a = false) (hbc : Nat.beq c b = false)
    (hk : ∃ k', k = .code .ret :: k') (hR : C.R = PostF C.S C.w0 (rbR code) [tS.M 22 9 [], tB.M 23 4 []]) (hf : C.P.funcs[C.f]? = some fn) (hres : fn.results = ([a, b, c].map ResultVar.tmp).toArray) : Run C k env h := by
  refine Run.holdNil a 200 22 1 (fun _ _ => .nils) h8 ?_
  refine Run.holdNil b 201 23 1 (fun _ _ => .nils) ?_ ?_
  · simp only [upd, hab, cond_false, scrubE, h9]; rfl
  refine Run.asMat 200 0 9 1 (e := 22) (sz := 1) (n := 0) (get := fun _ _ => .nils) rfl (by decide) (fun i hi => absurd hi (Nat.not_lt_zero _)) ?_
  refine Run.asMat 201 0 4 1 (e := 23) (sz := 1) (n := 0) (get := fun _ _ => .nils) rfl (by decide) (fun i hi => absurd hi (Nat.not_lt_zero _)) ?_
  refine Run.leaveF (ts := [a,b,c]) [200,201] (.inr hk) hR hf hres (by decide) ?_ rfl ?_
  · exact ⟨⟨rfl, rfl, rfl, rfl, rfl, rfl, rfl, fun i j hi => absurd hi (Nat.not_lt_zero _), fun i hi => absurd hi (Nat.not_lt_zero _)⟩, ⟨rfl, rfl, rfl, rfl, rfl, rfl, rfl, fun i j hi => absurd hi (Nat.not_lt_zero _), fun i hi => absurd hi (Nat.not_lt_zero _)⟩, trivial⟩
  · have hne : ∀ {x y : Nat}, Nat.beq x y = false → x ≠ y := fun h e => by subst e; rw [Nat.beq_refl] at h; cases h
    refine Le.tup fun j hj => ?_
    match j, hj with
    | 0, _ =>
      show Le (mapRef (memL [200, 201]) (idxL [200, 201]) (scrubI 201 (scrubI 200 (upd (scrubE 201 (upd (scrubE 200 env) a (AV.row 200))) b (AV.row 201) a)))) (.row 0)
      rw [upd_other _ _ (fun e => hne hab e.symm)]
      show Le (mapRef (memL [200, 201]) (idxL [200, 201]) (scrubI 201 (scrubI 200 (scrub 201 (upd (scrubE 200 env) a (AV.row 200) a))))) (.row 0)
      rw [upd_same]; exact Le.refl _
    | 1, _ =>
      show Le (mapRef (memL [200, 201]) (idxL [200, 201]) (scrubI 201 (scrubI 200 (upd (scrubE 201 (upd (scrubE 200 env) a (AV.row 200))) b (AV.row 201) b)))) (.row 1)
      rw [upd_same]; exact Le.refl _
    | 2, _ =>
      show Le (mapRef (memL [200, 201]) (idxL [200, 201]) (scrubI 201 (scrubI 200 (upd (scrubE 201 (upd (scrubE 200 env) a (AV.row 200))) b (AV.row 201) c)))) (.int .i64 code)
      rw [upd_other _ _ (hne hbc)]
      show Le (mapRef (memL [200, 201]) (idxL [200, 201]) (scrubI 201 (scrubI 200 (scrub 201 (upd (scrubE 200 env) a (AV.row 200) c))))) (.int .i64 code)
      rw [upd_other _ _ (hne hac)]
      show Le (mapRef (memL [200, 201]) (idxL [200, 201]) (scrubI 201 (scrubI 200 (scrub 201 (scrub 200 (env c)))))) (.int .i64 code)
      rw [h10]; exact Le.refl _
theorem rb_bad {row : List ByteArray} {has : List Bool} {es : List En} {n : Int} {c : Int} (hc : rbCode row has es n = c) (h0 : c ≠ 0) {S : Nat → Prop} {w0 : World} :
    PostF S w0 (rbR (rbCode row has es n)) [tS.M 22 9 (rbRows row has es n), tB.M 23 4 (rbHas row has es n)] = PostF S w0 (rbR c) [tS.M 22 9 [], tB.M 23 4 []] := by
  unfold rbRows rbHas
  rw [hc, if_neg h0, if_neg h0]
theorem neqB {x : ByteArray} {y : Bool} (h : ((!decide (x = ⟨#[]⟩)) != y) = false) : y = decide (x ≠ ⟨#[]⟩) := by
  cases y <;> by_cases h9 : x = ⟨#[]⟩ <;> simp [h9] at h ⊢
theorem rebuild_fn (row : List ByteArray) (has : List Bool) (es : List En) (n : Int) : FnF Try.prog 7 [tS.L row, tB.L has, tEn.L es, .int .i64 n] (rbR (rbCode row has es n)) [tS.M 22 9 (rbRows row has es n), tB.M 23 4 (rbHas row has es n)] := by
  refine FnF.of Try.f7 _ Try.func7 rfl (by decide) (by show 4 ≤ _; decide) tbOk 137 rfl fun S w0 => ?_
  refine Run.go ?_; (conv => whnf); repeat' (first | ((with_reducible refine Know.mk fun _ => ?_); conv => whnf) | ((with_reducible refine Need.mk ?_ ?_); (first | omega | (dsimp only; omega) | exact bytes_le (by rfl) (by omega) | exact ⟨rfl, by omega, bytes_le (by rfl) (by omega), by omega⟩ | (refine ⟨?_, ?_⟩ <;> (rw [wrap64 (by omega) (by omega)]; omega))); conv => whnf) | ((with_reducible refine Any.mk fun b hb => ?_); conv => whnf) | ((with_reducible refine AskB.dec (fun hb => ?_) (fun hb => ?_)) <;> conv => whnf) | ((with_reducible refine AskB.ndec (fun hb => ?_) (fun hb => ?_)) <;> conv => whnf) | ((with_reducible refine AskB.mk (fun hb => ?_) (fun hb => ?_)) <;> conv => whnf) | ((with_reducible refine Run.drawX rfl (by decide +kernel) ?_); conv => whnf) | ((with_reducible refine Run.drawW rfl (by kernel_rfl) ?_); conv => whnf))
  iterate 3 (· exact leave_nil (a := 8) (b := 9) (c := 10) rfl rfl rfl rfl rfl rfl ⟨_, rfl⟩ (rb_bad (row := row) (has := has) (es := es) (n := n) (c := 2) (by unfold rbCode; rw [if_pos (by omega)]) (by decide)) Try.func7 rfl)
  rotate_left
  · exact leave_nil (a := 8) (b := 9) (c := 10) rfl rfl rfl rfl rfl rfl ⟨_, rfl⟩ (rb_bad (row := row) (has := has) (es := es) (n := n) (c := 2) (by unfold rbCode; rw [if_pos (by omega)]) (by decide)) Try.func7 rfl
  have hlen : row.length = has.length := by omega
  refine Run.loop [0,1,2,3,41,42] (fun i : Nat => [(43, .int .i64 (i : Int))]) (fun i => [])
    (fun i => i ≤ row.length ∧ ∀ j, j < i → has.getD j false = decide (row.getD j ⟨#[]⟩ ≠ ⟨#[]⟩)) (fun i => row.length - i) 0 ⟨Nat.zero_le _, fun j hj => absurd hj (Nat.not_lt_zero _)⟩ ⟨Le.refl _, trivial⟩ trivial ?_
  intro i ⟨hi, hok⟩ IH
  refine Run.go ?_; (conv => whnf); repeat' (first | ((with_reducible refine Know.mk fun _ => ?_); conv => whnf) | ((with_reducible refine Need.mk ?_ ?_); (first | omega | (dsimp only; omega) | exact bytes_le (by rfl) (by omega) | exact ⟨rfl, by omega, bytes_le (by rfl) (by omega), by omega⟩ | (refine ⟨?_, ?_⟩ <;> (rw [wrap64 (by omega) (by omega)]; omega))); conv => whnf) | ((with_reducible refine Any.mk fun b hb => ?_); conv => whnf) | ((with_reducible refine AskB.dec (fun hb => ?_) (fun hb => ?_)) <;> conv => whnf) | ((with_reducible refine AskB.ndec (fun hb => ?_) (fun hb => ?_)) <;> conv => whnf) | ((with_reducible refine AskB.mk (fun hb => ?_) (fun hb => ?_)) <;> conv => whnf) | ((with_reducible refine Run.drawX rfl (by decide +kernel) ?_); conv => whnf) | ((with_reducible refine Run.drawW rfl (by kernel_rfl) ?_); conv => whnf))
  · exact leave_nil (a := 8) (b := 9) (c := 10) rfl rfl rfl rfl rfl rfl ⟨_, rfl⟩ (rb_bad (row := row) (has := has) (es := es) (n := n) (c := 2) (by
      rw [Int.toNat_natCast] at hb
      unfold rbCode; rw [if_neg (by omega), if_pos (fun hr => ?_)]
      have := hr i (by omega)
      rw [show tB.z = false from rfl, show tS.z = ⟨#[]⟩ from rfl, this] at hb
      by_cases h9 : row.getD i ⟨#[]⟩ = ⟨#[]⟩ <;> simp [h9] at hb) (by decide)) Try.func7 rfl
  · refine Run.to _ _ ?_ ?_ (IH (i+1) (by omega) ⟨by omega, fun j hj => ?_⟩)
    · exact ⟨Le.refl _, Le.refl _, Le.refl _, Le.refl _, Le.refl _, Le.refl _, Le.wrap64 (by omega) (by omega) (by omega), trivial⟩
    · exact trivial
    · rcases Nat.lt_or_ge j i with h | h
      · exact hok j h
      · have : j = i := by omega
        subst this
        rw [Int.toNat_natCast] at hb
        exact neqB hb
  · have hR : rowOk row has := fun j hj => hok j (by omega)
    refine Run.callAX (check_fn es n row.length) rfl rfl (ArgsLe.of_eq rfl) rfl rfl rfl ?_
    (conv => whnf); repeat' (first | ((with_reducible refine Know.mk fun _ => ?_); conv => whnf) | ((with_reducible refine Need.mk ?_ ?_); (first | omega | (dsimp only; omega) | exact bytes_le (by rfl) (by omega) | exact ⟨rfl, by omega, bytes_le (by rfl) (by omega), by omega⟩ | (refine ⟨?_, ?_⟩ <;> (rw [wrap64 (by omega) (by omega)]; omega))); conv => whnf) | ((with_reducible refine Any.mk fun b hb => ?_); conv => whnf) | ((with_reducible refine AskB.dec (fun hb => ?_) (fun hb => ?_)) <;> conv => whnf) | ((with_reducible refine AskB.ndec (fun hb => ?_) (fun hb => ?_)) <;> conv => whnf) | ((with_reducible refine AskB.mk (fun hb => ?_) (fun hb => ?_)) <;> conv => whnf) | ((with_reducible refine Run.drawX rfl (by decide +kernel) ?_); conv => whnf) | ((with_reducible refine Run.drawW rfl (by kernel_rfl) ?_); conv => whnf))
    rotate_left
    · exact leave_nil (a := 8) (b := 9) (c := 10) rfl rfl rfl rfl rfl rfl ⟨_, rfl⟩ (rb_bad (row := row) (has := has) (es := es) (n := n) (c := 170) (by
        unfold rbCode; rw [if_neg (by omega), if_neg (fun h => h hR), if_neg (fun h => ?_)]
        refine hb ?_
        unfold chk; rw [if_neg (by omega), if_pos h.1]) (by decide)) Try.func7 rfl
    refine Run.asMat 63 0 9 1 rfl (by decide) (fun i hi => rfl) ?_
    refine Run.asMat 65 0 4 1 rfl (by decide) (fun i hi => rfl) ?_
    refine Run.loop [0, 1, 2, 13, 14, 66] (fun k : Nat => [(67, .int .i64 (k : Int))]) (fun k => [(63, tS.M 22 9 (List.replicate k row ++ List.replicate (n.toNat - k) [])), (65, tB.M 23 4 (List.replicate k has ++ List.replicate (n.toNat - k) []))])
      (fun k => k ≤ n.toNat) (fun k => n.toNat - k) 0 (Nat.zero_le _) ⟨Le.refl _, trivial⟩ ⟨?_, ?_, trivial⟩ ?_
    · exact tS.M_nils 22 9 n.toNat _ _
    · exact tB.M_nils 23 4 n.toNat _ _
    intro k hk IHk
    refine Run.go ?_; (conv => whnf); repeat' (first | ((with_reducible refine Know.mk fun _ => ?_); conv => whnf) | ((with_reducible refine Need.mk ?_ ?_); (first | omega | (dsimp only; omega) | exact bytes_le (by rfl) (by omega) | exact ⟨rfl, by omega, bytes_le (by rfl) (by omega), by omega⟩ | (refine ⟨?_, ?_⟩ <;> (rw [wrap64 (by omega) (by omega)]; omega))); conv => whnf) | ((with_reducible refine Any.mk fun b hb => ?_); conv => whnf) | ((with_reducible refine AskB.dec (fun hb => ?_) (fun hb => ?_)) <;> conv => whnf) | ((with_reducible refine AskB.ndec (fun hb => ?_) (fun hb => ?_)) <;> conv => whnf) | ((with_reducible refine AskB.mk (fun hb => ?_) (fun hb => ?_)) <;> conv => whnf) | ((with_reducible refine Run.drawX rfl (by decide +kernel) ?_); conv => whnf) | ((with_reducible refine Run.drawW rfl (by kernel_rfl) ?_); conv => whnf))
    · have hl1 : (List.replicate k row ++ List.replicate (n.toNat - k) []).length = n.toNat := by simp; omega
      have hl2 : (List.replicate k has ++ List.replicate (n.toNat - k) []).length = n.toNat := by simp; omega
      refine Run.callFA 200 (clone_fn row (by omega)) rfl rfl (ArgsLe.of_eq rfl) rfl rfl rfl (fun m hm => ?_) ?_
      · simp only [List.mem_singleton] at hm; subst hm; exact fun i j _ _ => rfl
      (conv => whnf); repeat' (first | ((with_reducible refine Know.mk fun _ => ?_); conv => whnf) | ((with_reducible refine Need.mk ?_ ?_); (first | omega | (dsimp only; omega) | exact bytes_le (by rfl) (by omega) | exact ⟨rfl, by omega, bytes_le (by rfl) (by omega), by omega⟩ | (refine ⟨?_, ?_⟩ <;> (rw [wrap64 (by omega) (by omega)]; omega))); conv => whnf) | ((with_reducible refine Any.mk fun b hb => ?_); conv => whnf) | ((with_reducible refine AskB.dec (fun hb => ?_) (fun hb => ?_)) <;> conv => whnf) | ((with_reducible refine AskB.ndec (fun hb => ?_) (fun hb => ?_)) <;> conv => whnf) | ((with_reducible refine AskB.mk (fun hb => ?_) (fun hb => ?_)) <;> conv => whnf) | ((with_reducible refine Run.drawX rfl (by decide +kernel) ?_); conv => whnf) | ((with_reducible refine Run.drawW rfl (by kernel_rfl) ?_); conv => whnf))
      refine Run.callFA 201 (cloneB_fn has (by omega)) rfl rfl (ArgsLe.of_eq rfl) rfl rfl rfl (fun m hm => ?_) ?_
      · simp only [List.mem_singleton] at hm; subst hm; exact fun i j _ _ => rfl
      (conv => whnf); repeat' (first | ((with_reducible refine Know.mk fun _ => ?_); conv => whnf) | ((with_reducible refine Need.mk ?_ ?_); (first | omega | (dsimp only; omega) | exact bytes_le (by rfl) (by omega) | exact ⟨rfl, by omega, bytes_le (by rfl) (by omega), by omega⟩ | (refine ⟨?_, ?_⟩ <;> (rw [wrap64 (by omega) (by omega)]; omega))); conv => whnf) | ((with_reducible refine Any.mk fun b hb => ?_); conv => whnf) | ((with_reducible refine AskB.dec (fun hb => ?_) (fun hb => ?_)) <;> conv => whnf) | ((with_reducible refine AskB.ndec (fun hb => ?_) (fun hb => ?_)) <;> conv => whnf) | ((with_reducible refine AskB.mk (fun hb => ?_) (fun hb => ?_)) <;> conv => whnf) | ((with_reducible refine Run.drawX rfl (by decide +kernel) ?_); conv => whnf) | ((with_reducible refine Run.drawW rfl (by kernel_rfl) ?_); conv => whnf))
      refine Run.to _ _ ?_ ?_ (IHk (k+1) (by omega) (by omega))
      · exact ⟨Le.refl _, Le.refl _, Le.refl _, Le.refl _, Le.refl _, Le.refl _, Le.wrap64 (by omega) (by omega) (by omega), trivial⟩
      · refine ⟨?_, ?_, trivial⟩
        · rw [← rep_set row [] (by omega : k < n.toNat)]
          exact tS.M_plug 22 9 _ _ _ row _ _ (by omega) rfl (fun _ _ _ _ => Le.refl _)
        · rw [← rep_set has [] (by omega : k < n.toNat)]
          exact tB.M_plug 23 4 _ _ _ has _ _ (by omega) rfl (fun _ _ _ _ => Le.refl _)
    have hkn : k = n.toNat := by omega
    subst hkn
    have hG : Good n row.length es := by
      have hb0 : chk es n row.length = 0 := by assumption
      refine Classical.byContradiction fun hg => ?_
      unfold chk at hb0
      rw [if_neg (by omega), if_neg hg] at hb0
      exact absurd hb0 (by decide)
    clear IHk
    refine Run.loop [0, 13, 14, 81, 82] (fun i : Nat => [(83, .int .i64 (i : Int))]) (fun i => [(63, tS.M 22 9 (rowsT n (says (es.take i)) row)), (65, tB.M 23 4 (rowsH n (says (es.take i)) has))])
      (fun i => i ≤ es.length ∧ ∀ q, q < i → ((es.getD q tEn.z).rds.getD 0 tRd.z).text = row.getD (es.getD q tEn.z).col.toNat ByteArray.empty) (fun i => es.length - i) 0 ⟨Nat.zero_le _, fun q hq => absurd hq (Nat.not_lt_zero _)⟩ ⟨Le.refl _, trivial⟩ ⟨?_, ?_, trivial⟩ ?_
    · rw [show says (es.take 0) = [] from rfl, rowsT_nil]; simp only [Nat.sub_self, List.replicate_zero, List.append_nil]; exact MOle.refl _
    · rw [show says (es.take 0) = [] from rfl, rowsH_nil]; simp only [Nat.sub_self, List.replicate_zero, List.append_nil]; exact MOle.refl _
    intro i ⟨hi, hf⟩ IHi
    have hen : i < es.length → 0 ≤ (es.getD (↑i : Int).toNat tEn.z).col ∧ (es.getD (↑i : Int).toNat tEn.z).col < row.length ∧ 2 ≤ (es.getD (↑i : Int).toNat tEn.z).rds.length := fun h => by
      rw [Int.toNat_natCast]
      have := hG.each _ (getD_mem (z := tEn.z) i h)
      exact ⟨this.1, this.2.1, this.2.2.2.1⟩
    refine Run.go ?_; (conv => whnf); repeat' (first | ((with_reducible refine Know.mk fun _ => ?_); conv => whnf) | ((with_reducible refine Need.mk ?_ ?_); (first | omega | (dsimp only; omega) | exact bytes_le (by rfl) (by omega) | exact ⟨rfl, by omega, bytes_le (by rfl) (by omega), by omega⟩ | (refine ⟨?_, ?_⟩ <;> (rw [wrap64 (by omega) (by omega)]; omega))); conv => whnf) | ((with_reducible refine Any.mk fun b hb => ?_); conv => whnf) | ((with_reducible refine AskB.dec (fun hb => ?_) (fun hb => ?_)) <;> conv => whnf) | ((with_reducible refine AskB.ndec (fun hb => ?_) (fun hb => ?_)) <;> conv => whnf) | ((with_reducible refine AskB.mk (fun hb => ?_) (fun hb => ?_)) <;> conv => whnf) | ((with_reducible refine Run.drawX rfl (by decide +kernel) ?_); conv => whnf) | ((with_reducible refine Run.drawW rfl (by kernel_rfl) ?_); conv => whnf))
    · have hil : i < es.length := by omega
      obtain ⟨hc0, hc1, hc2⟩ := hen hil
      have hRt : Right n (es.getD (↑i : Int).toNat tEn.z).rds := by rw [Int.toNat_natCast]; exact (hG.each _ (getD_mem (z := tEn.z) i hil)).2.2
      have hsay := says_take es i hil
      rw [← Int.toNat_natCast i] at hsay
      generalize he : es.getD (↑i : Int).toNat tEn.z = e at *
      refine Run.loop [0, 13, 14, 17, 81, 82, 83, 100, 101] (fun k : Nat => [(102, .int .i64 (k : Int))])
        (fun k => [(17, .box 39 [.int .i64 e.col, tRd.L e.rds]), (63, tS.M 22 9 (rowsT n (says (es.take i) ++ (e.rds.take k).flatMap (sayR e.col.toNat)) row)), (65, tB.M 23 4 (rowsH n (says (es.take i) ++ (e.rds.take k).flatMap (sayR e.col.toNat)) has))])
        (fun k => k ≤ e.rds.length) (fun k => e.rds.length - k) 0 (Nat.zero_le _) ⟨Le.refl _, trivial⟩ ⟨?_, ?_, ?_, trivial⟩ ?_
      · rw [← he]; exact MOle.refl _
      · rw [List.take_zero, List.flatMap_nil, List.append_nil]; exact MOle.refl _
      · rw [List.take_zero, List.flatMap_nil, List.append_nil]; exact MOle.refl _
      intro k hk IHk
      refine Run.go ?_; (conv => whnf); repeat' (first | ((with_reducible refine Know.mk fun _ => ?_); conv => whnf) | ((with_reducible refine Need.mk ?_ ?_); (first | omega | (dsimp only; omega) | exact bytes_le (by rfl) (by omega) | exact ⟨rfl, by omega, bytes_le (by rfl) (by omega), by omega⟩ | (refine ⟨?_, ?_⟩ <;> (rw [wrap64 (by omega) (by omega)]; omega))); conv => whnf) | ((with_reducible refine Any.mk fun b hb => ?_); conv => whnf) | ((with_reducible refine AskB.dec (fun hb => ?_) (fun hb => ?_)) <;> conv => whnf) | ((with_reducible refine AskB.ndec (fun hb => ?_) (fun hb => ?_)) <;> conv => whnf) | ((with_reducible refine AskB.mk (fun hb => ?_) (fun hb => ?_)) <;> conv => whnf) | ((with_reducible refine Run.drawX rfl (by decide +kernel) ?_); conv => whnf) | ((with_reducible refine Run.drawW rfl (by kernel_rfl) ?_); conv => whnf))
      · have hkl : k < e.rds.length := by omega
        have hRd := hRt.1.each _ (getD_mem (z := tRd.z) k hkl)
        have hsayE := sayE_take e.col.toNat e.rds k hkl
        rw [← Int.toNat_natCast k] at hRd hsayE
        generalize hr : e.rds.getD (↑k : Int).toNat tRd.z = r at *
        refine Run.loop [0, 13, 14, 17, 20, 81, 82, 83, 100, 101, 102, 107, 108] (fun m : Nat => [(109, .int .i64 (m : Int))])
          (fun m => [(17, .box 39 [.int .i64 e.col, tRd.L e.rds]), (20, .box 42 [.bool r.none, .str r.text, tI.L r.wits]),
            (63, tS.M 22 9 (rowsT n (says (es.take i) ++ (e.rds.take k).flatMap (sayR e.col.toNat) ++ (r.wits.take m).map (fun w => (⟨w, e.col.toNat, r.text, !r.none⟩ : Sayn))) row)),
            (65, tB.M 23 4 (rowsH n (says (es.take i) ++ (e.rds.take k).flatMap (sayR e.col.toNat) ++ (r.wits.take m).map (fun w => (⟨w, e.col.toNat, r.text, !r.none⟩ : Sayn))) has))])
          (fun m => m ≤ r.wits.length) (fun m => r.wits.length - m) 0 (Nat.zero_le _) ⟨Le.refl _, trivial⟩ ⟨MOle.refl _, ?_, ?_, ?_, trivial⟩ ?_
        · rw [← hr]; exact MOle.refl _
        · rw [List.take_zero, List.map_nil, List.append_nil]; exact MOle.refl _
        · rw [List.take_zero, List.map_nil, List.append_nil]; exact MOle.refl _
        intro m hm IHm
        generalize hd : says (es.take i) ++ (e.rds.take k).flatMap (sayR e.col.toNat) ++ (r.wits.take m).map (fun w => (⟨w, e.col.toNat, r.text, !r.none⟩ : Sayn)) = d at *
        have hw : m < r.wits.length → 0 ≤ r.wits.getD (↑m : Int).toNat tI.z ∧ r.wits.getD (↑m : Int).toNat tI.z < n := fun h => hRd.rng _ (getD_mem (z := 0) m h)
        have hl1 := rowsT_len n d row
        have hl2 := rowsH_len n d has
        have hl3 : m < r.wits.length → ((rowsT n d row).getD (r.wits.getD (↑m : Int).toNat tI.z).toNat []).length = row.length := fun h => by rw [rowsT_at d row (by have := hw h; omega), appT_len]
        have hl4 : m < r.wits.length → ((rowsH n d has).getD (r.wits.getD (↑m : Int).toNat tI.z).toNat []).length = row.length := fun h => by rw [rowsH_at d has (by have := hw h; omega), appH_len, hlen]
        refine Run.go ?_; (conv => whnf); repeat' (first | ((with_reducible refine Know.mk fun _ => ?_); conv => whnf) | ((with_reducible refine Need.mk ?_ ?_); (first | omega | (dsimp only; omega) | exact bytes_le (by rfl) (by omega) | exact ⟨rfl, by omega, bytes_le (by rfl) (by omega), by omega⟩ | (refine ⟨?_, ?_⟩ <;> (rw [wrap64 (by omega) (by omega)]; omega))); conv => whnf) | ((with_reducible refine Any.mk fun b hb => ?_); conv => whnf) | ((with_reducible refine AskB.dec (fun hb => ?_) (fun hb => ?_)) <;> conv => whnf) | ((with_reducible refine AskB.ndec (fun hb => ?_) (fun hb => ?_)) <;> conv => whnf) | ((with_reducible refine AskB.mk (fun hb => ?_) (fun hb => ?_)) <;> conv => whnf) | ((with_reducible refine Run.drawX rfl (by decide +kernel) ?_); conv => whnf) | ((with_reducible refine Run.drawW rfl (by kernel_rfl) ?_); conv => whnf))
        · obtain ⟨w0', w1'⟩ := hw (by omega)
          have hml : m < r.wits.length := by omega
          have hd2 : says (es.take i) ++ (e.rds.take k).flatMap (sayR e.col.toNat) ++ (r.wits.take (m + 1)).map (fun w => (⟨w, e.col.toNat, r.text, !r.none⟩ : Sayn)) = d ++ [⟨r.wits.getD m 0, e.col.toNat, r.text, !r.none⟩] := by
            rw [sayR_take _ _ _ hml, ← List.append_assoc, hd]
          refine Run.to _ _ ?_ ?_ (IHm (m + 1) (by omega) (by omega))
          · exact ⟨Le.refl _, Le.refl _, Le.refl _, Le.refl _, Le.refl _, Le.refl _, Le.refl _, Le.refl _, Le.refl _, Le.refl _, Le.refl _, Le.refl _, Le.refl _, Le.wrap64 (by omega) (by omega) (by omega), trivial⟩
          · refine ⟨MOle.refl _, MOle.refl _, ?_, ?_, trivial⟩
            · rw [hd2, ← rowsT_say d row ⟨r.wits.getD m 0, e.col.toNat, r.text, !r.none⟩ w0' w1']
              exact tS.M_set 22 9 _ _ _ _ _ _ (by have := hl3 hml; rw [Int.toNat_natCast] at this; show _ < ((rowsT n d row).getD (r.wits.getD m 0).toNat []).length; rw [show (r.wits.getD m 0).toNat = (r.wits.getD m tI.z).toNat from rfl, this]; omega) rfl (Le.one (Le.refl _))
            · rw [hd2, ← rowsH_say d has ⟨r.wits.getD m 0, e.col.toNat, r.text, !r.none⟩ w0' w1']
              exact tB.M_set 23 4 _ _ _ _ _ _ (by have := hl4 hml; rw [Int.toNat_natCast] at this; show _ < ((rowsH n d has).getD (r.wits.getD m 0).toNat []).length; rw [show (r.wits.getD m 0).toNat = (r.wits.getD m tI.z).toNat from rfl, this]; omega) rfl (Le.one (Le.refl _))
        · have hmw : m = r.wits.length := by omega
          subst hmw
          rw [List.take_length] at hd
          have hd2 : says (es.take i) ++ (e.rds.take (k + 1)).flatMap (sayR e.col.toNat) = d := by
            rw [Int.toNat_natCast] at hsayE
            rw [hsayE, ← List.append_assoc, ← hd]; rfl
          refine Run.to _ _ ?_ ?_ (IHk (k + 1) (by omega) (by omega))
          · exact ⟨Le.refl _, Le.refl _, Le.refl _, Le.refl _, Le.refl _, Le.refl _, Le.refl _, Le.refl _, Le.refl _, Le.wrap64 (by omega) (by omega) (by omega), trivial⟩
          · rw [hd2]; exact ⟨MOle.refl _, MOle.refl _, MOle.refl _, trivial⟩
      · have hke : k = e.rds.length := by omega
        subst hke
        have hd2 : says (es.take (i + 1)) = says (es.take i) ++ (e.rds.take e.rds.length).flatMap (sayR e.col.toNat) := by
          rw [Int.toNat_natCast] at hsay
          rw [hsay, List.take_length]; rfl
        refine Run.to _ _ ?_ ?_ (IHi (i + 1) (by omega) ⟨by omega, fun q hq => ?_⟩)
        · exact ⟨Le.refl _, Le.refl _, Le.refl _, Le.refl _, Le.refl _, Le.wrap64 (by omega) (by omega) (by omega), trivial⟩
        · rw [hd2]; exact ⟨MOle.refl _, MOle.refl _, trivial⟩
        · rcases Nat.lt_or_ge q i with h | h
          · exact hf q h
          · have : q = i := by omega
            subst this
            rw [Int.toNat_natCast] at he
            rw [he]; assumption
    · exact leave_nil (a := 8) (b := 9) (c := 10) rfl rfl rfl rfl rfl rfl ⟨_, rfl⟩ (rb_bad (row := row) (has := has) (es := es) (n := n) (c := 170) (by
        unfold rbCode; rw [if_neg (by omega), if_neg (fun h => h hR), if_neg (fun h => ?_)]
        rw [Int.toNat_natCast] at hb
        exact hb ((row_first hR hG).mp h.2 i (by omega))) (by decide)) Try.func7 rfl
    · have hie : i = es.length := by omega
      subst hie
      have hcode : rbCode row has es n = 0 := by
        unfold rbCode; rw [if_neg (by omega), if_neg (fun h => h hR), if_pos ⟨hG, (row_first hR hG).mpr hf⟩]
      rw [List.take_length]
      refine Run.leaveF (ts := [8, 9, 10]) [63, 65] (.inr ⟨_, rfl⟩) rfl Try.func7 rfl (by decide) ⟨?_, ?_, trivial⟩ rfl ?_
      · unfold rbRows; rw [if_pos hcode]; exact MOle.refl _
      · unfold rbHas; rw [if_pos hcode]; exact MOle.refl _
      · rw [hcode]
        refine Le.tup fun j hj => ?_
        match j, hj with
        | 0, _ => exact Le.refl _
        | 1, _ => exact Le.refl _
        | 2, _ => exact Le.refl _
end Go.Proofs.Ytjoecebimleoaaa.V
