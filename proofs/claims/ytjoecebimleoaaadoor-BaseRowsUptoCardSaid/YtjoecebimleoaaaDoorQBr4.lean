/-
The texts BBa, BBd, BBf, BBi, BTe, of each what the law needs.
-/
import Derived.Test.YtjoecebimleoaaaDoorQBr3
namespace Go.Proofs.YtjoecebimleoaaaDoor.V
set_option linter.unusedVariables false
set_option linter.unusedSimpArgs false
open Go

/-- One thing that a reading says: of a witness, at a column, a text; whether there is one. -/
structure Sayn where
  w : Int
  c : Nat
  t : ByteArray
  h : Bool
def sayR (c : Nat) (r : Rd) : List Sayn := r.wits.map fun w => ⟨w, c, r.text, !r.none⟩
def sayE (e : En) : List Sayn := e.rds.flatMap (sayR e.col.toNat)
def says (es : List En) : List Sayn := es.flatMap sayE
def appT (w : Int) (l : List Sayn) (row : List ByteArray) : List ByteArray := l.foldl (fun acc s => if s.w = w then acc.set s.c s.t else acc) row
def appH (w : Int) (l : List Sayn) (has : List Bool) : List Bool := l.foldl (fun acc s => if s.w = w then acc.set s.c s.h else acc) has
def rowOk (row : List ByteArray) (has : List Bool) : Prop := ∀ i, i < row.length → has.getD i false = decide (row.getD i ⟨#[]⟩ ≠ ⟨#[]⟩)
def firstOk (row : List ByteArray) (has : List Bool) (es : List En) : Prop := ∀ e ∈ es, (e.rds.getD 0 rd0).none ≠ has.getD e.col.toNat false ∧ (e.rds.getD 0 rd0).text = row.getD e.col.toNat ByteArray.empty
noncomputable def rbCode (row : List ByteArray) (has : List Bool) (es : List En) (n : Int) : Int :=
  open Classical in
  if n < 1 ∨ 12 < n ∨ row.length ≠ has.length ∨ 4096 < row.length then 2 else if ¬ rowOk row has then 2 else if Good n row.length es ∧ firstOk row has es then 0 else 170
def rowsT (n : Int) (l : List Sayn) (row : List ByteArray) : List (List ByteArray) := (List.range n.toNat).map fun (w : Nat) => appT w l row
def rowsH (n : Int) (l : List Sayn) (has : List Bool) : List (List Bool) := (List.range n.toNat).map fun (w : Nat) => appH w l has
noncomputable def rbRows (row : List ByteArray) (has : List Bool) (es : List En) (n : Int) : List (List ByteArray) :=
  if rbCode row has es n = 0 then rowsT n (says es) row else []
noncomputable def rbHas (row : List ByteArray) (has : List Bool) (es : List En) (n : Int) : List (List Bool) :=
  if rbCode row has es n = 0 then rowsH n (says es) has else []
theorem appT_len (w : Int) (l : List Sayn) (row : List ByteArray) : (appT w l row).length = row.length := by
  unfold appT
  induction l generalizing row with
  | nil => rfl
  | cons s l ih => rw [List.foldl_cons, ih]; split <;> simp
theorem appH_len (w : Int) (l : List Sayn) (row : List Bool) : (appH w l row).length = row.length := by
  unfold appH
  induction l generalizing row with
  | nil => rfl
  | cons s l ih => rw [List.foldl_cons, ih]; split <;> simp


theorem rowsT_len (n : Int) (l : List Sayn) (row : List ByteArray) : (rowsT n l row).length = n.toNat := by simp [rowsT]
theorem rowsH_len (n : Int) (l : List Sayn) (row : List Bool) : (rowsH n l row).length = n.toNat := by simp [rowsH]
theorem rowsT_at {n : Int} (l : List Sayn) (row : List ByteArray) {w : Nat} (h : w < n.toNat) : (rowsT n l row).getD w [] = appT w l row := by simp [rowsT, List.getD, h]
theorem rowsH_at {n : Int} (l : List Sayn) (row : List Bool) {w : Nat} (h : w < n.toNat) : (rowsH n l row).getD w [] = appH w l row := by simp [rowsH, List.getD, h]
theorem rowsT_say {n : Int} (l : List Sayn) (row : List ByteArray) (s : Sayn) (h0 : 0 ≤ s.w) (h1 : s.w < n) : (rowsT n l row).set s.w.toNat (((rowsT n l row).getD s.w.toNat []).set s.c s.t) = rowsT n (l ++ [s]) row := by
  rw [rowsT_at l row (by omega : s.w.toNat < n.toNat)]
  refine List.ext_getElem (by simp [rowsT]) fun i h2 h3 => ?_
  have hi : i < n.toNat := by simpa [rowsT] using h3
  have e1 : (rowsT n (l ++ [s]) row)[i] = if s.w = (i : Int) then (appT i l row).set s.c s.t else appT i l row := by
    simp [rowsT, appT, List.foldl_append]
  rw [e1, List.getElem_set]
  by_cases e : s.w.toNat = i
  · have e2 : s.w = (i : Int) := by omega
    rw [if_pos e, if_pos e2, e]
  · have e2 : ¬ s.w = (i : Int) := by omega
    rw [if_neg e, if_neg e2]; simp [rowsT]
theorem rowsH_say {n : Int} (l : List Sayn) (row : List Bool) (s : Sayn) (h0 : 0 ≤ s.w) (h1 : s.w < n) : (rowsH n l row).set s.w.toNat (((rowsH n l row).getD s.w.toNat []).set s.c s.h) = rowsH n (l ++ [s]) row := by
  rw [rowsH_at l row (by omega : s.w.toNat < n.toNat)]
  refine List.ext_getElem (by simp [rowsH]) fun i h2 h3 => ?_
  have hi : i < n.toNat := by simpa [rowsH] using h3
  have e1 : (rowsH n (l ++ [s]) row)[i] = if s.w = (i : Int) then (appH i l row).set s.c s.h else appH i l row := by
    simp [rowsH, appH, List.foldl_append]
  rw [e1, List.getElem_set]
  by_cases e : s.w.toNat = i
  · have e2 : s.w = (i : Int) := by omega
    rw [if_pos e, if_pos e2, e]
  · have e2 : ¬ s.w = (i : Int) := by omega
    rw [if_neg e, if_neg e2]; simp [rowsH]
theorem rowsT_nil (n : Int) (row : List ByteArray) : rowsT n [] row = List.replicate n.toNat row := by
  refine List.ext_getElem (by simp [rowsT]) fun i h2 h3 => by simp [rowsT, appT]
theorem rowsH_nil (n : Int) (row : List Bool) : rowsH n [] row = List.replicate n.toNat row := by
  refine List.ext_getElem (by simp [rowsH]) fun i h2 h3 => by simp [rowsH, appH]
theorem says_take (es : List En) (i : Nat) (h : i < es.length) : says (es.take (i + 1)) = says (es.take i) ++ sayE (es.getD i tEn.z) := by
  unfold says; rw [take_get tEn.z es i h]; simp
theorem sayE_take (c : Nat) (rds : List Rd) (i : Nat) (h : i < rds.length) : (rds.take (i + 1)).flatMap (sayR c) = (rds.take i).flatMap (sayR c) ++ sayR c (rds.getD i tRd.z) := by
  rw [take_get tRd.z rds i h]; simp
theorem sayR_take (c : Nat) (r : Rd) (i : Nat) (h : i < r.wits.length) : (r.wits.take (i + 1)).map (fun w => (⟨w, c, r.text, !r.none⟩ : Sayn)) = (r.wits.take i).map (fun w => ⟨w, c, r.text, !r.none⟩) ++ [⟨r.wits.getD i 0, c, r.text, !r.none⟩] := by
  rw [take_get 0 r.wits i h]; simp
theorem rep_set {α : Type} {n k : Nat} (a b : α) (h : k < n) : (List.replicate k a ++ List.replicate (n - k) b).set k a = List.replicate (k + 1) a ++ List.replicate (n - (k + 1)) b := by
  refine List.ext_getElem (by simp; omega) fun i h1 h2 => ?_
  rw [List.getElem_set]
  by_cases e : k = i
  · subst e; rw [if_pos rfl, List.getElem_append_left (by simp)]; simp
  · rw [if_neg e]
    rcases Nat.lt_or_ge i k with h3 | h3
    · rw [List.getElem_append_left (by simpa using h3), List.getElem_append_left (by simp; omega)]; simp
    · rw [List.getElem_append_right (by simpa using h3), List.getElem_append_right (by simp; omega)]; simp
theorem row_first {row : List ByteArray} {has : List Bool} {n : Int} {es : List En} (hr : rowOk row has) (hg : Good n row.length es) : firstOk row has es ↔ ∀ q, q < es.length → ((es.getD q tEn.z).rds.getD 0 tRd.z).text = row.getD (es.getD q tEn.z).col.toNat ByteArray.empty := by
  constructor
  · intro h q hq
    exact (h _ (getD_mem (z := tEn.z) q hq)).2
  · intro h e he
    obtain ⟨q, hq, rfl⟩ := List.getElem_of_mem he
    have e1 : es.getD q tEn.z = es[q] := by simp [List.getD, hq]
    have h1 := h q hq
    rw [e1] at h1
    obtain ⟨h2, h3, h4⟩ := hg.each _ he
    have h5 : 0 < es[q].rds.length := by have := h4.2.1; omega
    have h6 := (h4.1.each _ (getD_mem (z := tRd.z) 0 h5)).nons
    refine ⟨?_, h1⟩
    have h7 := hr es[q].col.toNat (by omega)
    have h8 : es[q].rds.getD 0 rd0 = es[q].rds.getD 0 tRd.z := rfl
    rw [h7, h8, h6, h1]
    show decide (row.getD es[q].col.toNat ⟨#[]⟩ = ⟨#[]⟩) ≠ decide (row.getD es[q].col.toNat ⟨#[]⟩ ≠ ⟨#[]⟩)
    by_cases h9 : row.getD es[q].col.toNat ⟨#[]⟩ = ⟨#[]⟩ <;> simp [h9]
end Go.Proofs.YtjoecebimleoaaaDoor.V

namespace Go.Proofs.YtjoecebimleoaaaDoor.V
set_option linter.unusedVariables false
set_option linter.unusedSimpArgs false
open Go Go.Proofs Go.RowKit
set_option maxRecDepth 100000
set_option maxHeartbeats 1000000
def rbR (code : Int) : AV := .tup 3 (fun j => match j with | 0 => .row 0 | 1 => .row 1 | _ => .int .i64 code)
theorem leave_nil {C : Ctx} {env : Env} {h : Heap} {k : List Item} {fn : Func} {code : Int} {a b c : Nat} (h8 : env a = .nils) (h9 : env b = .nils) (h10 : env c = .int .i64 code) (hab : Nat.beq b a = false) (hac : Nat.beq c a = false) (hbc : Nat.beq c b = false)
    (hk : ∃ k', k = .code .ret :: k') (hR : C.R = PostF C.S C.w0 (rbR code) [tS.M 27 9 [], tB.M 28 4 []]) (hf : C.P.funcs[C.f]? = some fn) (hres : fn.results = ([a, b, c].map ResultVar.tmp).toArray) : Run C k env h := by
  refine Run.holdNil a 200 27 1 (fun _ _ => .nils) h8 ?_
  refine Run.holdNil b 201 28 1 (fun _ _ => .nils) ?_ ?_
  · simp only [upd, hab, cond_false, scrubE, h9]; rfl
  refine Run.asMat 200 0 9 1 (e := 27) (sz := 1) (n := 0) (get := fun _ _ => .nils) rfl (by decide) (fun i hi => absurd hi (Nat.not_lt_zero _)) ?_
  refine Run.asMat 201 0 4 1 (e := 28) (sz := 1) (n := 0) (get := fun _ _ => .nils) rfl (by decide) (fun i hi => absurd hi (Nat.not_lt_zero _)) ?_
  refine Run.leaveF (ts := [a,b,c]) [200,201] (.inr hk) hR hf hres (by decide) ?_ rfl ?_
  · exact ⟨⟨rfl, rfl, rfl, rfl, rfl, rfl, rfl, fun i j hi => absurd hi (Nat.not_lt_zero _), fun i hi => absurd hi (Nat.not_lt_zero _)⟩, ⟨rfl, rfl, rfl, rfl, rfl, rfl, rfl, fun i j hi => absurd hi (Nat.not_lt_zero _), fun i hi => absurd hi (Nat.not_lt_zero _)⟩, trivial⟩
  · have hne : ∀ {x y : Nat}, Nat.beq x y = false → x ≠ y := fun h e => by subst e; rw [Nat.beq_refl] at h; cases h
    refine Le.tup fun j hj => ?_
    match j, hj with
    | 0, _ =>
      show Le (mapRef (memL [200, 201]) (idxL [200, 201]) (scrubI 201 (scrubI 200 (upd (scrubE 201 (upd (scrubE 200 env) a (AV.row 200))) b (AV.row 201) a)))) (.row 0)
      rw [upd_other _ _ (fun e => hne hab e.symm)]
      show Le (mapRef (memL [200, 201]) (idxL [200, 201]) (scrubI 201 (scrubI 200 (scrub 201 (upd (scrubE 200 env) a (AV.row 200) a))))) (.row 0)
      rw [upd_same]; exact Le.refl _
    | 1, _ =>
      show Le (mapRef (memL [200, 201]) (idxL [200, 201]) (scrubI 201 (scrubI 200 (upd (scrubE 201 (upd (scrubE 200 env) a (AV.row 200))) b (AV.row 201) b)))) (.row 1)
      rw [upd_same]; exact Le.refl _
    | 2, _ =>
      show Le (mapRef (memL [200, 201]) (idxL [200, 201]) (scrubI 201 (scrubI 200 (upd (scrubE 201 (upd (scrubE 200 env) a (AV.row 200))) b (AV.row 201) c)))) (.int .i64 code)
      rw [upd_other _ _ (hne hbc)]
      show Le (mapRef (memL [200, 201]) (idxL [200, 201]) (scrubI 201 (scrubI 200 (scrub 201 (upd (scrubE 200 env) a (AV.row 200) c))))) (.int .i64 code)
      rw [upd_other _ _ (hne hac)]
      show Le (mapRef (memL [200, 201]) (idxL [200, 201]) (scrubI 201 (scrubI 200 (scrub 201 (scrub 200 (env c)))))) (.int .i64 code)
      rw [h10]; exact Le.refl _
theorem rb_bad {row : List ByteArray} {has : List Bool} {es : List En} {n : Int} {c : Int} (hc : rbCode row has es n = c) (h0 : c ≠ 0) {S : Nat → Prop} {w0 : World} :
    PostF S w0 (rbR (rbCode row has es n)) [tS.M 27 9 (rbRows row has es n), tB.M 28 4 (rbHas row has es n)] = PostF S w0 (rbR c) [tS.M 27 9 [], tB.M 28 4 []] := by
  unfold rbRows rbHas
  rw [hc, if_neg h0, if_neg h0]
theorem neqB {x : ByteArray} {y : Bool} (h : ((!decide (x = ⟨#[]⟩)) != y) = false) : y = decide (x ≠ ⟨#[]⟩) := by
  cases y <;> by_cases h9 : x = ⟨#[]⟩ <;> simp [h9] at h ⊢
theorem rebuild_fn (row : List ByteArray) (has : List Bool) (es : List En) (n : Int) : FnF Tryd.prog 11 [tS.L row, tB.L has, tEn.L es, .int .i64 n] (rbR (rbCode row has es n)) [tS.M 27 9 (rbRows row has es n), tB.M 28 4 (rbHas row has es n)] := by
  refine FnF.of Tryd.f11 _ Tryd.func11 rfl (by decide) (by show 4 ≤ _; decide) tbOk 137 rfl fun S w0 gl => ?_
  refine Run.go ?_; (conv => whnf); repeat' (first | ((with_reducible refine Know.mk fun _ => ?_); conv => whnf) | ((with_reducible refine Need.mk ?_ ?_); exact nd; conv => whnf) | ((with_reducible first | refine Both.mk ?_ ?_ | refine Any.mk fun b hb => ?_ | refine AskB.dec (fun hb => ?_) (fun hb => ?_) | refine AskB.ndec (fun hb => ?_) (fun hb => ?_) | refine AskB.mk (fun hb => ?_) (fun hb => ?_)) <;> conv => whnf) | ((with_reducible first | refine Run.drawX rfl (by decide +kernel) ?_ | refine Run.drawT rfl (by decide +kernel) ?_ | refine Run.drawW rfl (by decide +kernel) ?_); conv => whnf) | fail)
  iterate 3 (· exact leave_nil (a := 8) (b := 9) (c := 10) rfl rfl rfl rfl rfl rfl ⟨_, rfl⟩ (rb_bad (row := row) (has := has) (es := es) (n := n) (c := 2) (by unfold rbCode; rw [if_pos (by omega)]) (by decide)) Tryd.func11 rfl)
  rotate_left
  · exact leave_nil (a := 8) (b := 9) (c := 10) rfl rfl rfl rfl rfl rfl ⟨_, rfl⟩ (rb_bad (row := row) (has := has) (es := es) (n := n) (c := 2) (by unfold rbCode; rw [if_pos (by omega)]) (by decide)) Tryd.func11 rfl
  have hlen : row.length = has.length := by omega
  refine Run.loop [0,1,2,3,41,42] (fun i : Nat => [(43, .int .i64 (i : Int))]) (fun i => [])
    (fun i => i ≤ row.length ∧ ∀ j, j < i → has.getD j false = decide (row.getD j ⟨#[]⟩ ≠ ⟨#[]⟩)) (fun i => row.length - i) 0 ⟨Nat.zero_le _, fun j hj => absurd hj (Nat.not_lt_zero _)⟩ ⟨Le.refl _, trivial⟩ trivial ?_
  intro i ⟨hi, hok⟩ IH
  refine Run.go ?_; (conv => whnf); repeat' (first | ((with_reducible refine Know.mk fun _ => ?_); conv => whnf) | ((with_reducible refine Need.mk ?_ ?_); exact nd; conv => whnf) | ((with_reducible first | refine Both.mk ?_ ?_ | refine Any.mk fun b hb => ?_ | refine AskB.dec (fun hb => ?_) (fun hb => ?_) | refine AskB.ndec (fun hb => ?_) (fun hb => ?_) | refine AskB.mk (fun hb => ?_) (fun hb => ?_)) <;> conv => whnf) | ((with_reducible first | refine Run.drawX rfl (by decide +kernel) ?_ | refine Run.drawT rfl (by decide +kernel) ?_ | refine Run.drawW rfl (by decide +kernel) ?_); conv => whnf) | fail)
  · exact leave_nil (a := 8) (b := 9) (c := 10) rfl rfl rfl rfl rfl rfl ⟨_, rfl⟩ (rb_bad (row := row) (has := has) (es := es) (n := n) (c := 2) (by
      rw [Int.toNat_natCast] at hb
      unfold rbCode; rw [if_neg (by omega), if_pos (fun hr => ?_)]
      have := hr i (by omega)
      rw [show tB.z = false from rfl, show tS.z = ⟨#[]⟩ from rfl, this] at hb
      by_cases h9 : row.getD i ⟨#[]⟩ = ⟨#[]⟩ <;> simp [h9] at hb) (by decide)) Tryd.func11 rfl
  · refine Run.to _ _ ?_ ?_ (IH (i+1) (by omega) ⟨by omega, fun j hj => ?_⟩)
    · exact ⟨Le.refl _, Le.refl _, Le.refl _, Le.refl _, Le.refl _, Le.refl _, Le.wrap64 (by omega) (by omega) (by omega), trivial⟩
    · exact trivial
    · rcases Nat.lt_or_ge j i with h | h
      · exact hok j h
      · have : j = i := by omega
        subst this
        rw [Int.toNat_natCast] at hb
        exact neqB hb
  · have hR : rowOk row has := fun j hj => hok j (by omega)
    refine Run.callAX (appCheck_fn es n row.length) rfl rfl (ArgsLe.of_eq rfl) rfl rfl rfl ?_
    (conv => whnf); repeat' (first | ((with_reducible refine Know.mk fun _ => ?_); conv => whnf) | ((with_reducible refine Need.mk ?_ ?_); exact nd; conv => whnf) | ((with_reducible first | refine Both.mk ?_ ?_ | refine Any.mk fun b hb => ?_ | refine AskB.dec (fun hb => ?_) (fun hb => ?_) | refine AskB.ndec (fun hb => ?_) (fun hb => ?_) | refine AskB.mk (fun hb => ?_) (fun hb => ?_)) <;> conv => whnf) | ((with_reducible first | refine Run.drawX rfl (by decide +kernel) ?_ | refine Run.drawT rfl (by decide +kernel) ?_ | refine Run.drawW rfl (by decide +kernel) ?_); conv => whnf) | fail)
    rotate_left
    · exact leave_nil (a := 8) (b := 9) (c := 10) rfl rfl rfl rfl rfl rfl ⟨_, rfl⟩ (rb_bad (row := row) (has := has) (es := es) (n := n) (c := 170) (by
        unfold rbCode; rw [if_neg (by omega), if_neg (fun h => h hR), if_neg (fun h => ?_)]
        refine hb ?_
        unfold chk; rw [if_neg (by omega), if_pos h.1]) (by decide)) Tryd.func11 rfl
    refine Run.asMat 63 0 9 1 rfl (by decide) (fun i hi => rfl) ?_
    refine Run.asMat 65 0 4 1 rfl (by decide) (fun i hi => rfl) ?_
    refine Run.loop [0, 1, 2, 13, 14, 66] (fun k : Nat => [(67, .int .i64 (k : Int))]) (fun k => [(63, tS.M 27 9 (List.replicate k row ++ List.replicate (n.toNat - k) [])), (65, tB.M 28 4 (List.replicate k has ++ List.replicate (n.toNat - k) []))])
      (fun k => k ≤ n.toNat) (fun k => n.toNat - k) 0 (Nat.zero_le _) ⟨Le.refl _, trivial⟩ ⟨?_, ?_, trivial⟩ ?_
    · exact tS.M_nils 27 9 n.toNat _ _
    · exact tB.M_nils 28 4 n.toNat _ _
    intro k hk IHk
    refine Run.go ?_; (conv => whnf); repeat' (first | ((with_reducible refine Know.mk fun _ => ?_); conv => whnf) | ((with_reducible refine Need.mk ?_ ?_); exact nd; conv => whnf) | ((with_reducible first | refine Both.mk ?_ ?_ | refine Any.mk fun b hb => ?_ | refine AskB.dec (fun hb => ?_) (fun hb => ?_) | refine AskB.ndec (fun hb => ?_) (fun hb => ?_) | refine AskB.mk (fun hb => ?_) (fun hb => ?_)) <;> conv => whnf) | ((with_reducible first | refine Run.drawX rfl (by decide +kernel) ?_ | refine Run.drawT rfl (by decide +kernel) ?_ | refine Run.drawW rfl (by decide +kernel) ?_); conv => whnf) | fail)
    · have hl1 : (List.replicate k row ++ List.replicate (n.toNat - k) []).length = n.toNat := by simp; omega
      have hl2 : (List.replicate k has ++ List.replicate (n.toNat - k) []).length = n.toNat := by simp; omega
      refine Run.callFA 200 (clone_fn row (by omega)) rfl rfl (ArgsLe.of_eq rfl) rfl rfl rfl (fun m hm => ?_) ?_
      · simp only [List.mem_singleton] at hm; subst hm; exact fun i j _ _ => rfl
      (conv => whnf); repeat' (first | ((with_reducible refine Know.mk fun _ => ?_); conv => whnf) | ((with_reducible refine Need.mk ?_ ?_); exact nd; conv => whnf) | ((with_reducible first | refine Both.mk ?_ ?_ | refine Any.mk fun b hb => ?_ | refine AskB.dec (fun hb => ?_) (fun hb => ?_) | refine AskB.ndec (fun hb => ?_) (fun hb => ?_) | refine AskB.mk (fun hb => ?_) (fun hb => ?_)) <;> conv => whnf) | ((with_reducible first | refine Run.drawX rfl (by decide +kernel) ?_ | refine Run.drawT rfl (by decide +kernel) ?_ | refine Run.drawW rfl (by decide +kernel) ?_); conv => whnf) | fail)
      refine Run.callFA 201 (cloneB_fn has (by omega)) rfl rfl (ArgsLe.of_eq rfl) rfl rfl rfl (fun m hm => ?_) ?_
      · simp only [List.mem_singleton] at hm; subst hm; exact fun i j _ _ => rfl
      (conv => whnf); repeat' (first | ((with_reducible refine Know.mk fun _ => ?_); conv => whnf) | ((with_reducible refine Need.mk ?_ ?_); exact nd; conv => whnf) | ((with_reducible first | refine Both.mk ?_ ?_ | refine Any.mk fun b hb => ?_ | refine AskB.dec (fun hb => ?_) (fun hb => ?_) | refine AskB.ndec (fun hb => ?_) (fun hb => ?_) | refine AskB.mk (fun hb => ?_) (fun hb => ?_)) <;> conv => whnf) | ((with_reducible first | refine Run.drawX rfl (by decide +kernel) ?_ | refine Run.drawT rfl (by decide +kernel) ?_ | refine Run.drawW rfl (by decide +kernel) ?_); conv => whnf) | fail)
      refine Run.to _ _ ?_ ?_ (IHk (k+1) (by omega) (by omega))
      · exact ⟨Le.refl _, Le.refl _, Le.refl _, Le.refl _, Le.refl _, Le.refl _, Le.wrap64 (by omega) (by omega) (by omega), trivial⟩
      · refine ⟨?_, ?_, trivial⟩
        · rw [← rep_set row [] (by omega : k < n.toNat)]
          exact tS.M_plug 27 9 _ _ _ row _ _ (by omega) rfl (fun _ _ _ _ => Le.refl _)
        · rw [← rep_set has [] (by omega : k < n.toNat)]
          exact tB.M_plug 28 4 _ _ _ has _ _ (by omega) rfl (fun _ _ _ _ => Le.refl _)
    have hkn : k = n.toNat := by omega
    subst hkn
    have hG : Good n row.length es := by
      have hb0 : chk es n row.length = 0 := by assumption
      refine Classical.byContradiction fun hg => ?_
      unfold chk at hb0
      rw [if_neg (by omega), if_neg hg] at hb0
      exact absurd hb0 (by decide)
    clear IHk
    refine Run.loop [0, 13, 14, 81, 82] (fun i : Nat => [(83, .int .i64 (i : Int))]) (fun i => [(63, tS.M 27 9 (rowsT n (says (es.take i)) row)), (65, tB.M 28 4 (rowsH n (says (es.take i)) has))])
      (fun i => i ≤ es.length ∧ ∀ q, q < i → ((es.getD q tEn.z).rds.getD 0 tRd.z).text = row.getD (es.getD q tEn.z).col.toNat ByteArray.empty) (fun i => es.length - i) 0 ⟨Nat.zero_le _, fun q hq => absurd hq (Nat.not_lt_zero _)⟩ ⟨Le.refl _, trivial⟩ ⟨?_, ?_, trivial⟩ ?_
    · rw [show says (es.take 0) = [] from rfl, rowsT_nil]; simp only [Nat.sub_self, List.replicate_zero, List.append_nil]; exact MOle.refl _
    · rw [show says (es.take 0) = [] from rfl, rowsH_nil]; simp only [Nat.sub_self, List.replicate_zero, List.append_nil]; exact MOle.refl _
    intro i ⟨hi, hf⟩ IHi
    have hen : i < es.length → 0 ≤ (es.getD (↑i : Int).toNat tEn.z).col ∧ (es.getD (↑i : Int).toNat tEn.z).col < row.length ∧ 2 ≤ (es.getD (↑i : Int).toNat tEn.z).rds.length := fun h => by
      rw [Int.toNat_natCast]
      have := hG.each _ (getD_mem (z := tEn.z) i h)
      exact ⟨this.1, this.2.1, this.2.2.2.1⟩
    refine Run.go ?_; (conv => whnf); repeat' (first | ((with_reducible refine Know.mk fun _ => ?_); conv => whnf) | ((with_reducible refine Need.mk ?_ ?_); exact nd; conv => whnf) | ((with_reducible first | refine Both.mk ?_ ?_ | refine Any.mk fun b hb => ?_ | refine AskB.dec (fun hb => ?_) (fun hb => ?_) | refine AskB.ndec (fun hb => ?_) (fun hb => ?_) | refine AskB.mk (fun hb => ?_) (fun hb => ?_)) <;> conv => whnf) | ((with_reducible first | refine Run.drawX rfl (by decide +kernel) ?_ | refine Run.drawT rfl (by decide +kernel) ?_ | refine Run.drawW rfl (by decide +kernel) ?_); conv => whnf) | fail)
    · have hil : i < es.length := by omega
      obtain ⟨hc0, hc1, hc2⟩ := hen hil
      have hRt : Right n (es.getD (↑i : Int).toNat tEn.z).rds := by rw [Int.toNat_natCast]; exact (hG.each _ (getD_mem (z := tEn.z) i hil)).2.2
      have hsay := says_take es i hil
      rw [← Int.toNat_natCast i] at hsay
      generalize he : es.getD (↑i : Int).toNat tEn.z = e at *
      refine Run.loop [0, 13, 14, 17, 81, 82, 83, 100, 101] (fun k : Nat => [(102, .int .i64 (k : Int))])
        (fun k => [(17, .box 52 [.int .i64 e.col, tRd.L e.rds]), (63, tS.M 27 9 (rowsT n (says (es.take i) ++ (e.rds.take k).flatMap (sayR e.col.toNat)) row)), (65, tB.M 28 4 (rowsH n (says (es.take i) ++ (e.rds.take k).flatMap (sayR e.col.toNat)) has))])
        (fun k => k ≤ e.rds.length) (fun k => e.rds.length - k) 0 (Nat.zero_le _) ⟨Le.refl _, trivial⟩ ⟨?_, ?_, ?_, trivial⟩ ?_
      · rw [← he]; exact MOle.refl _
      · rw [List.take_zero, List.flatMap_nil, List.append_nil]; exact MOle.refl _
      · rw [List.take_zero, List.flatMap_nil, List.append_nil]; exact MOle.refl _
      intro k hk IHk
      refine Run.go ?_; (conv => whnf); repeat' (first | ((with_reducible refine Know.mk fun _ => ?_); conv => whnf) | ((with_reducible refine Need.mk ?_ ?_); exact nd; conv => whnf) | ((with_reducible first | refine Both.mk ?_ ?_ | refine Any.mk fun b hb => ?_ | refine AskB.dec (fun hb => ?_) (fun hb => ?_) | refine AskB.ndec (fun hb => ?_) (fun hb => ?_) | refine AskB.mk (fun hb => ?_) (fun hb => ?_)) <;> conv => whnf) | ((with_reducible first | refine Run.drawX rfl (by decide +kernel) ?_ | refine Run.drawT rfl (by decide +kernel) ?_ | refine Run.drawW rfl (by decide +kernel) ?_); conv => whnf) | fail)
      · have hkl : k < e.rds.length := by omega
        have hRd := hRt.1.each _ (getD_mem (z := tRd.z) k hkl)
        have hsayE := sayE_take e.col.toNat e.rds k hkl
        rw [← Int.toNat_natCast k] at hRd hsayE
        generalize hr : e.rds.getD (↑k : Int).toNat tRd.z = r at *
        refine Run.loop [0, 13, 14, 17, 20, 81, 82, 83, 100, 101, 102, 107, 108] (fun m : Nat => [(109, .int .i64 (m : Int))])
          (fun m => [(17, .box 52 [.int .i64 e.col, tRd.L e.rds]), (20, .box 49 [.bool r.none, .str r.text, tI.L r.wits]),
            (63, tS.M 27 9 (rowsT n (says (es.take i) ++ (e.rds.take k).flatMap (sayR e.col.toNat) ++ (r.wits.take m).map (fun w => (⟨w, e.col.toNat, r.text, !r.none⟩ : Sayn))) row)),
            (65, tB.M 28 4 (rowsH n (says (es.take i) ++ (e.rds.take k).flatMap (sayR e.col.toNat) ++ (r.wits.take m).map (fun w => (⟨w, e.col.toNat, r.text, !r.none⟩ : Sayn))) has))])
          (fun m => m ≤ r.wits.length) (fun m => r.wits.length - m) 0 (Nat.zero_le _) ⟨Le.refl _, trivial⟩ ⟨MOle.refl _, ?_, ?_, ?_, trivial⟩ ?_
        · rw [← hr]; exact MOle.refl _
        · rw [List.take_zero, List.map_nil, List.append_nil]; exact MOle.refl _
        · rw [List.take_zero, List.map_nil, List.append_nil]; exact MOle.refl _
        intro m hm IHm
        generalize hd : says (es.take i) ++ (e.rds.take k).flatMap (sayR e.col.toNat) ++ (r.wits.take m).map (fun w => (⟨w, e.col.toNat, r.text, !r.none⟩ : Sayn)) = d at *
        have hw : m < r.wits.length → 0 ≤ r.wits.getD (↑m : Int).toNat tI.z ∧ r.wits.getD (↑m : Int).toNat tI.z < n := fun h => hRd.rng _ (getD_mem (z := 0) m h)
        have hl1 := rowsT_len n d row
        have hl2 := rowsH_len n d has
        have hl3 : m < r.wits.length → ((rowsT n d row).getD (r.wits.getD (↑m : Int).toNat tI.z).toNat []).length = row.length := fun h => by rw [rowsT_at d row (by have := hw h; omega), appT_len]
        have hl4 : m < r.wits.length → ((rowsH n d has).getD (r.wits.getD (↑m : Int).toNat tI.z).toNat []).length = row.length := fun h => by rw [rowsH_at d has (by have := hw h; omega), appH_len, hlen]
        refine Run.go ?_; (conv => whnf); repeat' (first | ((with_reducible refine Know.mk fun _ => ?_); conv => whnf) | ((with_reducible refine Need.mk ?_ ?_); exact nd; conv => whnf) | ((with_reducible first | refine Both.mk ?_ ?_ | refine Any.mk fun b hb => ?_ | refine AskB.dec (fun hb => ?_) (fun hb => ?_) | refine AskB.ndec (fun hb => ?_) (fun hb => ?_) | refine AskB.mk (fun hb => ?_) (fun hb => ?_)) <;> conv => whnf) | ((with_reducible first | refine Run.drawX rfl (by decide +kernel) ?_ | refine Run.drawT rfl (by decide +kernel) ?_ | refine Run.drawW rfl (by decide +kernel) ?_); conv => whnf) | fail)
        · obtain ⟨w0', w1'⟩ := hw (by omega)
          have hml : m < r.wits.length := by omega
          have hd2 : says (es.take i) ++ (e.rds.take k).flatMap (sayR e.col.toNat) ++ (r.wits.take (m + 1)).map (fun w => (⟨w, e.col.toNat, r.text, !r.none⟩ : Sayn)) = d ++ [⟨r.wits.getD m 0, e.col.toNat, r.text, !r.none⟩] := by
            rw [sayR_take _ _ _ hml, ← List.append_assoc, hd]
          refine Run.to _ _ ?_ ?_ (IHm (m + 1) (by omega) (by omega))
          · exact ⟨Le.refl _, Le.refl _, Le.refl _, Le.refl _, Le.refl _, Le.refl _, Le.refl _, Le.refl _, Le.refl _, Le.refl _, Le.refl _, Le.refl _, Le.refl _, Le.wrap64 (by omega) (by omega) (by omega), trivial⟩
          · refine ⟨MOle.refl _, MOle.refl _, ?_, ?_, trivial⟩
            · rw [hd2, ← rowsT_say d row ⟨r.wits.getD m 0, e.col.toNat, r.text, !r.none⟩ w0' w1']
              exact tS.M_set 27 9 _ _ _ _ _ _ (by have := hl3 hml; rw [Int.toNat_natCast] at this; show _ < ((rowsT n d row).getD (r.wits.getD m 0).toNat []).length; rw [show (r.wits.getD m 0).toNat = (r.wits.getD m tI.z).toNat from rfl, this]; omega) rfl (Le.one (Le.refl _))
            · rw [hd2, ← rowsH_say d has ⟨r.wits.getD m 0, e.col.toNat, r.text, !r.none⟩ w0' w1']
              exact tB.M_set 28 4 _ _ _ _ _ _ (by have := hl4 hml; rw [Int.toNat_natCast] at this; show _ < ((rowsH n d has).getD (r.wits.getD m 0).toNat []).length; rw [show (r.wits.getD m 0).toNat = (r.wits.getD m tI.z).toNat from rfl, this]; omega) rfl (Le.one (Le.refl _))
        · have hmw : m = r.wits.length := by omega
          subst hmw
          rw [List.take_length] at hd
          have hd2 : says (es.take i) ++ (e.rds.take (k + 1)).flatMap (sayR e.col.toNat) = d := by
            rw [Int.toNat_natCast] at hsayE
            rw [hsayE, ← List.append_assoc, ← hd]; rfl
          refine Run.to _ _ ?_ ?_ (IHk (k + 1) (by omega) (by omega))
          · exact ⟨Le.refl _, Le.refl _, Le.refl _, Le.refl _, Le.refl _, Le.refl _, Le.refl _, Le.refl _, Le.refl _, Le.wrap64 (by omega) (by omega) (by omega), trivial⟩
          · rw [hd2]; exact ⟨MOle.refl _, MOle.refl _, MOle.refl _, trivial⟩
      · have hke : k = e.rds.length := by omega
        subst hke
        have hd2 : says (es.take (i + 1)) = says (es.take i) ++ (e.rds.take e.rds.length).flatMap (sayR e.col.toNat) := by
          rw [Int.toNat_natCast] at hsay
          rw [hsay, List.take_length]; rfl
        refine Run.to _ _ ?_ ?_ (IHi (i + 1) (by omega) ⟨by omega, fun q hq => ?_⟩)
        · exact ⟨Le.refl _, Le.refl _, Le.refl _, Le.refl _, Le.refl _, Le.wrap64 (by omega) (by omega) (by omega), trivial⟩
        · rw [hd2]; exact ⟨MOle.refl _, MOle.refl _, trivial⟩
        · rcases Nat.lt_or_ge q i with h | h
          · exact hf q h
          · have : q = i := by omega
            subst this
            rw [Int.toNat_natCast] at he
            rw [he]; assumption
    · exact leave_nil (a := 8) (b := 9) (c := 10) rfl rfl rfl rfl rfl rfl ⟨_, rfl⟩ (rb_bad (row := row) (has := has) (es := es) (n := n) (c := 170) (by
        unfold rbCode; rw [if_neg (by omega), if_neg (fun h => h hR), if_neg (fun h => ?_)]
        rw [Int.toNat_natCast] at hb
        exact hb ((row_first hR hG).mp h.2 i (by omega))) (by decide)) Tryd.func11 rfl
    · have hie : i = es.length := by omega
      subst hie
      have hcode : rbCode row has es n = 0 := by
        unfold rbCode; rw [if_neg (by omega), if_neg (fun h => h hR), if_pos ⟨hG, (row_first hR hG).mpr hf⟩]
      rw [List.take_length]
      refine Run.leaveF (ts := [8, 9, 10]) [63, 65] (.inr ⟨_, rfl⟩) rfl Tryd.func11 rfl (by decide) ⟨?_, ?_, trivial⟩ rfl ?_
      · unfold rbRows; rw [if_pos hcode]; exact MOle.refl _
      · unfold rbHas; rw [if_pos hcode]; exact MOle.refl _
      · rw [hcode]
        refine Le.tup fun j hj => ?_
        match j, hj with
        | 0, _ => exact Le.refl _
        | 1, _ => exact Le.refl _
        | 2, _ => exact Le.refl _
end Go.Proofs.YtjoecebimleoaaaDoor.V

namespace Go.Proofs.YtjoecebimleoaaaDoor.V
set_option linter.unusedVariables false
set_option linter.unusedSimpArgs false
open Go Go.Proofs Go.RowKit
set_option maxRecDepth 100000
set_option maxHeartbeats 1000000
def strX : ByteArray := ⟨#[120]⟩
def awE : List En := [⟨0, [⟨false, strX, [0]⟩, ⟨true, ⟨#[]⟩, [1]⟩]⟩]
theorem awE_good : Good 2 1 awE := by
  have hne : ¬ strX = ⟨#[]⟩ := fun e => by cases e
  refine ⟨fun e he => ?_, by simp [awE]⟩
  simp only [awE, List.mem_singleton] at he
  subst he
  refine ⟨by decide, by decide, ⟨fun r hr => ?_, by simp [fl], by simp [hne]⟩, by decide, by simp [fl]⟩
  · simp only [List.mem_cons, List.not_mem_nil, or_false] at hr
    rcases hr with rfl | rfl
    · exact ⟨by simp, by simp [hne], by simp, by simp⟩
    · exact ⟨by simp, by simp, by simp, by simp⟩
theorem aw_code : rbCode [strX] [true] awE 2 = 0 := by
  have hne : ¬ strX = ⟨#[]⟩ := fun e => by cases e
  have h1 : rowOk [strX] [true] := fun i hi => by
    have : i = 0 := by simpa using hi
    subst this
    simp [hne]
  have h2 : firstOk [strX] [true] awE := fun e he => by
    simp only [awE, List.mem_singleton] at he
    subst he
    exact ⟨by decide, rfl⟩
  unfold rbCode
  rw [if_neg (by decide), if_neg (fun h => h h1), if_pos ⟨awE_good, h2⟩]
theorem awake18_fn : Fn Tryd.prog 5 [] .tt := by
  refine Fn.of Tryd.f5 _ Tryd.func5 rfl (by decide) (by show 0 ≤ _; decide) tbOk 60 rfl fun S w0 gl => ?_
  refine Run.go ?_; (conv => whnf); repeat' (first | ((with_reducible refine Know.mk fun _ => ?_); conv => whnf) | ((with_reducible refine Need.mk ?_ ?_); exact nd; conv => whnf) | ((with_reducible first | refine Both.mk ?_ ?_ | refine Any.mk fun b hb => ?_ | refine AskB.dec (fun hb => ?_) (fun hb => ?_) | refine AskB.ndec (fun hb => ?_) (fun hb => ?_) | refine AskB.mk (fun hb => ?_) (fun hb => ?_)) <;> conv => whnf) | ((with_reducible first | refine Run.drawX rfl (by decide +kernel) ?_ | refine Run.drawT rfl (by decide +kernel) ?_ | refine Run.drawW rfl (by decide +kernel) ?_); conv => whnf) | fail)
  refine Run.freeze 7 (by rfl) ?_
  refine Run.freeze 9 (by rfl) ?_
  refine Run.go ?_; (conv => whnf); repeat' (first | ((with_reducible refine Know.mk fun _ => ?_); conv => whnf) | ((with_reducible refine Need.mk ?_ ?_); exact nd; conv => whnf) | ((with_reducible first | refine Both.mk ?_ ?_ | refine Any.mk fun b hb => ?_ | refine AskB.dec (fun hb => ?_) (fun hb => ?_) | refine AskB.ndec (fun hb => ?_) (fun hb => ?_) | refine AskB.mk (fun hb => ?_) (fun hb => ?_)) <;> conv => whnf) | ((with_reducible first | refine Run.drawX rfl (by decide +kernel) ?_ | refine Run.drawT rfl (by decide +kernel) ?_ | refine Run.drawW rfl (by decide +kernel) ?_); conv => whnf) | fail)
  refine Run.freeze 11 (by rfl) ?_
  refine Run.go ?_; (conv => whnf); repeat' (first | ((with_reducible refine Know.mk fun _ => ?_); conv => whnf) | ((with_reducible refine Need.mk ?_ ?_); exact nd; conv => whnf) | ((with_reducible first | refine Both.mk ?_ ?_ | refine Any.mk fun b hb => ?_ | refine AskB.dec (fun hb => ?_) (fun hb => ?_) | refine AskB.ndec (fun hb => ?_) (fun hb => ?_) | refine AskB.mk (fun hb => ?_) (fun hb => ?_)) <;> conv => whnf) | ((with_reducible first | refine Run.drawX rfl (by decide +kernel) ?_ | refine Run.drawT rfl (by decide +kernel) ?_ | refine Run.drawW rfl (by decide +kernel) ?_); conv => whnf) | fail)
  refine Run.callFA 1000 (rebuild_fn [strX] [true] awE 2) rfl rfl ⟨?_, ?_, ?_, ?_, trivial⟩ (by rfl) (by rfl) (by rfl) (flat_cons (Ty.M_flat tS_flat) (flat_cons (Ty.M_flat tB_flat) flat_nil)) ?_
  · refine Le.sl fun i j hi hj => ?_
    match i, hi, j, hj with
    | 0, _, 0, _ => exact Le.refl _
  · refine Le.sl fun i j hi hj => ?_
    match i, hi, j, hj with
    | 0, _, 0, _ => exact Le.refl _
  · refine Le.sl fun i j hi hj => ?_
    match i, hi, j, hj with
    | 0, _, 0, _ => exact Le.refl _
    | 0, _, 1, _ =>
      refine Le.sl fun i j hi hj => ?_
      match i, hi, j, hj with
      | 0, _, 0, _ => exact Le.refl _
      | 0, _, 1, _ => exact Le.refl _
      | 0, _, 2, _ =>
        refine Le.sl fun i j hi hj => ?_
        match i, hi, j, hj with
        | 0, _, 0, _ => exact Le.refl _
      | 1, _, 0, _ => exact Le.refl _
      | 1, _, 1, _ => exact Le.refl _
      | 1, _, 2, _ =>
        refine Le.sl fun i j hi hj => ?_
        match i, hi, j, hj with
        | 0, _, 0, _ => exact Le.refl _
  · exact Le.refl _
  have e1 : rbRows [strX] [true] awE 2 = [[strX], [⟨#[]⟩]] := by unfold rbRows; rw [if_pos aw_code]; rfl
  have e2 : rbHas [strX] [true] awE 2 = [[true], [false]] := by unfold rbHas; rw [if_pos aw_code]; rfl
  rw [aw_code, e1, e2]
  (conv => whnf); repeat' (first | ((with_reducible refine Know.mk fun _ => ?_); conv => whnf) | ((with_reducible refine Need.mk ?_ ?_); exact nd; conv => whnf) | ((with_reducible first | refine Both.mk ?_ ?_ | refine Any.mk fun b hb => ?_ | refine AskB.dec (fun hb => ?_) (fun hb => ?_) | refine AskB.ndec (fun hb => ?_) (fun hb => ?_) | refine AskB.mk (fun hb => ?_) (fun hb => ?_)) <;> conv => whnf) | ((with_reducible first | refine Run.drawX rfl (by decide +kernel) ?_ | refine Run.drawT rfl (by decide +kernel) ?_ | refine Run.drawW rfl (by decide +kernel) ?_); conv => whnf) | fail)
  all_goals first | exact Run.leave (ts := [0]) (.inr ⟨_, rfl⟩) rfl Tryd.func5 rfl (Le.tt' rfl) | exact absurd rfl hb | (exfalso; exact hb (by decide))
end Go.Proofs.YtjoecebimleoaaaDoor.V

namespace Go.Proofs.YtjoecebimleoaaaDoor.V
set_option linter.unusedVariables false
set_option linter.unusedSimpArgs false
open Go Go.Proofs Go.RowKit
set_option maxRecDepth 100000
set_option maxHeartbeats 1000000
theorem baseRows_fn (t : Tab) (w : Int) (hf : FitT t) : Fn Tryd.prog 3 [tbA t, .int .i64 w] .tt := by
  refine Fn.of Tryd.f3 _ Tryd.func3 rfl (by decide) (by show 2 ≤ _; decide) tbOk 37 rfl fun S w0 gl => ?_
  refine Run.go ?_; (conv => whnf); repeat' (first | ((with_reducible refine Know.mk fun _ => ?_); conv => whnf) | ((with_reducible refine Need.mk ?_ ?_); exact nd; conv => whnf) | ((with_reducible first | refine Both.mk ?_ ?_ | refine Any.mk fun b hb => ?_ | refine AskB.dec (fun hb => ?_) (fun hb => ?_) | refine AskB.ndec (fun hb => ?_) (fun hb => ?_) | refine AskB.mk (fun hb => ?_) (fun hb => ?_)) <;> conv => whnf) | ((with_reducible first | refine Run.drawX rfl (by decide +kernel) ?_ | refine Run.drawT rfl (by decide +kernel) ?_ | refine Run.drawW rfl (by decide +kernel) ?_); conv => whnf) | fail)
  refine Run.callBX awake18_fn rfl rfl trivial rfl rfl rfl ?_
  (conv => whnf); repeat' (first | ((with_reducible refine Know.mk fun _ => ?_); conv => whnf) | ((with_reducible refine Need.mk ?_ ?_); exact nd; conv => whnf) | ((with_reducible first | refine Both.mk ?_ ?_ | refine Any.mk fun b hb => ?_ | refine AskB.dec (fun hb => ?_) (fun hb => ?_) | refine AskB.ndec (fun hb => ?_) (fun hb => ?_) | refine AskB.mk (fun hb => ?_) (fun hb => ?_)) <;> conv => whnf) | ((with_reducible first | refine Run.drawX rfl (by decide +kernel) ?_ | refine Run.drawT rfl (by decide +kernel) ?_ | refine Run.drawW rfl (by decide +kernel) ?_); conv => whnf) | fail)
  refine Run.callBX (brow_fn t w hf) rfl rfl ⟨tb_le t (Le.refl _) (Le.refl _), Le.refl _, trivial⟩ rfl rfl rfl ?_
  have h2 := rrow_fn t w hf
  have hl : (if rowCode t w = 0 then rowT t w.toNat else []).length = (if rowCode t w = 0 then rowH t w.toNat else []).length := by
    split
    · rw [rowT_len, rowH_len]
    · rfl
  unfold rowL at h2 ⊢
  generalize (if rowCode t w = 0 then rowT t w.toNat else []) = a at hl h2 ⊢
  generalize (if rowCode t w = 0 then rowH t w.toNat else []) = x at hl h2 ⊢
  (conv => whnf); repeat' (first | ((with_reducible refine Know.mk fun _ => ?_); conv => whnf) | ((with_reducible refine Need.mk ?_ ?_); exact nd; conv => whnf) | ((with_reducible first | refine Both.mk ?_ ?_ | refine Any.mk fun b hb => ?_ | refine AskB.dec (fun hb => ?_) (fun hb => ?_) | refine AskB.ndec (fun hb => ?_) (fun hb => ?_) | refine AskB.mk (fun hb => ?_) (fun hb => ?_)) <;> conv => whnf) | ((with_reducible first | refine Run.drawX rfl (by decide +kernel) ?_ | refine Run.drawT rfl (by decide +kernel) ?_ | refine Run.drawW rfl (by decide +kernel) ?_); conv => whnf) | fail)
  refine Run.callBX h2 rfl rfl ⟨tb_le t (Le.refl _) (Le.refl _), Le.refl _, trivial⟩ rfl rfl rfl ?_
  (conv => whnf); repeat' (first | ((with_reducible refine Know.mk fun _ => ?_); conv => whnf) | ((with_reducible refine Need.mk ?_ ?_); exact nd; conv => whnf) | ((with_reducible first | refine Both.mk ?_ ?_ | refine Any.mk fun b hb => ?_ | refine AskB.dec (fun hb => ?_) (fun hb => ?_) | refine AskB.ndec (fun hb => ?_) (fun hb => ?_) | refine AskB.mk (fun hb => ?_) (fun hb => ?_)) <;> conv => whnf) | ((with_reducible first | refine Run.drawX rfl (by decide +kernel) ?_ | refine Run.drawT rfl (by decide +kernel) ?_ | refine Run.drawW rfl (by decide +kernel) ?_); conv => whnf) | fail)
  all_goals try (exfalso; exact hb rfl)
  refine Run.callBX (same_fn a a x x) rfl rfl ⟨Le.refl _, Le.refl _, Le.refl _, Le.refl _, trivial⟩ rfl rfl rfl ?_
  (conv => whnf); repeat' (first | ((with_reducible refine Know.mk fun _ => ?_); conv => whnf) | ((with_reducible refine Need.mk ?_ ?_); exact nd; conv => whnf) | ((with_reducible first | refine Both.mk ?_ ?_ | refine Any.mk fun b hb => ?_ | refine AskB.dec (fun hb => ?_) (fun hb => ?_) | refine AskB.ndec (fun hb => ?_) (fun hb => ?_) | refine AskB.mk (fun hb => ?_) (fun hb => ?_)) <;> conv => whnf) | ((with_reducible first | refine Run.drawX rfl (by decide +kernel) ?_ | refine Run.drawT rfl (by decide +kernel) ?_ | refine Run.drawW rfl (by decide +kernel) ?_); conv => whnf) | fail)
  all_goals first
    | exact absurd rfl hb
    | exact Run.leave (ts := [4]) (.inr ⟨_, rfl⟩) rfl Tryd.func3 rfl (Le.tt' (decide_eq_true ⟨hl, rfl, rfl⟩))
    | exact Run.leave (ts := [4]) (.inr ⟨_, rfl⟩) rfl Tryd.func3 rfl (Le.refl _)
end Go.Proofs.YtjoecebimleoaaaDoor.V

namespace Go.Proofs.YtjoecebimleoaaaDoor.V
set_option linter.unusedVariables false
set_option linter.unusedSimpArgs false
open Go Go.Proofs Go.RowKit
set_option maxRecDepth 100000
def bkWit (w : Wit) : Nat := w.name.size + w.head.size + sumL bkW w.words + 4
theorem dWs : Dec Tryd.prog 55 (tL tWrd) (fun l => sumL bkW l + 1) := Dec.slice (e := 54) (by kernel_rfl) (by kernel_rfl) (by decide) dWord
theorem dWit : Dec Tryd.prog 57 tWit bkWit :=
  Dec.map (fun x : ByteArray × ByteArray × List Wrd × Unit => ⟨x.1, x.2.1, x.2.2.1⟩) rfl (fun x j hj => match j, hj with | 0, _ => Le.refl _ | 1, _ => Le.refl _ | 2, _ => Le.refl _) (fun x => by simp only [bkWit]; omega)
    (Dec.struct (t := 57) (fs := #[⟨"Name", 9, 0, false, "", "", 0⟩, ⟨"Head", 9, 1, false, "", "", 16⟩, ⟨"Words", 55, 2, false, "", "", 32⟩]) (by kernel_rfl) (by kernel_rfl)
      (DecF.cons rfl (Dec.str (by kernel_rfl) (by kernel_rfl)) (DecF.cons rfl (Dec.str (by kernel_rfl) (by kernel_rfl)) (DecF.cons rfl dWs DecF.nil))))
theorem dInt : Dec Tryd.prog 3 tI (fun _ => 1) := Dec.int (by kernel_rfl) (by kernel_rfl)
def bkI (l : List Int) : Nat := sumL (fun _ => 1) l + 1
theorem dIs : Dec Tryd.prog 47 (tL tI) bkI := Dec.slice (e := 3) (by kernel_rfl) (by kernel_rfl) (by decide) dInt
def tTab : Ty Tab := ⟨2, tabG, ⟨[], []⟩⟩
def bkTab (t : Tab) : Nat := sumL bkWit t.wits + sumL bkI t.cols + 3
theorem dTab : Dec Tryd.prog 25 tTab bkTab :=
  Dec.map (fun x : List Wit × List (List Int) × Unit => ⟨x.1, x.2.1⟩) rfl (fun x j hj => match j, hj with | 0, _ => Le.refl _ | 1, _ => Le.refl _) (fun x => by simp only [bkTab]; omega)
    (Dec.struct (t := 25) (fs := #[⟨"Wits", 22, 0, false, "", "", 0⟩, ⟨"Cols", 23, 1, false, "", "", 24⟩]) (by kernel_rfl) (by kernel_rfl)
      (DecF.cons rfl (Dec.slice (e := 57) (t := 22) (by kernel_rfl) (by kernel_rfl) (by decide) dWit) (DecF.cons rfl (Dec.slice (e := 47) (t := 23) (by kernel_rfl) (by kernel_rfl) (by decide) dIs) DecF.nil)))
theorem argTab : Arg Tryd.prog 25 tbA bkTab := Arg.struct (T := tTab) (fs := #[⟨"Wits", 22, 0, false, "", "", 0⟩, ⟨"Cols", 23, 1, false, "", "", 24⟩]) (by kernel_rfl) dTab
/-! ### bounds -/
theorem fitT_of {t : Tab} {n : Nat} (h : bkTab t ≤ n) (hn : n ≤ 1048576) : FitT t := by
  unfold bkTab at h
  have h1 := sumL_len bkWit (fun w => by unfold bkWit; omega) t.wits
  have h2 := sumL_len bkI (fun w => by unfold bkI; omega) t.cols
  refine ⟨by omega, by omega, fun l hl => ?_, fun w hw => ?_, fun w hw => ?_⟩
  · have h3 : sumL (fun _ : Int => 1) l + 1 ≤ sumL bkI t.cols := sumL_mem bkI hl
    have h4 := sumL_len (fun _ : Int => 1) (fun _ => Nat.le_refl _) l
    omega
  · have h3 : w.name.size + w.head.size + sumL bkW w.words + 4 ≤ sumL bkWit t.wits := sumL_mem bkWit hw
    omega
  · have h3 : w.name.size + w.head.size + sumL bkW w.words + 4 ≤ sumL bkWit t.wits := sumL_mem bkWit hw
    obtain ⟨f1, f2, f3⟩ := fitW_of (s := w.head) (l := w.words) (n := 1048576) (by omega) (by omega)
    have h4 := bkW_sum w.words
    exact ⟨f1, by omega, f3⟩
end Go.Proofs.YtjoecebimleoaaaDoor.V

