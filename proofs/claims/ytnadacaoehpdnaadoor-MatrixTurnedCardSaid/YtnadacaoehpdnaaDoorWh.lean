/-
siglumref19.Parse walked.
-/
import Derived.Test.YtnadacaoehpdnaaDoorWg
namespace Go.Proofs.YtnadacaoehpdnaaDoor.V
open Go Go.Proofs Go.RowKit
set_option linter.unusedVariables false
set_option linter.unusedSimpArgs false
set_option maxRecDepth 100000
set_option maxHeartbeats 2000000
open Go Go.Proofs Go.Proofs.YtnadacaoehpdnaaDoor.V
theorem splitL_cut : ∀ (cur r : List UInt8), (∀ b ∈ cur, b ≠ 10) → splitL (cur ++ 10 :: r) = cur :: splitL r
  | [], r, _ => by rw [List.nil_append, splitL, if_pos rfl]
  | b :: cur, r, h => by
    rw [List.cons_append, splitL, if_neg (h b (by simp)), splitL_cut cur r (fun x hx => h x (by simp [hx]))]; rfl
theorem splitL_one : ∀ (cur : List UInt8), (∀ b ∈ cur, b ≠ 10) → splitL cur = [cur]
  | [], _ => rfl
  | b :: cur, h => by
    rw [splitL, if_neg (h b (by simp)), splitL_one cur (fun x hx => h x (by simp [hx]))]; rfl
def badX (cur : List UInt8) : Bool := cur.any (fun b => decide (ixB b = -2))
theorem bt_eq {a b : List UInt8} {i j : Nat} : (bt (bs a) i = bt (bs b) j) ↔ a.getD i 0 = b.getD j 0 := by
  unfold bt
  rw [bs_data, bs_data]
  constructor
  · intro h
    have h2 : (a.getD i 0).toNat = (b.getD j 0).toNat := by exact_mod_cast h
    exact UInt8.toNat_inj.mp h2
  · intro h; rw [h]
theorem parse29_fn (l : List UInt8) : Fn Tryd.prog 29 [.str (bs l)] (parseL l) := by
  refine Fn.of Tryd.f29 _ Tryd.func29 rfl (by decide) (by show 1 ≤ _; decide) tbOk 79 rfl fun S w0 gl => ?_
  have hsz := bs_size l
  refine Run.go ?_; (conv => whnf); repeat' (first | ((with_reducible refine Know.mk fun _ => ?_); conv => whnf) | ((with_reducible refine Need.mk ?_ ?_); (first | omega | (dsimp only; omega) | decide | exact bytes_le (by rfl) (by omega) | exact ⟨rfl, by omega, bytes_le (by rfl) (by omega), by omega⟩ | (refine ⟨?_, ?_⟩ <;> (rw [wrap64 (by omega) (by omega)]; omega))); conv => whnf) | ((with_reducible refine Both.mk ?_ ?_) <;> conv => whnf) | ((with_reducible refine Any.mk fun b hb => ?_); conv => whnf) | ((with_reducible refine AskB.dec (fun hb => ?_) (fun hb => ?_)) <;> conv => whnf) | ((with_reducible refine AskB.ndec (fun hb => ?_) (fun hb => ?_)) <;> conv => whnf) | ((with_reducible refine AskB.mk (fun hb => ?_) (fun hb => ?_)) <;> conv => whnf) | ((with_reducible refine Run.drawX rfl (by decide +kernel) ?_); conv => whnf) | ((with_reducible refine Run.drawT rfl (by decide +kernel) ?_); conv => whnf) | ((with_reducible refine Run.drawW rfl (by decide +kernel) ?_); conv => whnf) | fail)
  · have hp : parseA l = ([], 0, 1) := by unfold parseA; rw [if_pos (by omega)]
    unfold parseL
    rw [hp]
    exact Run.leaveC3 (.inr ⟨_, rfl⟩) rfl Tryd.func29 rfl rfl rfl (Nat.le_of_ble_eq_true rfl) (agg1 (Le.nils _ _)) (Le.refl _) (Le.refl _)
  · have hpa : parseA l = goP (splitL l) [] := by unfold parseA; rw [if_neg (by omega)]
    unfold parseL
    rw [hpa]
    have hll : l.length ≤ 65536 := by omega
    refine Run.holdBoxNil 5 0 90 27 1 (tRow.G []) rfl rfl rfl rfl ?_
    refine Run.hold 6 91 rfl rfl rfl ?_
    refine Run.loop [0, 2, 5, 6] (fun (a : Nat × List (List Int) × List UInt8) => [(7, .bool (badX a.2.2)), (8, .int .i64 (a.1 : Int))]) (fun a => [(2, .box 59 [.nils]), (5, .box 59 [.row 90]), (90, tRow.R 27 a.2.1), (91, tI.R 3 (a.2.2.map ixB))])
      (fun a => a.1 ≤ l.length ∧ goP (splitL l) [] = goP (splitL (a.2.2 ++ l.drop a.1)) a.2.1 ∧ (OkM a.2.1 ∨ a.2.1 = []) ∧ (∀ b ∈ a.2.2, b ≠ 10) ∧ a.2.2.length ≤ a.1) (fun a => l.length - a.1) (0, [], []) ⟨Nat.zero_le _, rfl, .inr rfl, fun b hb => (by cases hb), Nat.zero_le _⟩ ⟨Le.ff, Le.refl _, trivial⟩ ⟨MOle.refl _, MOle.refl _, MOle.refl _, ?_, trivial⟩ ?_
    · exact ⟨rfl, rfl, rfl, fun a b ha => absurd ha (Nat.not_lt_zero _)⟩
    intro ⟨i, R, cur⟩ ⟨hi, hg, hok, hcur, hcl⟩ IH
    simp only [] at hi hg hok hcur hcl ⊢
    have hw1 : IntKind.i64.wrap ((i : Int) + 1) = ((i + 1 : Nat) : Int) := wrap64 (by omega) (by omega)
    have hR12 : R.length ≤ 12 := by
      rcases hok with h | h
      · exact h.2.1
      · rw [h]; simp
    have hbi : i < l.length → l.drop i = l.getD i 0 :: l.drop (i + 1) := fun h => by
      rw [List.drop_eq_getElem_cons h, List.getD, List.getElem?_eq_getElem h]; rfl
    refine Run.go ?_; (conv => whnf); repeat' (first | ((with_reducible refine Know.mk fun _ => ?_); conv => whnf) | ((with_reducible refine Need.mk ?_ ?_); (first | omega | (dsimp only; omega) | decide | exact bytes_le (by rfl) (by omega) | exact ⟨rfl, by omega, bytes_le (by rfl) (by omega), by omega⟩ | (refine ⟨?_, ?_⟩ <;> (rw [wrap64 (by omega) (by omega)]; omega))); conv => whnf) | ((with_reducible refine Both.mk ?_ ?_) <;> conv => whnf) | ((with_reducible refine Any.mk fun b hb => ?_); conv => whnf) | ((with_reducible refine AskB.dec (fun hb => ?_) (fun hb => ?_)) <;> conv => whnf) | ((with_reducible refine AskB.ndec (fun hb => ?_) (fun hb => ?_)) <;> conv => whnf) | ((with_reducible refine AskB.mk (fun hb => ?_) (fun hb => ?_)) <;> conv => whnf) | ((with_reducible refine Run.drawX rfl (by decide +kernel) ?_); conv => whnf) | ((with_reducible refine Run.drawT rfl (by decide +kernel) ?_); conv => whnf) | ((with_reducible refine Run.drawW rfl (by decide +kernel) ?_); conv => whnf) | fail)
    case _ =>
      have hil : i < l.length := by omega
      have hb10 : l.getD i 0 = 10 := by
        have h2 : bt (bs l) i = bt (bs [10]) 0 := hb
        exact bt_eq.mp h2
      refine Run.freeze 91 rfl ?_
      refine aexec_ok 1 ?_; (conv => whnf); repeat' (first | ((with_reducible refine Know.mk fun _ => ?_); conv => whnf) | ((with_reducible refine Need.mk ?_ ?_); (first | omega | (dsimp only; omega) | decide | exact bytes_le (by rfl) (by omega) | exact ⟨rfl, by omega, bytes_le (by rfl) (by omega), by omega⟩ | (refine ⟨?_, ?_⟩ <;> (rw [wrap64 (by omega) (by omega)]; omega))); conv => whnf) | ((with_reducible refine Both.mk ?_ ?_) <;> conv => whnf) | ((with_reducible refine Any.mk fun b hb => ?_); conv => whnf) | ((with_reducible refine AskB.dec (fun hb => ?_) (fun hb => ?_)) <;> conv => whnf) | ((with_reducible refine AskB.ndec (fun hb => ?_) (fun hb => ?_)) <;> conv => whnf) | ((with_reducible refine AskB.mk (fun hb => ?_) (fun hb => ?_)) <;> conv => whnf) | ((with_reducible refine Run.drawX rfl (by decide +kernel) ?_); conv => whnf) | ((with_reducible refine Run.drawT rfl (by decide +kernel) ?_); conv => whnf) | ((with_reducible refine Run.drawW rfl (by decide +kernel) ?_); conv => whnf) | fail)
      refine Run.holdBoxRow 5 0 90 30 rfl rfl rfl rfl rfl rfl ?_
      refine Run.to [(0, .str (bs l)), (2, .box 2 0), (5, .box 5 0), (7, .bool (badX cur)), (8, .int .i64 (i : Int))]
        [(2, .box 59 [.nils]), (5, .box 59 [.row 90]), (90, tRow.R 27 (R ++ [cur.map ixB]))] ⟨Le.refl _, Le.refl _, Le.refl _, Le.refl _, Le.refl _, trivial⟩ ⟨MOle.refl _, MOle.refl _, ?_, trivial⟩ ?_
      · exact tRow.push 27 R (cur.map ixB) _ (fun j hj => by
          have hj0 : j = 0 := by have : j < 1 := hj; omega
          subst hj0; exact Le.refl _)
      have hsp : goP (splitL l) [] = goP (cur :: splitL (l.drop (i + 1))) R := by
        rw [hg, hbi hil, hb10, splitL_cut cur _ hcur]
      have hbad : ¬ OkM (R ++ [cur.map ixB]) → goP (splitL l) [] = ([], (R.length : Int), 190) := fun hno => by
        rw [hsp, goP_no (splitL_ne _) hno]
      have hww : IntKind.i64.wrap (((R ++ [cur.map ixB]).length : Int) - 1) = (R.length : Int) := by
        rw [List.length_append]
        show IntKind.i64.wrap (((R.length + 1 : Nat) : Int) - 1) = _
        rw [show ((R.length + 1 : Nat) : Int) - 1 = (R.length : Int) by omega]
        exact wrap64 (by omega) (by omega)
      refine Run.go ?_; (conv => whnf); repeat' (first | ((with_reducible refine Know.mk fun _ => ?_); conv => whnf) | ((with_reducible refine Need.mk ?_ ?_); (first | omega | (dsimp only; omega) | decide | exact bytes_le (by rfl) (by omega) | exact ⟨rfl, by omega, bytes_le (by rfl) (by omega), by omega⟩ | (refine ⟨?_, ?_⟩ <;> (rw [wrap64 (by omega) (by omega)]; omega))); conv => whnf) | ((with_reducible refine Both.mk ?_ ?_) <;> conv => whnf) | ((with_reducible refine Any.mk fun b hb => ?_); conv => whnf) | ((with_reducible refine AskB.dec (fun hb => ?_) (fun hb => ?_)) <;> conv => whnf) | ((with_reducible refine AskB.ndec (fun hb => ?_) (fun hb => ?_)) <;> conv => whnf) | ((with_reducible refine AskB.mk (fun hb => ?_) (fun hb => ?_)) <;> conv => whnf) | ((with_reducible refine Run.drawX rfl (by decide +kernel) ?_); conv => whnf) | ((with_reducible refine Run.drawT rfl (by decide +kernel) ?_); conv => whnf) | ((with_reducible refine Run.drawW rfl (by decide +kernel) ?_); conv => whnf) | fail)
      · rw [hbad (fun h => by
          obtain ⟨b, hb1, hb2⟩ := List.any_eq_true.mp hb
          obtain ⟨j, hj, e⟩ := List.getElem_of_mem hb1
          have h2 := ((ok_push hok).mp h).2.2.2 j (by rw [List.length_map]; exact hj)
          have h3 : (cur.map ixB).getD j tI.z = ixB b := by
            rw [List.getD, List.getElem?_map, List.getElem?_eq_getElem hj, e]; rfl
          rw [h3] at h2
          have h4 := of_decide_eq_true hb2
          omega)]
        exact Run.leaveC3 (.inr ⟨_, rfl⟩) rfl Tryd.func29 rfl rfl rfl (Nat.le_of_ble_eq_true rfl) (agg1 (Le.nils _ _)) (Le.int hww) (Le.refl _)
      · refine Run.callAX (check36_fn (R ++ [cur.map ixB])) rfl rfl ⟨?_, trivial⟩ rfl rfl rfl ?_
        · exact agg1 (Le.refl _)
        (conv => whnf); repeat' (first | ((with_reducible refine Know.mk fun _ => ?_); conv => whnf) | ((with_reducible refine Need.mk ?_ ?_); (first | omega | (dsimp only; omega) | decide | exact bytes_le (by rfl) (by omega) | exact ⟨rfl, by omega, bytes_le (by rfl) (by omega), by omega⟩ | (refine ⟨?_, ?_⟩ <;> (rw [wrap64 (by omega) (by omega)]; omega))); conv => whnf) | ((with_reducible refine Both.mk ?_ ?_) <;> conv => whnf) | ((with_reducible refine Any.mk fun b hb => ?_); conv => whnf) | ((with_reducible refine AskB.dec (fun hb => ?_) (fun hb => ?_)) <;> conv => whnf) | ((with_reducible refine AskB.ndec (fun hb => ?_) (fun hb => ?_)) <;> conv => whnf) | ((with_reducible refine AskB.mk (fun hb => ?_) (fun hb => ?_)) <;> conv => whnf) | ((with_reducible refine Run.drawX rfl (by decide +kernel) ?_); conv => whnf) | ((with_reducible refine Run.drawT rfl (by decide +kernel) ?_); conv => whnf) | ((with_reducible refine Run.drawW rfl (by decide +kernel) ?_); conv => whnf) | fail)
        · have hgood := codeM_zero hb
          refine Run.hold 6 91 rfl rfl rfl ?_
          refine Run.to _ _ ?_ ?_ (IH (i + 1, R ++ [cur.map ixB], []) (by simp only []; omega) ⟨by simp only []; omega, ?_, .inl hgood, fun b hb => (by cases hb), Nat.zero_le _⟩)
          · refine ⟨Le.refl _, Le.refl _, Le.refl _, Le.refl _, Le.bool ?_, Le.int hw1, trivial⟩
            show badX cur = badX []
            have : badX cur = false := by assumption
            rw [this]; rfl
          · exact ⟨MOle.refl _, MOle.refl _, MOle.refl _, ⟨rfl, rfl, rfl, fun a b ha => absurd ha (Nat.not_lt_zero _)⟩, trivial⟩
          · rw [hsp, goP_ok (splitL_ne _) hgood]; rfl
        · rw [hbad (fun h => hb (codeM_yes h))]
          exact Run.leaveC3 (.inr ⟨_, rfl⟩) rfl Tryd.func29 rfl rfl rfl (Nat.le_of_ble_eq_true rfl) (agg1 (Le.nils _ _)) (Le.int hww) (Le.refl _)
    case _ =>
      have hil : i < l.length := by omega
      have hbn : l.getD i 0 ≠ 10 := fun h => hb (by
        show bt (bs l) i = 10
        exact (bt_eq (b := [10]) (j := 0)).mpr h)
      refine Run.loop [0, 2, 5, 6, 7, 8] (fun (k : Nat) => [(9, .int .i64 (scanX (l.getD i 0) k)), (10, .int .i64 (k : Int))]) (fun k => [(2, .box 59 [.nils]), (5, .box 59 [.row 90]), (90, tRow.R 27 R), (91, tI.R 3 (cur.map ixB))]) (fun k => k ≤ 13) (fun k => 13 - k) 0 (Nat.zero_le _) ⟨Le.refl _, Le.refl _, trivial⟩ ⟨MOle.refl _, MOle.refl _, MOle.refl _, MOle.refl _, trivial⟩ ?_
      intro k hk IHk
      have hcm : (cur.map ixB).length ≤ 65536 := by rw [List.length_map]; omega
      have hwk : IntKind.i64.wrap ((k : Int) + 1) = ((k + 1 : Nat) : Int) := wrap64 (by omega) (by omega)
      have hwk2 : IntKind.i64.wrap ((k : Int) - 1) = (k : Int) - 1 := wrap64 (by omega) (by omega)
      have hsg : (ByteArray.mk #[63, 48, 49, 50, 51, 52, 53, 54, 55, 56, 57, 97, 98]).size = 13 := rfl
      refine Run.go ?_; (conv => whnf); repeat' (first | ((with_reducible refine Know.mk fun _ => ?_); conv => whnf) | ((with_reducible refine Need.mk ?_ ?_); (first | omega | (dsimp only; omega) | decide | exact bytes_le (by rfl) (by omega) | exact ⟨rfl, by omega, bytes_le (by rfl) (by omega), by omega⟩ | (refine ⟨?_, ?_⟩ <;> (rw [wrap64 (by omega) (by omega)]; omega))); conv => whnf) | ((with_reducible refine Both.mk ?_ ?_) <;> conv => whnf) | ((with_reducible refine Any.mk fun b hb => ?_); conv => whnf) | ((with_reducible refine AskB.dec (fun hb => ?_) (fun hb => ?_)) <;> conv => whnf) | ((with_reducible refine AskB.ndec (fun hb => ?_) (fun hb => ?_)) <;> conv => whnf) | ((with_reducible refine AskB.mk (fun hb => ?_) (fun hb => ?_)) <;> conv => whnf) | ((with_reducible refine Run.drawX rfl (by decide +kernel) ?_); conv => whnf) | ((with_reducible refine Run.drawT rfl (by decide +kernel) ?_); conv => whnf) | ((with_reducible refine Run.drawW rfl (by decide +kernel) ?_); conv => whnf) | fail)
      case _ =>
        have he : signL.getD k 0 = l.getD i 0 := (bt_eq (a := signL)).mp hb
        refine Run.to _ _ ?_ ?_ (IHk (k + 1) (by omega) (by omega))
        · exact ⟨Le.refl _, Le.refl _, Le.refl _, Le.refl _, Le.refl _, Le.refl _, Le.int (by rw [hwk2, scanX, if_pos he]), Le.int hwk, trivial⟩
        · exact ⟨MOle.refl _, MOle.refl _, MOle.refl _, MOle.refl _, trivial⟩
      case _ =>
        have he : ¬ signL.getD k 0 = l.getD i 0 := fun h => hb ((bt_eq (a := signL)).mpr h)
        refine Run.to _ _ ?_ ?_ (IHk (k + 1) (by omega) (by omega))
        · exact ⟨Le.refl _, Le.refl _, Le.refl _, Le.refl _, Le.refl _, Le.refl _, Le.int (by rw [scanX, if_neg he]), Le.int hwk, trivial⟩
        · exact ⟨MOle.refl _, MOle.refl _, MOle.refl _, MOle.refl _, trivial⟩
      all_goals
        have hk13 : k = 13 := by omega
        subst hk13
        refine Run.hold 6 91 rfl rfl rfl ?_
        refine Run.to _ _ ?_ ?_ (IH (i + 1, R, cur ++ [l.getD i 0]) (by simp only []; omega) ⟨by simp only []; omega, ?_, hok, ?_, by simp only [List.length_append, List.length_cons, List.length_nil]; omega⟩)
        · refine ⟨Le.refl _, Le.refl _, Le.refl _, Le.refl _, ?_, Le.int hw1, trivial⟩
          have hbx : badX (cur ++ [l.getD i 0]) = (badX cur || decide (ixB (l.getD i 0) = -2)) := by simp [badX]
          have hbc : badX cur = true ∨ badX cur = false := by cases badX cur <;> simp
          first
            | exact Le.tt.trans (Le.bool (by show true = badX (cur ++ [l.getD i 0]); rw [hbx]; have h9 : badX cur = true := (by assumption); rw [h9]; rfl))
            | exact Le.bool (by show _ = badX (cur ++ [l.getD i 0]); rw [hbx, scan_ix]; have h9 : badX cur = false := (by assumption); rw [h9]; rfl)
        · refine ⟨MOle.refl _, MOle.refl _, MOle.refl _, ?_, trivial⟩
          rw [List.map_append]
          exact tI.push 3 (cur.map ixB) (ixB (l.getD i 0)) _ (fun j hj => by
            have hj0 : j = 0 := by have : j < 1 := hj; omega
            subst hj0; exact Le.int (scan_ix _))
        · rw [hg, hbi hil]; simp
        · intro b hb
          rcases List.mem_append.mp hb with h | h
          · exact hcur b h
          · rw [List.mem_singleton.mp h]; exact hbn
    all_goals
      have hie : i = l.length := by omega
      have hend : goP (splitL l) [] = if cur = [] ∧ R ≠ [] then (R, 0, 0) else ([], (R.length : Int), 190) := by
        rw [hg, hie, List.drop_length, List.append_nil, splitL_one cur hcur, goP_last]
    case _ =>
      rw [hend, if_neg (fun h => by rw [h.1] at hb; exact absurd hb (by decide))]
      exact Run.leaveC3 (.inr ⟨_, rfl⟩) rfl Tryd.func29 rfl rfl rfl (Nat.le_of_ble_eq_true rfl) (agg1 (Le.nils _ _)) (Le.refl _) (Le.refl _)
    case _ =>
      rw [hend, if_neg (fun h => by
        have h2 := List.length_pos_iff.mpr h.2
        omega)]
      exact Run.leaveC3 (.inr ⟨_, rfl⟩) rfl Tryd.func29 rfl rfl rfl (Nat.le_of_ble_eq_true rfl) (agg1 (Le.nils _ _)) (Le.refl _) (Le.refl _)
    case _ =>
      have hc0 : cur = [] := by
        have h3 : ¬ 0 < ((cur.map ixB).length : Int) := by assumption
        rw [List.length_map] at h3
        exact List.length_eq_zero_iff.mp (by omega)
      have hR0 : R ≠ [] := fun h => hb (by rw [h]; rfl)
      rw [hend, if_pos ⟨hc0, hR0⟩]
      exact Run.leaveC3 (.inr ⟨_, rfl⟩) rfl Tryd.func29 rfl rfl rfl (Nat.le_of_ble_eq_true rfl) (agg1 (Le.refl _)) (Le.refl _) (Le.refl _)
end Go.Proofs.YtnadacaoehpdnaaDoor.V
