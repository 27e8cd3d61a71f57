/-
matrix.Parse walked.
-/
import Derived.Test.YtnadacaoehpdnaaDoorWf
import Derived.Test.YtnadacaoehpdnaaDoorRc
import Derived.Lib.DecodeN
namespace Go.Proofs.YtnadacaoehpdnaaDoor.V
open Go Go.Proofs Go.RowKit
set_option linter.unusedVariables false
set_option linter.unusedSimpArgs false
set_option maxRecDepth 100000
set_option maxHeartbeats 2000000
open Go Go.Proofs Go.Proofs.YtnadacaoehpdnaaDoor.V
theorem agg1 {get : Nat → AV} {m : List (List Int)} (h : Le (get 0) (tRow.L m)) : Le (.agg 1 get) (mxA m) := Le.agg (fun j hj => by
  have : j = 0 := by omega
  subst this; exact h)
def rowsM (l : List UInt8) (n : Nat) : List (List Int) := ((splitL l).take n).map (fun x => x.map ixB)
theorem rowsM_len (l : List UInt8) (n : Nat) (h : n ≤ (splitL l).length) : (rowsM l n).length = n := by
  unfold rowsM; rw [List.length_map, List.length_take]; omega
theorem rowsM_succ (l : List UInt8) (n : Nat) (h : n < (splitL l).length) : rowsM l (n + 1) = rowsM l n ++ [((splitL l).getD n []).map ixB] := by
  unfold rowsM
  rw [List.take_succ_eq_append_getElem h, List.map_append, List.getD, List.getElem?_eq_getElem h]; rfl
theorem splitB_at (l : List UInt8) (n : Nat) (h : n < (splitL l).length) : (splitB l).getD n tS.z = bs ((splitL l).getD n []) := by
  unfold splitB
  rw [List.getD, List.getD, List.getElem?_map, List.getElem?_eq_getElem h]; rfl
theorem splitL_short : ∀ (l : List UInt8) (x : List UInt8), x ∈ splitL l → x.length ≤ l.length
  | [], x, h => by simp [splitL] at h; subst h; simp
  | b :: l, x, h => by
    rw [splitL] at h
    split at h
    · rcases List.mem_cons.mp h with rfl | h
      · simp
      · have := splitL_short l x h; simp only [List.length_cons]; omega
    · cases hs : splitL l with
      | nil => exact absurd hs (splitL_ne l)
      | cons y t =>
        rw [hs] at h
        simp only [List.headD_cons, List.tail_cons] at h
        rcases List.mem_cons.mp h with rfl | h
        · have := splitL_short l y (by rw [hs]; simp)
          simp only [List.length_cons]; omega
        · have := splitL_short l x (by rw [hs]; simp [h])
          simp only [List.length_cons]; omega
theorem dec_ascii (x : List UInt8) (p : Nat) (h : (x.getD p 0).toNat < 128) : (Utf8.decode (bs x) p).2 = 1 := by
  rw [Lib.decode_at]
  have e : ((bs x).get! p).toNat < 128 := by
    have : (bs x).get! p = x.getD p 0 := by simp [bs, ByteArray.get!, List.getD]; rfl
    rw [this]; exact h
  unfold Lib.decodeN
  rw [if_pos e]
theorem parse28_fn (l : List UInt8) : Fn Tryd.prog 28 [.str (bs l)] (parseL l) := by
  refine Fn.of Tryd.f28 _ Tryd.func28 rfl (by decide) (by show 1 ≤ _; decide) tbOk 91 rfl fun S w0 gl => ?_
  have hsz := bs_size l
  refine Run.go ?_; (conv => whnf); repeat' (first | ((with_reducible refine Know.mk fun _ => ?_); conv => whnf) | ((with_reducible refine Need.mk ?_ ?_); (first | omega | (dsimp only; omega) | decide | exact bytes_le (by rfl) (by omega) | exact ⟨rfl, by omega, bytes_le (by rfl) (by omega), by omega⟩ | (refine ⟨?_, ?_⟩ <;> (rw [wrap64 (by omega) (by omega)]; omega))); conv => whnf) | ((with_reducible refine Both.mk ?_ ?_) <;> conv => whnf) | ((with_reducible refine Any.mk fun b hb => ?_); conv => whnf) | ((with_reducible refine AskB.dec (fun hb => ?_) (fun hb => ?_)) <;> conv => whnf) | ((with_reducible refine AskB.ndec (fun hb => ?_) (fun hb => ?_)) <;> conv => whnf) | ((with_reducible refine AskB.mk (fun hb => ?_) (fun hb => ?_)) <;> conv => whnf) | ((with_reducible refine Run.drawX rfl (by decide +kernel) ?_); conv => whnf) | ((with_reducible refine Run.drawT rfl (by decide +kernel) ?_); conv => whnf) | ((with_reducible refine Run.drawW rfl (by decide +kernel) ?_); conv => whnf) | fail)
  · have hp : parseA l = ([], 0, 1) := by unfold parseA; rw [if_pos (by omega)]
    unfold parseL
    rw [hp]
    exact Run.leaveC3 (.inr ⟨_, rfl⟩) rfl Tryd.func28 rfl rfl rfl (Nat.le_of_ble_eq_true rfl) (agg1 (Le.nils _ _)) (Le.refl _) (Le.refl _)
  · refine Run.callBX (split46_fn l (by omega)) rfl rfl ⟨Le.refl _, Le.refl _, trivial⟩ rfl rfl rfl ?_
    have hpa : parseA l = goP (splitL l) [] := by unfold parseA; rw [if_neg (by omega)]
    have hlB : (splitB l).length = (splitL l).length := by unfold splitB; rw [List.length_map]
    have hpos : 1 ≤ (splitB l).length := by
      have := List.length_pos_iff.mpr (splitL_ne l)
      omega
    have hle : (splitB l).length ≤ 65537 := by
      have hle : Lib.countByte l 10 ≤ l.length := List.count_le_length
      rw [hlB, splitL_len]; omega
    have hw : IntKind.i64.wrap (((splitB l).length : Int) - 1) = ((splitB l).length : Int) - 1 := wrap64 (by omega) (by omega)
    (conv => whnf); repeat' (first | ((with_reducible refine Know.mk fun _ => ?_); conv => whnf) | ((with_reducible refine Need.mk ?_ ?_); (first | omega | (dsimp only; omega) | decide | exact bytes_le (by rfl) (by omega) | exact ⟨rfl, by omega, bytes_le (by rfl) (by omega), by omega⟩ | (refine ⟨?_, ?_⟩ <;> (rw [wrap64 (by omega) (by omega)]; omega))); conv => whnf) | ((with_reducible refine Both.mk ?_ ?_) <;> conv => whnf) | ((with_reducible refine Any.mk fun b hb => ?_); conv => whnf) | ((with_reducible refine AskB.dec (fun hb => ?_) (fun hb => ?_)) <;> conv => whnf) | ((with_reducible refine AskB.ndec (fun hb => ?_) (fun hb => ?_)) <;> conv => whnf) | ((with_reducible refine AskB.mk (fun hb => ?_) (fun hb => ?_)) <;> conv => whnf) | ((with_reducible refine Run.drawX rfl (by decide +kernel) ?_); conv => whnf) | ((with_reducible refine Run.drawT rfl (by decide +kernel) ?_); conv => whnf) | ((with_reducible refine Run.drawW rfl (by decide +kernel) ?_); conv => whnf) | fail)
    refine Run.holdBoxNil 7 0 90 27 1 (tRow.G []) rfl rfl rfl rfl ?_
    unfold parseL
    rw [hpa]
    refine Run.loop [2, 5, 6, 7, 23, 24] (fun (n : Nat) => [(25, .int .i64 (n : Int))]) (fun n => [(2, .box 59 [.nils]), (7, .box 59 [.row 90]), (90, tRow.R 27 (rowsM l n))]) (fun n => n + 1 ≤ (splitL l).length ∧ goP (splitL l) [] = goP ((splitL l).drop n) (rowsM l n) ∧ (OkM (rowsM l n) ∨ rowsM l n = [])) (fun n => (splitL l).length - n) 0 ⟨by omega, rfl, .inr rfl⟩ ⟨Le.refl _, trivial⟩ ⟨MOle.refl _, MOle.refl _, MOle.refl _, trivial⟩ ?_
    intro n ⟨hn, hg, hok⟩ IH
    have hw1 : IntKind.i64.wrap ((n : Int) + 1) = ((n + 1 : Nat) : Int) := wrap64 (by omega) (by omega)
    have hrl := rowsM_len l n (by omega)
    have hnl : n < (splitL l).length := by omega
    have hline := splitB_at l n hnl
    have hxs : ((splitL l).getD n []).length ≤ 65536 := by
      have := splitL_short l ((splitL l).getD n []) (by rw [List.getD, List.getElem?_eq_getElem hnl]; exact List.getElem_mem hnl)
      omega
    have hls : ((splitB l).getD (↑n : Int).toNat tS.z).size ≤ 65536 := by rw [Int.toNat_natCast, hline, bs_size]; exact hxs
    have hdrop : (splitL l).drop n = (splitL l).getD n [] :: (splitL l).drop (n + 1) := by
      rw [List.drop_eq_getElem_cons hnl, List.getD, List.getElem?_eq_getElem hnl]; rfl
    have hwn : (IntKind.i64.wrap (((splitB l).length : Int) - 1)).toNat = (splitL l).length - 1 := by rw [hw]; omega
    have hfin : ¬ (n : Int) < ((IntKind.i64.wrap (((splitB l).length : Int) - 1)).toNat : Int) → n = (splitL l).length - 1 ∧ (splitL l).drop n = [(splitL l).getD n []] ∧ (splitB l).getD (IntKind.i64.wrap (((splitB l).length : Int) - 1)).toNat tS.z = bs ((splitL l).getD n []) := fun h => by
      rw [hwn] at h ⊢
      have e : n = (splitL l).length - 1 := by omega
      refine ⟨e, ?_, by rw [← e]; exact hline⟩
      rw [hdrop, List.drop_of_length_le (by omega)]
    have hbse : ∀ x : List UInt8, bs x = { data := #[] } ↔ x = [] := fun x => by
      constructor
      · intro h; exact bs_inj (h.trans (rfl : ({ data := #[] } : ByteArray) = bs []))
      · intro h; rw [h]; rfl
    refine Run.go ?_; (conv => whnf); repeat' (first | ((with_reducible refine Know.mk fun _ => ?_); conv => whnf) | ((with_reducible refine Need.mk ?_ ?_); (first | omega | (dsimp only; omega) | decide | exact bytes_le (by rfl) (by omega) | exact ⟨rfl, by omega, bytes_le (by rfl) (by omega), by omega⟩ | (refine ⟨?_, ?_⟩ <;> (rw [wrap64 (by omega) (by omega)]; omega))); conv => whnf) | ((with_reducible refine Both.mk ?_ ?_) <;> conv => whnf) | ((with_reducible refine Any.mk fun b hb => ?_); conv => whnf) | ((with_reducible refine AskB.dec (fun hb => ?_) (fun hb => ?_)) <;> conv => whnf) | ((with_reducible refine AskB.ndec (fun hb => ?_) (fun hb => ?_)) <;> conv => whnf) | ((with_reducible refine AskB.mk (fun hb => ?_) (fun hb => ?_)) <;> conv => whnf) | ((with_reducible refine Run.drawX rfl (by decide +kernel) ?_); conv => whnf) | ((with_reducible refine Run.drawT rfl (by decide +kernel) ?_); conv => whnf) | ((with_reducible refine Run.drawW rfl (by decide +kernel) ?_); conv => whnf) | fail)
    case _ =>
      have hnn : (n : Int) < ((splitL l).length : Int) - 1 := by rw [hwn] at hb; omega
      rw [Int.toNat_natCast] at hls
      generalize hx : (splitL l).getD n [] = x at *
      have hxr : (x.map ixB).length = x.length := List.length_map _
      refine Run.loop [2, 5, 6, 7, 8, 10, 23, 24, 25, 34] (fun (p : Nat) => [(9, .str (bs x))]) (fun p => [(2, .box 59 [.nils]), (7, .box 59 [.row 90]), (32, tI.R 3 (part (x.map ixB) 0 p)), (34, .iter (bs x) p), (90, tRow.R 27 (rowsM l n))]) (fun p => p ≤ x.length ∧ ∀ j, j < p → -1 ≤ ixB (x.getD j 0)) (fun p => x.length - p) 0 ⟨Nat.zero_le _, fun j h => absurd h (Nat.not_lt_zero _)⟩ ⟨Le.str (by rw [Int.toNat_natCast, hline]), trivial⟩ ⟨MOle.refl _, MOle.refl _, ?_, ⟨by rw [Int.toNat_natCast, hline], rfl⟩, MOle.refl _, trivial⟩ ?_
      · rw [part_none]
        show MOle (.row 3 1 ((splitB l).getD n tS.z).size (fun i j => [AV.int .i64 0].getD j AV.u)) _
        refine ⟨rfl, rfl, by rw [hline, bs_size]; simp, fun i j hi hj => ?_⟩
        have hj0 : j = 0 := by have : j < 1 := hj; omega
        subst hj0
        unfold Ty.G
        rw [List.getD, List.getElem?_replicate]
        split <;> exact Le.refl _
      intro p ⟨hp, hpa2⟩ IHp
      have hbx := bs_size x
      have hpl := part_len (x.map ixB) (0 : Int) p (by omega)
      refine Run.go ?_; (conv => whnf); repeat' (first | ((with_reducible refine Know.mk fun _ => ?_); conv => whnf) | ((with_reducible refine Need.mk ?_ ?_); (first | omega | (dsimp only; omega) | decide | exact bytes_le (by rfl) (by omega) | exact ⟨rfl, by omega, bytes_le (by rfl) (by omega), by omega⟩ | (refine ⟨?_, ?_⟩ <;> (rw [wrap64 (by omega) (by omega)]; omega))); conv => whnf) | ((with_reducible refine Both.mk ?_ ?_) <;> conv => whnf) | ((with_reducible refine Any.mk fun b hb => ?_); conv => whnf) | ((with_reducible refine AskB.dec (fun hb => ?_) (fun hb => ?_)) <;> conv => whnf) | ((with_reducible refine AskB.ndec (fun hb => ?_) (fun hb => ?_)) <;> conv => whnf) | ((with_reducible refine AskB.mk (fun hb => ?_) (fun hb => ?_)) <;> conv => whnf) | ((with_reducible refine Run.drawX rfl (by decide +kernel) ?_); conv => whnf) | ((with_reducible refine Run.drawT rfl (by decide +kernel) ?_); conv => whnf) | ((with_reducible refine Run.drawW rfl (by decide +kernel) ?_); conv => whnf) | fail)
      case _ =>
        have hpx : p < x.length := by omega
        have hbt : Lib.indexByte signL (bt (bs x) (↑p : Int).toNat).toNat.toUInt8 = ixB (x.getD p 0) + 1 := by
          rw [Int.toNat_natCast]
          have e1 : (bt (bs x) p).toNat.toUInt8 = x.getD p 0 := by
            unfold bt; rw [bs_data, Int.toNat_natCast]; simp
          rw [e1]; unfold ixB; omega
        have hir := ix_range (x.getD p 0)
        have hwx : IntKind.i64.wrap (ixB (x.getD p 0) + 1 - 1) = ixB (x.getD p 0) := by rw [show ixB (x.getD p 0) + 1 - 1 = ixB (x.getD p 0) by omega]; exact wrap64 (by omega) (by omega)
        have hgx : (x.map ixB).getD p 0 = ixB (x.getD p 0) := by
          rw [List.getD, List.getD, List.getElem?_map, List.getElem?_eq_getElem hpx]; rfl
        refine Run.callB (ib47_fn signL (bt (bs x) (↑p : Int).toNat)) rfl rfl ⟨Le.refl _, Le.refl _, trivial⟩ rfl rfl rfl ?_
        rw [hbt]
        refine aexec_ok 1 ?_; (conv => whnf); repeat' (first | ((with_reducible refine Know.mk fun _ => ?_); conv => whnf) | ((with_reducible refine Need.mk ?_ ?_); (first | omega | (dsimp only; omega) | decide | exact bytes_le (by rfl) (by omega) | exact ⟨rfl, by omega, bytes_le (by rfl) (by omega), by omega⟩ | (refine ⟨?_, ?_⟩ <;> (rw [wrap64 (by omega) (by omega)]; omega))); conv => whnf) | ((with_reducible refine Both.mk ?_ ?_) <;> conv => whnf) | ((with_reducible refine Any.mk fun b hb => ?_); conv => whnf) | ((with_reducible refine AskB.dec (fun hb => ?_) (fun hb => ?_)) <;> conv => whnf) | ((with_reducible refine AskB.ndec (fun hb => ?_) (fun hb => ?_)) <;> conv => whnf) | ((with_reducible refine AskB.mk (fun hb => ?_) (fun hb => ?_)) <;> conv => whnf) | ((with_reducible refine Run.drawX rfl (by decide +kernel) ?_); conv => whnf) | ((with_reducible refine Run.drawT rfl (by decide +kernel) ?_); conv => whnf) | ((with_reducible refine Run.drawW rfl (by decide +kernel) ?_); conv => whnf) | fail)
        refine Run.to [(2, .box 2 0), (5, tS.L (splitB l)), (6, .int .i64 (IntKind.i64.wrap (((splitB l).length : Int) - 1))), (7, .box 7 0), (8, .int .i64 (n : Int)), (9, .str (bs x)), (10, .row 32), (11, .int .i64 (p : Int)), (23, .sl (IntKind.i64.wrap (((splitB l).length : Int) - 1)).toNat tS.sz (tS.G (splitB l))), (24, .int .i64 ((IntKind.i64.wrap (((splitB l).length : Int) - 1)).toNat : Int)), (25, .int .i64 (n : Int)), (34, .obj 34)]
          [(2, .box 59 [.nils]), (7, .box 59 [.row 90]), (32, tI.R 3 (part (x.map ixB) 0 (p + 1))), (34, .iter (bs x) (p + (Utf8.decode (bs x) p).2)), (90, tRow.R 27 (rowsM l n))] ⟨Le.refl _, Le.refl _, Le.refl _, Le.refl _, Le.refl _, Le.refl _, Le.refl _, Le.refl _, Le.refl _, Le.refl _, Le.refl _, Le.refl _, trivial⟩ ⟨MOle.refl _, MOle.refl _, ?_, MOle.refl _, MOle.refl _, trivial⟩ ?_
        · rw [← part_set (x.map ixB) 0 p (by omega), hgx]
          refine tI.set 3 (part (x.map ixB) 0 p) p _ (by omega) _ rfl (fun j y hy => ?_)
          have hj : j = 0 := by
            rcases j with _ | j
            · rfl
            · simp at hy
          subst hj
          cases hy
          exact Le.int hwx
        have hpl2 := part_len (x.map ixB) (0 : Int) (p + 1) (by omega)
        have hgp : (part (x.map ixB) (0 : Int) (p + 1)).getD p tI.z = ixB (x.getD p 0) := by
          rw [← hgx]
          show ((x.map ixB).take (p + 1) ++ List.replicate _ 0).getD p tI.z = _
          rw [List.getD, List.getElem?_append_left (by rw [List.length_take]; omega), List.getElem?_take_of_lt (by omega)]; rfl
        refine Run.go ?_; (conv => whnf); repeat' (first | ((with_reducible refine Know.mk fun _ => ?_); conv => whnf) | ((with_reducible refine Need.mk ?_ ?_); (first | omega | (dsimp only; omega) | decide | exact bytes_le (by rfl) (by omega) | exact ⟨rfl, by omega, bytes_le (by rfl) (by omega), by omega⟩ | (refine ⟨?_, ?_⟩ <;> (rw [wrap64 (by omega) (by omega)]; omega))); conv => whnf) | ((with_reducible refine Both.mk ?_ ?_) <;> conv => whnf) | ((with_reducible refine Any.mk fun b hb => ?_); conv => whnf) | ((with_reducible refine AskB.dec (fun hb => ?_) (fun hb => ?_)) <;> conv => whnf) | ((with_reducible refine AskB.ndec (fun hb => ?_) (fun hb => ?_)) <;> conv => whnf) | ((with_reducible refine AskB.mk (fun hb => ?_) (fun hb => ?_)) <;> conv => whnf) | ((with_reducible refine Run.drawX rfl (by decide +kernel) ?_); conv => whnf) | ((with_reducible refine Run.drawT rfl (by decide +kernel) ?_); conv => whnf) | ((with_reducible refine Run.drawW rfl (by decide +kernel) ?_); conv => whnf) | fail)
        case _ =>
          rw [Int.toNat_natCast, hgp] at hb
          have hno : ¬ OkM (rowsM l n ++ [x.map ixB]) := fun h => by
            have h2 := ((ok_push hok).mp h).2.2.2 p (by omega)
            rw [show (x.map ixB).getD p tI.z = ixB (x.getD p 0) from hgx] at h2
            omega
          rw [hdrop, goP_no (fun h => by have := congrArg List.length h; rw [List.length_drop] at this; simp at this; omega) hno] at hg
          rw [hg]
          exact Run.leaveC3 (.inr ⟨_, rfl⟩) rfl Tryd.func28 rfl rfl rfl (Nat.le_of_ble_eq_true rfl) (agg1 (Le.nils _ _)) (Le.int (by show (n : Int) = ((rowsM l n).length : Int); rw [hrl])) (Le.refl _)
        case _ =>
          rw [Int.toNat_natCast, hgp] at hb
          have hdec : (Utf8.decode (bs x) p).2 = 1 := dec_ascii x p (ix_ascii _ (by omega))
          refine Run.to _ _ ?_ ?_ (IHp (p + 1) (by omega) ⟨by omega, ?_⟩)
          · exact ⟨Le.refl _, Le.refl _, Le.refl _, Le.refl _, Le.refl _, Le.refl _, Le.refl _, Le.refl _, Le.refl _, Le.refl _, Le.refl _, trivial⟩
          · exact ⟨MOle.refl _, MOle.refl _, MOle.refl _, ⟨rfl, by rw [hdec]⟩, MOle.refl _, trivial⟩
          · intro j hj
            rcases Nat.lt_succ_iff_lt_or_eq.mp hj with h | h
            · exact hpa2 j h
            · subst h; omega
      case _ =>
        have hpe : p = x.length := by omega
        subst hpe
        rw [show part (x.map ixB) 0 x.length = x.map ixB by rw [← hxr, part_all]]
        refine Run.freeze 32 rfl ?_
        have hsucc := rowsM_succ l n hnl
        rw [hx] at hsucc
        have hh0 : ∀ r : List Int, 0 < (rowsM l n ++ [r]).length := fun r => by simp
        refine aexec_ok 1 ?_; (conv => whnf); repeat' (first | ((with_reducible refine Know.mk fun _ => ?_); conv => whnf) | ((with_reducible refine Need.mk ?_ ?_); (first | omega | (dsimp only; omega) | decide | exact bytes_le (by rfl) (by omega) | exact ⟨rfl, by omega, bytes_le (by rfl) (by omega), by omega⟩ | (refine ⟨?_, ?_⟩ <;> (rw [wrap64 (by omega) (by omega)]; omega))); conv => whnf) | ((with_reducible refine Both.mk ?_ ?_) <;> conv => whnf) | ((with_reducible refine Any.mk fun b hb => ?_); conv => whnf) | ((with_reducible refine AskB.dec (fun hb => ?_) (fun hb => ?_)) <;> conv => whnf) | ((with_reducible refine AskB.ndec (fun hb => ?_) (fun hb => ?_)) <;> conv => whnf) | ((with_reducible refine AskB.mk (fun hb => ?_) (fun hb => ?_)) <;> conv => whnf) | ((with_reducible refine Run.drawX rfl (by decide +kernel) ?_); conv => whnf) | ((with_reducible refine Run.drawT rfl (by decide +kernel) ?_); conv => whnf) | ((with_reducible refine Run.drawW rfl (by decide +kernel) ?_); conv => whnf) | fail)
        refine Run.holdBoxRow 7 0 90 57 rfl rfl rfl rfl rfl rfl ?_
        refine Run.to [(2, .box 2 0), (5, tS.L (splitB l)), (6, .int .i64 (IntKind.i64.wrap (((splitB l).length : Int) - 1))), (7, .box 7 0), (8, .int .i64 (n : Int)), (10, tI.L (x.map ixB)), (23, .sl (IntKind.i64.wrap (((splitB l).length : Int) - 1)).toNat tS.sz (tS.G (splitB l))), (24, .int .i64 ((IntKind.i64.wrap (((splitB l).length : Int) - 1)).toNat : Int)), (25, .int .i64 (n : Int))]
          [(2, .box 59 [.nils]), (7, .box 59 [.row 90]), (90, tRow.R 27 (rowsM l n ++ [x.map ixB]))] ⟨Le.refl _, Le.refl _, Le.refl _, Le.refl _, Le.refl _, Le.refl _, Le.refl _, Le.refl _, Le.refl _, trivial⟩ ⟨MOle.refl _, MOle.refl _, ?_, trivial⟩ ?_
        · exact tRow.push 27 (rowsM l n) (x.map ixB) _ (fun j hj => by
            have hj0 : j = 0 := by have : j < 1 := hj; omega
            subst hj0; exact Le.refl _)
        have hh1 : (0 : Int) < ((rowsM l n ++ [x.map ixB]).length : Int) := by have := hh0 (x.map ixB); omega
        have hbad : ¬ OkM (rowsM l n ++ [x.map ixB]) → goP (splitL l) [] = ([], (n : Int), 190) := fun hno => by
          rw [hg, hdrop, goP_no (fun h => by have := congrArg List.length h; rw [List.length_drop] at this; simp at this; omega) hno, hrl]
        refine Run.go ?_; (conv => whnf); repeat' (first | ((with_reducible refine Know.mk fun _ => ?_); conv => whnf) | ((with_reducible refine Need.mk ?_ ?_); (first | omega | (dsimp only; omega) | decide | exact bytes_le (by rfl) (by omega) | exact ⟨rfl, by omega, bytes_le (by rfl) (by omega), by omega⟩ | (refine ⟨?_, ?_⟩ <;> (rw [wrap64 (by omega) (by omega)]; omega))); conv => whnf) | ((with_reducible refine Both.mk ?_ ?_) <;> conv => whnf) | ((with_reducible refine Any.mk fun b hb => ?_); conv => whnf) | ((with_reducible refine AskB.dec (fun hb => ?_) (fun hb => ?_)) <;> conv => whnf) | ((with_reducible refine AskB.ndec (fun hb => ?_) (fun hb => ?_)) <;> conv => whnf) | ((with_reducible refine AskB.mk (fun hb => ?_) (fun hb => ?_)) <;> conv => whnf) | ((with_reducible refine Run.drawX rfl (by decide +kernel) ?_); conv => whnf) | ((with_reducible refine Run.drawT rfl (by decide +kernel) ?_); conv => whnf) | ((with_reducible refine Run.drawW rfl (by decide +kernel) ?_); conv => whnf) | fail)
        case _ =>
          rw [hbad (fun h => by have := ((ok_push hok).mp h).1; omega)]
          exact Run.leaveC3 (.inr ⟨_, rfl⟩) rfl Tryd.func28 rfl rfl rfl (Nat.le_of_ble_eq_true rfl) (agg1 (Le.nils _ _)) (Le.refl _) (Le.refl _)
        case _ =>
          rw [hbad (fun h => by have := ((ok_push hok).mp h).2.1; omega)]
          exact Run.leaveC3 (.inr ⟨_, rfl⟩) rfl Tryd.func28 rfl rfl rfl (Nat.le_of_ble_eq_true rfl) (agg1 (Le.nils _ _)) (Le.refl _) (Le.refl _)
        case _ =>
          have hgood : OkM (rowsM l n ++ [x.map ixB]) := (ok_push hok).mpr ⟨by omega, by omega, by simp only [Int.toNat_zero] at *; omega, fun j hj => by
            rw [hxr] at hj
            have h1 := hpa2 j hj
            have h2 := ix_range (x.getD j 0)
            have h3 : (x.map ixB).getD j tI.z = ixB (x.getD j 0) := by
              rw [List.getD, List.getD, List.getElem?_map, List.getElem?_eq_getElem hj]; rfl
            rw [h3]; omega⟩
          refine Run.to _ _ ?_ ?_ (IH (n + 1) (by omega) ⟨by omega, ?_, ?_⟩)
          · exact ⟨Le.refl _, Le.refl _, Le.refl _, Le.refl _, Le.refl _, Le.refl _, Le.int hw1, trivial⟩
          · refine ⟨MOle.refl _, MOle.refl _, ?_, trivial⟩
            rw [hsucc]; exact MOle.refl _
          · rw [hg, hdrop, goP_ok (fun h => by have := congrArg List.length h; rw [List.length_drop] at this; simp at this; omega) hgood, hsucc]
          · rw [hsucc]; exact .inl hgood
        case _ =>
          rw [hbad (fun h => by have := ((ok_push hok).mp h).2.2.1; simp only [Int.toNat_zero] at *; omega)]
          exact Run.leaveC3 (.inr ⟨_, rfl⟩) rfl Tryd.func28 rfl rfl rfl (Nat.le_of_ble_eq_true rfl) (agg1 (Le.nils _ _)) (Le.refl _) (Le.refl _)
    case _ =>
      obtain ⟨e1, e2, e3⟩ := hfin (by assumption)
      rw [e2, goP_last, if_neg (fun h => by
        have := List.length_pos_iff.mpr h.2
        omega)] at hg
      rw [hg]
      exact Run.leaveC3 (.inr ⟨_, rfl⟩) rfl Tryd.func28 rfl rfl rfl (Nat.le_of_ble_eq_true rfl) (agg1 (Le.nils _ _)) (Le.int (by rw [hw, hrl]; show ((splitB l).length : Int) - 1 = (n : Int); omega)) (Le.refl _)
    case _ =>
      obtain ⟨e1, e2, e3⟩ := hfin (by assumption)
      have hx0 : (splitL l).getD n [] = [] := (hbse _).mp (by rw [← e3]; assumption)
      rw [e2, goP_last, if_pos ⟨hx0, fun h => by
        have h2 := congrArg List.length h
        rw [hrl] at h2
        have h3 : n = 0 := h2
        omega⟩] at hg
      rw [hg]
      exact Run.leaveC3 (.inr ⟨_, rfl⟩) rfl Tryd.func28 rfl rfl rfl (Nat.le_of_ble_eq_true rfl) (agg1 (Le.refl _)) (Le.refl _) (Le.refl _)
    case _ =>
      obtain ⟨e1, e2, e3⟩ := hfin (by assumption)
      rw [e2, goP_last, if_neg (fun h => hb (by rw [e3, hbse]; exact h.1))] at hg
      rw [hg]
      exact Run.leaveC3 (.inr ⟨_, rfl⟩) rfl Tryd.func28 rfl rfl rfl (Nat.le_of_ble_eq_true rfl) (agg1 (Le.nils _ _)) (Le.int (by rw [hw, hrl]; show ((splitB l).length : Int) - 1 = (n : Int); omega)) (Le.refl _)
end Go.Proofs.YtnadacaoehpdnaaDoor.V
