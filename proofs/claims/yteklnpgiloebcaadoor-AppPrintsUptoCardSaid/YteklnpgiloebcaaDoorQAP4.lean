/-
The texts BAw, VF, BAl, BAm, BAn, BTe, BAo, BXs, BAy, of each what the law needs.
-/
import Derived.Test.YteklnpgiloebcaaDoorQAP3
import Derived.WideLaws
namespace Go.Proofs.YteklnpgiloebcaaDoor.V
set_option linter.unusedVariables false
set_option linter.unusedSimpArgs false
open Go Go.Proofs Go.RowKit
set_option maxRecDepth 100000
set_option maxHeartbeats 1000000
theorem MOle.rowTr {e sz n e' sz' n' e2 sz2 n2 : Nat} {g g' g2 : Nat → Nat → AV} (h : MOle (.row e sz n g) (.row e' sz' n' g')) (k : MOle (.row e' sz' n' g') (.row e2 sz2 n2 g2)) : MOle (.row e sz n g) (.row e2 sz2 n2 g2) := by
  obtain ⟨rfl, rfl, rfl, h⟩ := h
  obtain ⟨rfl, rfl, rfl, k⟩ := k
  exact ⟨rfl, rfl, rfl, fun i j hi hj => (h i j hi hj).trans (k i j hi hj)⟩
theorem MOle.rowJn {e n m n' : Nat} {g g' c : Nat → Nat → AV} (h : MOle (.row e 1 n g) (.row e 1 n' g')) : MOle (.row e 1 (n + m) (joinRow n g c)) (.row e 1 (n' + m) (joinRow n' g' c)) := by
  obtain ⟨_, _, rfl, h⟩ := h
  refine ⟨rfl, rfl, rfl, fun i j hi hj => ?_⟩
  unfold joinRow
  split
  · exact h i j (by assumption) hj
  · exact Le.refl _
theorem bsP (e : Nat) (b : List UInt8) (u : UInt8) (g : Nat → Nat → AV) (hg : g 0 0 = .int .u8 (u.toNat : Int)) : MOle (.row e 1 ((bs b).size + 1) (joinRow (bs b).size (bytesG (bs b)) g)) (.row e 1 (bs (b ++ [u])).size (bytesG (bs (b ++ [u])))) := by
  have := bytesG_push e (bs b) u g hg
  rwa [show bs b ++ ⟨#[u]⟩ = bs (b ++ [u]) from bsA b [u]] at this
theorem bsJ (e : Nat) (X s : List UInt8) : MOle (.row e 1 ((bs X).size + (bs s).size) (joinRow (bs X).size (bytesG (bs X)) (fun i _ => .int .u8 (bt (bs s) i)))) (.row e 1 (bs (X ++ s)).size (bytesG (bs (X ++ s)))) := by
  rw [← bsA]; exact bytesG_join e (bs X) (bs s)
theorem bsJ2 (e : Nat) (X : List UInt8) (s : ByteArray) : MOle (.row e 1 ((bs X).size + s.size) (joinRow (bs X).size (bytesG (bs X)) (fun i _ => .int .u8 (bt s i)))) (.row e 1 (bs (X ++ blA s)).size (bytesG (bs (X ++ blA s)))) := by
  rw [← bsA, bs_blA]; exact bytesG_join e (bs X) s
theorem num_lo17 : ∀ n : Fin 10, IntKind.u8.wrap (IntKind.i64.wrap (48 + (n.val : Int))) = bt (bs [UInt8.ofNat (48 + n.val)]) 0 := by decide +kernel
theorem num_last (n : Nat) : IntKind.u8.wrap (IntKind.i64.wrap (48 + (n : Int).tmod 10)) = bt (bs [UInt8.ofNat (48 + n % 10)]) 0 := by
  have h := num_lo17 ⟨n % 10, Nat.mod_lt _ (by decide)⟩
  have e : (n : Int).tmod 10 = ((n % 10 : Nat) : Int) := by rw [Int.ofNat_tmod]; rfl
  rw [e]; exact h
theorem quo10 (n : Nat) (h : n < 100000) : IntKind.i64.wrap ((n : Int).tdiv 10) = ((n / 10 : Nat) : Int) := by
  rw [Int.tdiv_eq_ediv_of_nonneg (by omega)]
  rw [show ((n : Int) / 10) = ((n / 10 : Nat) : Int) by omega]
  exact wrap64 (by omega) (by omega)
theorem dec_lo {n : Nat} (h : n < 10) : Lib.decDigits n = [UInt8.ofNat (48 + n)] := by rw [Lib.decDigits, dif_pos h]
theorem dec_hi {n : Nat} (h : ¬ n < 10) : Lib.decDigits n = Lib.decDigits (n / 10) ++ [UInt8.ofNat (48 + n % 10)] := by rw [Lib.decDigits, dif_neg h]
theorem callq_sem {C : Ctx} {h : Heap} {o : Oper} {E : Env} {y : AV} (q : CallQ C h o E (fun x => x = y)) (hle : ∀ d, o.dst = some d → Le y (E d)) : ∃ x, Quiet C h o (ev E) x ∧ ∀ d, o.dst = some d → Le x (E d) := by
  obtain ⟨x, rfl, hq⟩ := q.out
  exact ⟨_, hq, hle⟩
theorem number17_fn (n : Nat) : n < 100000 → Fn Tryd.prog 31 [.int .i64 (n : Int)] (.str (bs (Lib.decDigits n))) := by
  induction n using Nat.strongRecOn with
  | ind n ih =>
    intro hn
    by_cases h10 : n < 10
    · rw [dec_lo h10]
      have e := num_lo17 ⟨n, h10⟩
      simp only [] at e
      refine Fn.of Tryd.f31 _ Tryd.func31 rfl (by decide) (by show 1 ≤ _; decide) tbOk 20 rfl fun S w0 gl => ?_
      refine Run.go ?_; (conv => whnf); repeat' (first | ((with_reducible refine Know.mk fun _ => ?_); conv => whnf) | ((with_reducible refine Need.mk ?_ ?_); exact nd; conv => whnf) | ((with_reducible first | refine Both.mk ?_ ?_ | refine Any.mk fun b hb => ?_ | refine AskB.dec (fun hb => ?_) (fun hb => ?_) | refine AskB.ndec (fun hb => ?_) (fun hb => ?_) | refine AskB.mk (fun hb => ?_) (fun hb => ?_)) <;> conv => whnf) | ((with_reducible first | refine Run.drawX rfl (by decide +kernel) ?_ | refine Run.drawT rfl (by decide +kernel) ?_ | refine Run.drawW rfl (by decide +kernel) ?_); conv => whnf) | fail)
      all_goals try (exfalso; omega)
      refine Run.rowStr (x := .tmp 8) (src := 48) (dst := 9) (e := 5) (q := 8) (bs [UInt8.ofNat (48 + n)]) rfl rfl rfl rfl rfl rfl rfl (fun i hi => ?_) (by kernel_rfl) (by kernel_rfl) (by kernel_rfl) ?_
      · obtain rfl : i = 0 := Nat.lt_one_iff.mp hi
        exact congrArg (AV.int .u8) e
      refine Run.go ?_; (conv => whnf); repeat' (first | ((with_reducible refine Know.mk fun _ => ?_); conv => whnf) | ((with_reducible refine Need.mk ?_ ?_); exact nd; conv => whnf) | ((with_reducible first | refine Both.mk ?_ ?_ | refine Any.mk fun b hb => ?_ | refine AskB.dec (fun hb => ?_) (fun hb => ?_) | refine AskB.ndec (fun hb => ?_) (fun hb => ?_) | refine AskB.mk (fun hb => ?_) (fun hb => ?_)) <;> conv => whnf) | ((with_reducible first | refine Run.drawX rfl (by decide +kernel) ?_ | refine Run.drawT rfl (by decide +kernel) ?_ | refine Run.drawW rfl (by decide +kernel) ?_); conv => whnf) | fail)
      exact Run.leave (ts := [2]) (.inr ⟨_, rfl⟩) rfl Tryd.func31 rfl (Le.refl _)
    · have ihn := ih (n / 10) (by omega) (by omega)
      have hq := quo10 n hn
      have e := num_last n
      have hdl := decD_len (n / 10) (by omega)
      have hds := bs_size (Lib.decDigits (n / 10))
      rw [dec_hi h10]
      generalize Lib.decDigits (n / 10) = D at *
      refine Fn.of Tryd.f31 _ Tryd.func31 rfl (by decide) (by show 1 ≤ _; decide) tbOk 20 rfl fun S w0 gl => ?_
      refine Run.go ?_; (conv => whnf); repeat' (first | ((with_reducible refine Know.mk fun _ => ?_); conv => whnf) | ((with_reducible refine Need.mk ?_ ?_); exact nd; conv => whnf) | ((with_reducible first | refine Both.mk ?_ ?_ | refine Any.mk fun b hb => ?_ | refine AskB.dec (fun hb => ?_) (fun hb => ?_) | refine AskB.ndec (fun hb => ?_) (fun hb => ?_) | refine AskB.mk (fun hb => ?_) (fun hb => ?_)) <;> conv => whnf) | ((with_reducible first | refine Run.drawX rfl (by decide +kernel) ?_ | refine Run.drawT rfl (by decide +kernel) ?_ | refine Run.drawW rfl (by decide +kernel) ?_); conv => whnf) | fail)
      all_goals try (exfalso; omega)
      refine Run.tidy [0] [] ?_; (conv => whnf)
      have hsz1 : (bs D).size + (bs [UInt8.ofNat (48 + n % 10)]).size ≤ 9223372036854775807 := by rw [bs_size [UInt8.ofNat (48 + n % 10)]]; show _ + 1 ≤ _; omega
      refine Run.drawS [] (lst ([(0, .int .i64 (n : Int))] ++ [(10, .int .i64 (n : Int)), (11, .int .i64 ((n / 10 : Nat) : Int)), (12, .str (bs D)), (13, .int .i64 (n : Int)), (14, .int .i64 ((n : Int).tmod 10)), (15, .int .i64 (IntKind.i64.wrap (48 + (n : Int).tmod 10))), (16, .int .u8 (bt (bs [UInt8.ofNat (48 + n % 10)]) 0)), (17, .sl 1 1 (fun i j => ([[AV.int .u8 (bt (bs [UInt8.ofNat (48 + n % 10)]) 0)]].getD i []).getD j AV.u)), (18, .str (bs [UInt8.ofNat (48 + n % 10)])), (19, .str (bs D ++ bs [UInt8.ofNat (48 + n % 10)])), (2, .str (bs D ++ bs [UInt8.ofNat (48 + n % 10)]))])) rfl (by decide +kernel) (lst_dsts rfl) ?_
      refine ⟨fun i hi ha => ?_, ?_⟩
      · have hc : i < 11 := hi
        clear ha hi
        have hcs : i = 2 ∨ i = 7 ∨ i = 8 ∨ i = 0 ∨ i = 1 ∨ i = 3 ∨ i = 4 ∨ i = 5 ∨ i = 6 ∨ i = 9 ∨ i = 10 := by omega
        rcases hcs with rfl | rfl | rfl | rfl | rfl | rfl | rfl | rfl | rfl | rfl | rfl
        · refine ⟨_, rfl, rfl, rfl, fun env ι a w R hρ => ?_⟩
          exact callq_sem (CallQ.flat ihn rfl ⟨Le.refl _, trivial⟩ rfl rfl) (fun d hd => by cases hd; exact Le.refl _)
        · exact ⟨_, rfl, rfl, rfl, fun env ι a w R hρ => ⟨_, quiet_fresh (d := 17) (e := 5) (sz := 1) rfl (fun p hp => by simp at hp; subst hp; rfl) (fun K stop hk => by (conv => whnf); exact hk), fun d hd => by cases hd; exact Le.refl _⟩⟩
        · exact ⟨_, rfl, rfl, rfl, fun env ι a w R hρ => ⟨_, quiet_str (e := 5) (bs [UInt8.ofNat (48 + n % 10)]) rfl rfl rfl (by decide) (fun i hi => by obtain rfl : i = 0 := Nat.lt_one_iff.mp hi; rfl) (by kernel_rfl) (by kernel_rfl) (by kernel_rfl), fun d hd => by cases hd; exact Le.refl _⟩⟩
        all_goals refine opAt_ok ?_
        all_goals ((conv => whnf); repeat' (first | ((with_reducible refine Know.mk fun _ => ?_); conv => whnf) | ((with_reducible refine Need.mk ?_ ?_); exact nd; conv => whnf) | ((with_reducible first | refine Both.mk ?_ ?_ | refine Any.mk fun b hb => ?_ | refine AskB.dec (fun hb => ?_) (fun hb => ?_) | refine AskB.ndec (fun hb => ?_) (fun hb => ?_) | refine AskB.mk (fun hb => ?_) (fun hb => ?_)) <;> conv => whnf) | ((with_reducible first | refine Run.drawX rfl (by decide +kernel) ?_ | refine Run.drawT rfl (by decide +kernel) ?_ | refine Run.drawW rfl (by decide +kernel) ?_); conv => whnf) | fail))
        all_goals first
          | exact Le.refl _
          | exact Le.int hq
          | exact Le.int e
      · refine Run.go ?_; (conv => whnf); repeat' (first | ((with_reducible refine Know.mk fun _ => ?_); conv => whnf) | ((with_reducible refine Need.mk ?_ ?_); exact nd; conv => whnf) | ((with_reducible first | refine Both.mk ?_ ?_ | refine Any.mk fun b hb => ?_ | refine AskB.dec (fun hb => ?_) (fun hb => ?_) | refine AskB.ndec (fun hb => ?_) (fun hb => ?_) | refine AskB.mk (fun hb => ?_) (fun hb => ?_)) <;> conv => whnf) | ((with_reducible first | refine Run.drawX rfl (by decide +kernel) ?_ | refine Run.drawT rfl (by decide +kernel) ?_ | refine Run.drawW rfl (by decide +kernel) ?_); conv => whnf) | fail)
        refine Run.leave (ts := [2]) (.inr ⟨_, rfl⟩) rfl Tryd.func31 rfl (Le.str ?_)
        exact bsA _ _
theorem rform_any (r : Rd) (hs : r.text.size ≤ 2000000) : Fn Tryd.prog 32 [.agg 3 (tRd.enc r)] (.str (formB r)) := by
  have := rform_fn r.none (blA r.text) r.wits hs
  rw [bs_blA] at this
  exact this
theorem reB_len {names : List ByteArray} {e : En} (H : EnFit names e) (k : Nat) : (reB (((e.rds.drop 1).take k).map (rdB names))).length ≤ 100000000 := by
  have h1 := joinA_len 9000000 (((e.rds.drop 1).take k).map (rdB names)) (fun y hy => by
    obtain ⟨r, hr, rfl⟩ := List.mem_map.mp hy
    have hre := List.mem_of_mem_drop (List.mem_of_mem_take hr)
    have a := formB_size r (H.text r hre)
    have b := wsB_len H.name r.wits
    have c := H.wfew r hre
    unfold rdB
    rw [List.length_append, bsA_size]
    omega)
  rw [List.length_map, List.length_take, List.length_drop] at h1
  have := H.few
  have h2 : (min k (e.rds.length - 1)) * (9000000 + 2) ≤ 11 * (9000000 + 2) := Nat.mul_le_mul_right _ (by omega)
  generalize ((e.rds.drop 1).take k).map (rdB names) = Y at *
  cases Y with
  | nil => exact Nat.zero_le _
  | cons a r => show (Lib.join (a :: r) [59, 32]).length + 1 ≤ _; omega
def lF (D fl X : List UInt8) (e : En) : List (Nat × AV) := [(8, .box 2 0), (9, .int .i64 e.col), (10, .str (bs D)), (11, .str (bs D ++ ⟨#[32]⟩)), (12, .box 2 1), (13, tRd.L e.rds), (14, .iadr tRd.sz (tRd.G e.rds (Int.toNat 0))), (15, .agg 3 (tRd.enc (e.rds.getD 0 tRd.z))), (16, .str (bs fl)), (17, .str (bs D ++ ⟨#[32]⟩ ++ bs fl)), (18, .str (bs X)), (19, .u), (5, .u)]
theorem rline_fn (names : List ByteArray) (e : En) (H : EnFit names e) (h2r : 2 ≤ e.rds.length) : Fn Tryd.prog 19 [.agg 2 (tEn.enc e), tS.L names] (.str (bs (lnB names e))) := by
  have hn2 := H.few
  have hn3 := H.nfew
  rw [lnB_re names e h2r]
  obtain ⟨L, hL⟩ : ∃ L, L = e.rds.drop 1 := ⟨_, rfl⟩
  have hLl : L.length = e.rds.length - 1 := by rw [hL, List.length_drop]
  have hLm : ∀ r ∈ L, r ∈ e.rds := fun r hr => List.mem_of_mem_drop (hL ▸ hr)
  have hLg : ∀ k, e.rds.getD (k + 1) tRd.z = L.getD k tRd.z := fun k => by rw [hL, List.getD_eq_getElem?_getD, List.getD_eq_getElem?_getD, List.getElem?_drop, Nat.add_comm]
  have hD := decD_len e.col.toNat (by have := H.col1; omega)
  have hit := number17_fn e.col.toNat (by have := H.col1; omega)
  have hc0 := H.col0
  have hr0 := getD_mem (z := tRd.z) 0 (show 0 < e.rds.length by omega)
  have hf0 := rform_any _ (H.text _ hr0)
  have hfs := formB_size _ (H.text _ hr0)
  have hDs := bs_size (Lib.decDigits e.col.toNat)
  have hre := fun k => reB_len H k
  rw [← hL] at *
  have hF : formB (e.rds.getD 0 tRd.z) = bs (blA (formB (e.rds.getD 0 rd0))) := (bs_blA _).symm
  rw [hF] at hf0 hfs
  unfold hdB
  generalize blA (formB (e.rds.getD 0 rd0)) = fl at *
  generalize Lib.decDigits e.col.toNat = D at *
  have hfls := bs_size fl
  have hA0 : (ByteArray.mk #[32]).size = 1 := rfl
  have hA00 : (ByteArray.mk #[32, 93]).size = 2 := rfl
  have hA1 : (bs D ++ ByteArray.mk #[32]).size = (bs D).size + 1 := ByteArray.size_append
  have hA2 : (bs D ++ ByteArray.mk #[32] ++ bs fl).size = (bs D).size + 1 + (bs fl).size := by rw [ByteArray.size_append, hA1]
  have hHd : bs D ++ ByteArray.mk #[32] ++ bs fl ++ ByteArray.mk #[32, 93] = bs (D ++ ([32] ++ (fl ++ [32, 93]))) := by
    show bs D ++ bs [32] ++ bs fl ++ bs [32, 93] = _
    rw [bsA, bsA, bsA]; simp
  have hHl : (D ++ ([32] ++ (fl ++ [32, 93]))).length ≤ 9000000 := by
    simp only [List.length_append, List.length_cons, List.length_nil]; omega
  have hXd : ∃ X, X = D ++ ([32] ++ (fl ++ [32, 93])) := ⟨_, rfl⟩
  obtain ⟨X, hX⟩ := hXd
  rw [← hX] at hHd hHl ⊢
  have hXs := bs_size X
  refine Fn.of Tryd.f19 _ Tryd.func19 rfl (by decide) (by show 2 ≤ _; decide) tbOk 75 rfl fun S w0 gl => ?_
  refine Run.go ?_; (conv => whnf); repeat' (first | ((with_reducible refine Know.mk fun _ => ?_); conv => whnf) | ((with_reducible refine Need.mk ?_ ?_); exact nd; conv => whnf) | ((with_reducible first | refine Both.mk ?_ ?_ | refine Any.mk fun b hb => ?_ | refine AskB.dec (fun hb => ?_) (fun hb => ?_) | refine AskB.ndec (fun hb => ?_) (fun hb => ?_) | refine AskB.mk (fun hb => ?_) (fun hb => ?_)) <;> conv => whnf) | fail)
  all_goals try (exfalso; omega)
  refine Run.tidy [1, 2] [2] ?_; (conv => whnf)
  refine Run.to [(1, tS.L names), (2, .box 2 0)] [(2, .box 45 [.int .i64 e.col, tRd.L e.rds])] ⟨Le.refl _, Le.refl _, trivial⟩ ⟨MOle.refl _, trivial⟩ ?_
  refine Run.drawS [11, 12] (lst ([(1, tS.L names), (2, .box 2 0)] ++ lF D fl X e)) rfl (by decide +kernel) (lst_dsts rfl) ?_
  refine ⟨fun i hi ha => ?_, by decide +kernel, by decide, putE (scrubE 19 (lst ([(1, tS.L names), (2, .box 2 0)] ++ lF D fl X e))) (some 19) (.row 19), upd (upd (scrubH 19 (lstH [(2, .box 45 [.int .i64 e.col, tRd.L e.rds])])) 19 .dead) 19 (.row 5 1 (bs X).size (bytesG (bs X))), fun listed rest hsz hpre next => ?_, fun i hi ha => ?_, by decide +kernel, by decide, upd (putE (scrubE 19 (lst ([(1, tS.L names), (2, .box 2 0)] ++ lF D fl X e))) (some 19) (.row 19)) 5 (.row 19), upd (upd (scrubH 19 (lstH [(2, .box 45 [.int .i64 e.col, tRd.L e.rds])])) 19 .dead) 19 (.row 5 1 (bs X).size (bytesG (bs X))), fun listed rest hsz hpre next => ?_, fun i hi ha => ?_, ?_⟩
  · have hc : i < 11 := by revert ha; revert i; decide +kernel
    clear ha hi
    have hcs : i = 2 ∨ i = 8 ∨ i = 0 ∨ i = 1 ∨ i = 3 ∨ i = 4 ∨ i = 5 ∨ i = 6 ∨ i = 7 ∨ i = 9 ∨ i = 10 := by omega
    rcases hcs with rfl | rfl | rfl | rfl | rfl | rfl | rfl | rfl | rfl | rfl | rfl
    · exact ⟨_, rfl, rfl, rfl, fun env ι a w R hρ => callq_sem (CallQ.flat hit rfl ⟨Le.int (by omega), trivial⟩ rfl rfl) (fun d hd => by cases hd; exact Le.refl _)⟩
    · exact ⟨_, rfl, rfl, rfl, fun env ι a w R hρ => callq_sem (CallQ.flat hf0 rfl ⟨rdA_le _ (Le.refl _) (Le.refl _) (Le.refl _), trivial⟩ rfl rfl) (fun d hd => by cases hd; exact Le.refl _)⟩
    all_goals refine opAt_ok ?_
    all_goals ((conv => whnf); repeat' (first | ((with_reducible refine Know.mk fun _ => ?_); conv => whnf) | ((with_reducible refine Need.mk ?_ ?_); exact nd; conv => whnf) | ((with_reducible first | refine Both.mk ?_ ?_ | refine Any.mk fun b hb => ?_ | refine AskB.dec (fun hb => ?_) (fun hb => ?_) | refine AskB.ndec (fun hb => ?_) (fun hb => ?_) | refine AskB.mk (fun hb => ?_) (fun hb => ?_)) <;> conv => whnf) | fail))
    all_goals first
      | exact Le.refl _
      | exact Le.str hHd
      | exact rdA_le _ (Le.refl _) (Le.refl _) (Le.refl _)
  · refine Run.toBytesR (x := .tmp 18) (src := 9) (dst := 48) (e := 5) (d := 19) (bs X) rfl rfl rfl rfl rfl ?_ (by kernel_rfl) (by kernel_rfl) (by kernel_rfl) ?_
    · exact (mask_look (StatS.of (all := [11, 12]) (by decide +kernel)) rfl (by decide) (F := (lst ([(1, tS.L names), (2, .box 2 0)] ++ lF D fl X e))) hsz hpre (s := 18) (by decide)).trans rfl
    · refine Run.weaken (fun s => ?_) (fun _ => MOle.refl _) next
      exact mask_step (m := 11) rfl (F := (lst ([(1, tS.L names), (2, .box 2 0)] ++ lF D fl X e))) (scrub 19) rfl (.row 19) (fun s hs => by
        show Le (scrubE 19 (lst ([(1, tS.L names), (2, .box 2 0)] ++ lF D fl X e)) s) (upd (scrubE 19 (lst ([(1, tS.L names), (2, .box 2 0)] ++ lF D fl X e))) 19 (.row 19) s)
        rw [upd_other _ _ (show s ≠ 19 from fun e => hs (by rw [e]))]; exact Le.refl _) (fun d hd => by cases hd; exact Le.refl _) s
  · exfalso; revert ha; revert i; decide +kernel
  · refine Run.stageOp (StatS.of (all := [11, 12]) (by decide +kernel)) (fun x => x) (.row 19) rfl (by decide) rfl rfl rfl (fun s hs => by
      rw [upd_other _ _ (show s ≠ 5 from fun e => hs (by rw [e]; rfl))]; exact Le.refl _) (fun d hd => by cases hd; exact Le.refl _) hsz hpre (fun G hG K stop hk => ?_) next
    have h19 : G 19 = .row 19 := hG 19 (by decide)
    (conv => whnf)
    rw [show ev G (Operand.tmp 19) = .row 19 from h19]
    (conv => whnf)
    exact hk
  · exfalso; revert ha; revert i; decide +kernel
  · refine Run.tidy [1, 2, 5] [2, 19] ?_; (conv => whnf)
    refine Run.go ?_; (conv => whnf); repeat' (first | ((with_reducible refine Know.mk fun _ => ?_); conv => whnf) | ((with_reducible refine Need.mk ?_ ?_); exact nd; conv => whnf) | ((with_reducible first | refine Both.mk ?_ ?_ | refine Any.mk fun b hb => ?_ | refine AskB.dec (fun hb => ?_) (fun hb => ?_) | refine AskB.ndec (fun hb => ?_) (fun hb => ?_) | refine AskB.mk (fun hb => ?_) (fun hb => ?_)) <;> conv => whnf) | ((with_reducible first | refine Run.drawX rfl (by decide +kernel) ?_ | refine Run.drawT rfl (by decide +kernel) ?_ | refine Run.drawW rfl (by decide +kernel) ?_); conv => whnf) | fail)
    refine Run.hold (z := 19) 5 90 (by rfl) (by rfl) (by rfl) ?_
    refine Run.loop [1] (fun (k : Nat) => [(2, .box 2 0), (5, .row 90), (6, .int .i64 ((k + 1 : Nat) : Int))]) (fun k => [(2, .box 45 [.int .i64 e.col, tRd.L e.rds]), (90, .row 5 1 (bs (X ++ reB ((L.take k).map (rdB names)))).size (bytesG (bs (X ++ reB ((L.take k).map (rdB names))))))]) (fun k => k ≤ L.length) (fun k => L.length - k) 0 (Nat.zero_le _) ⟨Le.refl _, Le.refl _, Le.refl _, trivial⟩ ⟨MOle.refl _, ?_, trivial⟩ ?_
    · show MOle _ (.row 5 1 (bs (X ++ [])).size (bytesG (bs (X ++ []))))
      rw [List.append_nil]; exact MOle.refl _
    intro k hk IH
    have hw1 : IntKind.i64.wrap (((k + 1 : Nat) : Int) + 1) = ((k + 1 + 1 : Nat) : Int) := wrap64 (by omega) (by omega)
    have hrek := hre k
    by_cases hkl : k < L.length
    · have hrm := getD_mem (z := tRd.z) k hkl
      have hree := hLm _ hrm
      have hfo := rform_any _ (H.text _ hree)
      have hfs2 := formB_size _ (H.text _ hree)
      have hwf := H.wfew _ hree
      have hwi := H.wit _ hree
      have htk : reB ((L.take (k + 1)).map (rdB names)) = reB ((L.take k).map (rdB names)) ++ ((if k = 0 then [] else [59]) ++ ([32] ++ rdB names (L.getD k tRd.z))) := by
        rw [take_at L k tRd.z hkl, List.map_append]
        show reB ((L.take k).map (rdB names) ++ [rdB names (L.getD k tRd.z)]) = _
        rw [reB_snoc]
        congr 2
        by_cases h0 : k = 0
        · subst h0; rfl
        · rw [if_neg h0, if_neg]
          intro h
          have := congrArg List.length h
          rw [List.length_map, List.length_take] at this
          have h9 : min k L.length = 0 := this
          omega
      have IH := IH (k + 1) (by omega) (by omega)
      rw [htk] at IH
      generalize reB ((L.take k).map (rdB names)) = Y at *
      have hr3 : e.rds.getD (((k + 1 : Nat) : Int)).toNat tRd.z = L.getD k tRd.z := by rw [Int.toNat_natCast]; exact hLg k
      generalize L.getD k tRd.z = r at *
      have hYs := bs_size (X ++ Y)
      rw [List.length_append] at hYs
      unfold rdB at IH
      refine Run.go ?_; (conv => whnf); repeat' (first | ((with_reducible refine Know.mk fun _ => ?_); conv => whnf) | ((with_reducible refine Need.mk ?_ ?_); exact nd; conv => whnf) | ((with_reducible first | refine Both.mk ?_ ?_ | refine Any.mk fun b hb => ?_ | refine AskB.dec (fun hb => ?_) (fun hb => ?_) | refine AskB.ndec (fun hb => ?_) (fun hb => ?_) | refine AskB.mk (fun hb => ?_) (fun hb => ?_)) <;> conv => whnf) | ((with_reducible first | refine Run.drawX rfl (by decide +kernel) ?_ | refine Run.drawT rfl (by decide +kernel) ?_ | refine Run.drawW rfl (by decide +kernel) ?_); conv => whnf) | fail)
      all_goals try (exfalso; omega)
      · rw [if_neg (show ¬ k = 0 by omega), show X ++ (Y ++ ([59] ++ ([32] ++ (blA (formB r) ++ wsB names r.wits)))) = ((((X ++ Y) ++ [59]) ++ [32]) ++ blA (formB r)) ++ wsB names r.wits by simp] at IH
        have hZl : ((((X ++ Y) ++ [59]) ++ [32])).length ≤ 109000010 := by simp only [List.length_append, List.length_cons, List.length_nil]; omega
        have hfl2 := bsA_size (formB r)
        refine Run.callBX hfo rfl rfl ⟨rdA_le r (Le.of_eq (by rw [← hr3]; rfl)) (Le.of_eq (by rw [← hr3]; rfl)) (Le.of_eq (by rw [← hr3]; rfl)), trivial⟩ rfl rfl rfl ?_
        (conv => whnf); repeat' (first | ((with_reducible refine Know.mk fun _ => ?_); conv => whnf) | ((with_reducible refine Need.mk ?_ ?_); exact nd; conv => whnf) | ((with_reducible first | refine Both.mk ?_ ?_ | refine Any.mk fun b hb => ?_ | refine AskB.dec (fun hb => ?_) (fun hb => ?_) | refine AskB.ndec (fun hb => ?_) (fun hb => ?_) | refine AskB.mk (fun hb => ?_) (fun hb => ?_)) <;> conv => whnf) | ((with_reducible first | refine Run.drawX rfl (by decide +kernel) ?_ | refine Run.drawT rfl (by decide +kernel) ?_ | refine Run.drawW rfl (by decide +kernel) ?_); conv => whnf) | fail)
        refine Run.hold (z := 42) 5 90 (by rfl) (by rfl) (by rfl) ?_
        refine Run.loop [1] (fun (j : Nat) => [(2, .box 2 0), (5, .row 90), (6, .int .i64 ((k + 1 : Nat) : Int)), (7, .int .i64 (j : Int))]) (fun j => [(2, .box 45 [.int .i64 e.col, tRd.L e.rds]), (90, .row 5 1 (bs ((((X ++ Y) ++ [59]) ++ [32]) ++ blA (formB r) ++ wsB names (r.wits.take j))).size (bytesG (bs ((((X ++ Y) ++ [59]) ++ [32]) ++ blA (formB r) ++ wsB names (r.wits.take j)))))]) (fun j => j ≤ r.wits.length) (fun j => r.wits.length - j) 0 (Nat.zero_le _) ⟨Le.refl _, Le.refl _, Le.refl _, Le.refl _, trivial⟩ ⟨MOle.refl _, ?_, trivial⟩ ?_
        · show MOle _ (.row 5 1 (bs ((((X ++ Y) ++ [59]) ++ [32]) ++ blA (formB r) ++ [])).size (bytesG (bs ((((X ++ Y) ++ [59]) ++ [32]) ++ blA (formB r) ++ []))))
          rw [List.append_nil]
          exact MOle.rowTr (MOle.rowJn (MOle.rowTr (MOle.rowJn (bsP 5 (X ++ Y) 59 _ rfl)) (bsP 5 _ 32 _ rfl))) (bsJ2 5 _ _)
        generalize (((X ++ Y) ++ [59]) ++ [32]) = Z at *
        intro j hj IHj
        have hw2 : IntKind.i64.wrap ((j : Int) + 1) = ((j + 1 : Nat) : Int) := wrap64 (by omega) (by omega)
        have hws := wsB_len H.name (r.wits.take j)
        have hQs := bs_size (Z ++ blA (formB r) ++ wsB names (r.wits.take j))
        rw [List.length_append, List.length_append] at hQs
        rw [List.length_take] at hws
        have hk1 : (e.rds.getD (((k + 1 : Nat) : Int)).toNat tRd.z).wits.length = r.wits.length := by rw [hr3]
        by_cases hjl : j < r.wits.length
        · have IHj := IHj (j + 1) (by omega) (by omega)
          have hwm : 0 ≤ r.wits.getD (j : Int).toNat tI.z ∧ r.wits.getD (j : Int).toNat tI.z < names.length := hwi _ (getD_mem (z := tI.z) j hjl)
          have hwm2 : 0 ≤ (e.rds.getD (((k + 1 : Nat) : Int)).toNat tRd.z).wits.getD (j : Int).toNat tI.z ∧ (e.rds.getD (((k + 1 : Nat) : Int)).toNat tRd.z).wits.getD (j : Int).toNat tI.z < names.length := by rw [hr3]; exact hwm
          rw [wsB_take names r.wits j hjl, show Z ++ blA (formB r) ++ (wsB names (r.wits.take j) ++ nmB names (r.wits.getD j 0)) = ((Z ++ blA (formB r) ++ wsB names (r.wits.take j)) ++ [32]) ++ blA (names.getD (r.wits.getD j 0).toNat .empty) by unfold nmB; simp] at IHj
          have hnz : (names.getD ((e.rds.getD (((k + 1 : Nat) : Int)).toNat tRd.z).wits.getD (j : Int).toNat tI.z).toNat tS.z).size ≤ 8 := H.name _ (getD_mem (z := tS.z) _ (by omega))
          generalize Z ++ blA (formB r) ++ wsB names (r.wits.take j) = Q at *
          refine Run.go ?_; (conv => whnf); repeat' (first | ((with_reducible refine Know.mk fun _ => ?_); conv => whnf) | ((with_reducible refine Need.mk ?_ ?_); exact nd; conv => whnf) | ((with_reducible first | refine Both.mk ?_ ?_ | refine Any.mk fun b hb => ?_ | refine AskB.dec (fun hb => ?_) (fun hb => ?_) | refine AskB.ndec (fun hb => ?_) (fun hb => ?_) | refine AskB.mk (fun hb => ?_) (fun hb => ?_)) <;> conv => whnf) | ((with_reducible first | refine Run.drawX rfl (by decide +kernel) ?_ | refine Run.drawT rfl (by decide +kernel) ?_ | refine Run.drawW rfl (by decide +kernel) ?_); conv => whnf) | fail)
          all_goals try (exfalso; omega)
          refine Run.hold (z := 70) 5 90 (by rfl) (by rfl) (by rfl) ?_
          rw [hr3]
          refine Run.to _ _ ?_ ?_ IHj
          · exact ⟨Le.refl _, Le.refl _, Le.refl _, Le.refl _, Le.int hw2, trivial⟩
          · exact ⟨MOle.refl _, MOle.rowTr (MOle.rowJn (bsP 5 Q 32 _ rfl)) (bsJ2 5 _ _), trivial⟩
        · obtain rfl : j = r.wits.length := by omega
          rw [List.take_length]
          refine Run.go ?_; (conv => whnf); repeat' (first | ((with_reducible refine Know.mk fun _ => ?_); conv => whnf) | ((with_reducible refine Need.mk ?_ ?_); exact nd; conv => whnf) | ((with_reducible first | refine Both.mk ?_ ?_ | refine Any.mk fun b hb => ?_ | refine AskB.dec (fun hb => ?_) (fun hb => ?_) | refine AskB.ndec (fun hb => ?_) (fun hb => ?_) | refine AskB.mk (fun hb => ?_) (fun hb => ?_)) <;> conv => whnf) | ((with_reducible first | refine Run.drawX rfl (by decide +kernel) ?_ | refine Run.drawT rfl (by decide +kernel) ?_ | refine Run.drawW rfl (by decide +kernel) ?_); conv => whnf) | fail)
          all_goals try (exfalso; omega)
          refine Run.to _ _ ?_ ?_ IH
          · exact ⟨Le.refl _, Le.refl _, Le.refl _, Le.int hw1, trivial⟩
          · exact ⟨MOle.refl _, MOle.refl _, trivial⟩
      · rw [if_pos (show k = 0 by omega), show X ++ (Y ++ ([] ++ ([32] ++ (blA (formB r) ++ wsB names r.wits)))) = (((X ++ Y) ++ [32]) ++ blA (formB r)) ++ wsB names r.wits by simp] at IH
        have hZl : (((X ++ Y) ++ [32])).length ≤ 109000010 := by simp only [List.length_append, List.length_cons, List.length_nil]; omega
        have hfl2 := bsA_size (formB r)
        refine Run.callBX hfo rfl rfl ⟨rdA_le r (Le.of_eq (by rw [← hr3]; rfl)) (Le.of_eq (by rw [← hr3]; rfl)) (Le.of_eq (by rw [← hr3]; rfl)), trivial⟩ rfl rfl rfl ?_
        (conv => whnf); repeat' (first | ((with_reducible refine Know.mk fun _ => ?_); conv => whnf) | ((with_reducible refine Need.mk ?_ ?_); exact nd; conv => whnf) | ((with_reducible first | refine Both.mk ?_ ?_ | refine Any.mk fun b hb => ?_ | refine AskB.dec (fun hb => ?_) (fun hb => ?_) | refine AskB.ndec (fun hb => ?_) (fun hb => ?_) | refine AskB.mk (fun hb => ?_) (fun hb => ?_)) <;> conv => whnf) | ((with_reducible first | refine Run.drawX rfl (by decide +kernel) ?_ | refine Run.drawT rfl (by decide +kernel) ?_ | refine Run.drawW rfl (by decide +kernel) ?_); conv => whnf) | fail)
        refine Run.hold (z := 42) 5 90 (by rfl) (by rfl) (by rfl) ?_
        refine Run.loop [1] (fun (j : Nat) => [(2, .box 2 0), (5, .row 90), (6, .int .i64 ((k + 1 : Nat) : Int)), (7, .int .i64 (j : Int))]) (fun j => [(2, .box 45 [.int .i64 e.col, tRd.L e.rds]), (90, .row 5 1 (bs (((X ++ Y) ++ [32]) ++ blA (formB r) ++ wsB names (r.wits.take j))).size (bytesG (bs (((X ++ Y) ++ [32]) ++ blA (formB r) ++ wsB names (r.wits.take j)))))]) (fun j => j ≤ r.wits.length) (fun j => r.wits.length - j) 0 (Nat.zero_le _) ⟨Le.refl _, Le.refl _, Le.refl _, Le.refl _, trivial⟩ ⟨MOle.refl _, ?_, trivial⟩ ?_
        · show MOle _ (.row 5 1 (bs (((X ++ Y) ++ [32]) ++ blA (formB r) ++ [])).size (bytesG (bs (((X ++ Y) ++ [32]) ++ blA (formB r) ++ []))))
          rw [List.append_nil]
          exact MOle.rowTr (MOle.rowJn (bsP 5 (X ++ Y) 32 _ rfl)) (bsJ2 5 _ _)
        generalize ((X ++ Y) ++ [32]) = Z at *
        intro j hj IHj
        have hw2 : IntKind.i64.wrap ((j : Int) + 1) = ((j + 1 : Nat) : Int) := wrap64 (by omega) (by omega)
        have hws := wsB_len H.name (r.wits.take j)
        have hQs := bs_size (Z ++ blA (formB r) ++ wsB names (r.wits.take j))
        rw [List.length_append, List.length_append] at hQs
        rw [List.length_take] at hws
        have hk1 : (e.rds.getD (((k + 1 : Nat) : Int)).toNat tRd.z).wits.length = r.wits.length := by rw [hr3]
        by_cases hjl : j < r.wits.length
        · have IHj := IHj (j + 1) (by omega) (by omega)
          have hwm : 0 ≤ r.wits.getD (j : Int).toNat tI.z ∧ r.wits.getD (j : Int).toNat tI.z < names.length := hwi _ (getD_mem (z := tI.z) j hjl)
          have hwm2 : 0 ≤ (e.rds.getD (((k + 1 : Nat) : Int)).toNat tRd.z).wits.getD (j : Int).toNat tI.z ∧ (e.rds.getD (((k + 1 : Nat) : Int)).toNat tRd.z).wits.getD (j : Int).toNat tI.z < names.length := by rw [hr3]; exact hwm
          rw [wsB_take names r.wits j hjl, show Z ++ blA (formB r) ++ (wsB names (r.wits.take j) ++ nmB names (r.wits.getD j 0)) = ((Z ++ blA (formB r) ++ wsB names (r.wits.take j)) ++ [32]) ++ blA (names.getD (r.wits.getD j 0).toNat .empty) by unfold nmB; simp] at IHj
          have hnz : (names.getD ((e.rds.getD (((k + 1 : Nat) : Int)).toNat tRd.z).wits.getD (j : Int).toNat tI.z).toNat tS.z).size ≤ 8 := H.name _ (getD_mem (z := tS.z) _ (by omega))
          generalize Z ++ blA (formB r) ++ wsB names (r.wits.take j) = Q at *
          refine Run.go ?_; (conv => whnf); repeat' (first | ((with_reducible refine Know.mk fun _ => ?_); conv => whnf) | ((with_reducible refine Need.mk ?_ ?_); exact nd; conv => whnf) | ((with_reducible first | refine Both.mk ?_ ?_ | refine Any.mk fun b hb => ?_ | refine AskB.dec (fun hb => ?_) (fun hb => ?_) | refine AskB.ndec (fun hb => ?_) (fun hb => ?_) | refine AskB.mk (fun hb => ?_) (fun hb => ?_)) <;> conv => whnf) | ((with_reducible first | refine Run.drawX rfl (by decide +kernel) ?_ | refine Run.drawT rfl (by decide +kernel) ?_ | refine Run.drawW rfl (by decide +kernel) ?_); conv => whnf) | fail)
          all_goals try (exfalso; omega)
          refine Run.hold (z := 70) 5 90 (by rfl) (by rfl) (by rfl) ?_
          rw [hr3]
          refine Run.to _ _ ?_ ?_ IHj
          · exact ⟨Le.refl _, Le.refl _, Le.refl _, Le.refl _, Le.int hw2, trivial⟩
          · exact ⟨MOle.refl _, MOle.rowTr (MOle.rowJn (bsP 5 Q 32 _ rfl)) (bsJ2 5 _ _), trivial⟩
        · obtain rfl : j = r.wits.length := by omega
          rw [List.take_length]
          refine Run.go ?_; (conv => whnf); repeat' (first | ((with_reducible refine Know.mk fun _ => ?_); conv => whnf) | ((with_reducible refine Need.mk ?_ ?_); exact nd; conv => whnf) | ((with_reducible first | refine Both.mk ?_ ?_ | refine Any.mk fun b hb => ?_ | refine AskB.dec (fun hb => ?_) (fun hb => ?_) | refine AskB.ndec (fun hb => ?_) (fun hb => ?_) | refine AskB.mk (fun hb => ?_) (fun hb => ?_)) <;> conv => whnf) | ((with_reducible first | refine Run.drawX rfl (by decide +kernel) ?_ | refine Run.drawT rfl (by decide +kernel) ?_ | refine Run.drawW rfl (by decide +kernel) ?_); conv => whnf) | fail)
          all_goals try (exfalso; omega)
          refine Run.to _ _ ?_ ?_ IH
          · exact ⟨Le.refl _, Le.refl _, Le.refl _, Le.int hw1, trivial⟩
          · exact ⟨MOle.refl _, MOle.refl _, trivial⟩
    · obtain rfl : k = L.length := by omega
      rw [List.take_length]
      have hYs := bs_size (X ++ reB (L.map (rdB names)))
      rw [List.length_append] at hYs
      rw [List.take_length] at hrek
      refine Run.go ?_; (conv => whnf); repeat' (first | ((with_reducible refine Know.mk fun _ => ?_); conv => whnf) | ((with_reducible refine Need.mk ?_ ?_); exact nd; conv => whnf) | ((with_reducible first | refine Both.mk ?_ ?_ | refine Any.mk fun b hb => ?_ | refine AskB.dec (fun hb => ?_) (fun hb => ?_) | refine AskB.ndec (fun hb => ?_) (fun hb => ?_) | refine AskB.mk (fun hb => ?_) (fun hb => ?_)) <;> conv => whnf) | ((with_reducible first | refine Run.drawX rfl (by decide +kernel) ?_ | refine Run.drawT rfl (by decide +kernel) ?_ | refine Run.drawW rfl (by decide +kernel) ?_); conv => whnf) | fail)
      all_goals try (exfalso; omega)
      generalize reB (L.map (rdB names)) = Y at *
      refine Run.to [(73, .row 73)] [(73, .row 5 1 (bs ((X ++ Y) ++ [10])).size (bytesG (bs ((X ++ Y) ++ [10]))))] ⟨Le.refl _, trivial⟩ ⟨bsP 5 (X ++ Y) 10 _ rfl, trivial⟩ ?_
      refine Run.rowStr (x := .tmp 73) (src := 48) (dst := 9) (e := 5) (q := 73) (bs ((X ++ Y) ++ [10])) rfl rfl rfl rfl rfl rfl rfl (fun _ _ => rfl) (by kernel_rfl) (by kernel_rfl) (by kernel_rfl) ?_
      refine Run.go ?_; (conv => whnf); repeat' (first | ((with_reducible refine Know.mk fun _ => ?_); conv => whnf) | ((with_reducible refine Need.mk ?_ ?_); exact nd; conv => whnf) | ((with_reducible first | refine Both.mk ?_ ?_ | refine Any.mk fun b hb => ?_ | refine AskB.dec (fun hb => ?_) (fun hb => ?_) | refine AskB.ndec (fun hb => ?_) (fun hb => ?_) | refine AskB.mk (fun hb => ?_) (fun hb => ?_)) <;> conv => whnf) | ((with_reducible first | refine Run.drawX rfl (by decide +kernel) ?_ | refine Run.drawT rfl (by decide +kernel) ?_ | refine Run.drawW rfl (by decide +kernel) ?_); conv => whnf) | fail)
      exact Run.leave (ts := [4]) (.inr ⟨_, rfl⟩) rfl Tryd.func19 rfl (Le.str (by rw [List.append_assoc]))
theorem print17R_fn (es : List En) (names : List ByteArray) (c : Int) (hl : es.length ≤ 2000000) (htx : ∀ e ∈ es, ∀ r ∈ e.rds, r.text.size ≤ 2000000) (htot : (∀ e ∈ es, EnFit names e) → (prT names es).length ≤ 20000000000) :
    Fn Tryd.prog 8 [tEn.L es, tS.L names, .int .i64 c] (prA es names c) := by
  have hnf := names17_fn names
  have hcf := appCheckR_fn es names.length c
  unfold prA prB
  cases hnm : nmOk names with
  | false =>
    rw [hnm] at hnf
    rw [if_neg (show ¬ (false = true) by decide)]
    refine Fn.of Tryd.f8 _ Tryd.func8 rfl (by decide) (by show 3 ≤ _; decide) tbOk 41 rfl fun S w0 gl => ?_
    refine Run.go ?_; (conv => whnf); repeat' (first | ((with_reducible refine Know.mk fun _ => ?_); conv => whnf) | ((with_reducible refine Need.mk ?_ ?_); exact nd; conv => whnf) | ((with_reducible first | refine Both.mk ?_ ?_ | refine Any.mk fun b hb => ?_ | refine AskB.dec (fun hb => ?_) (fun hb => ?_) | refine AskB.ndec (fun hb => ?_) (fun hb => ?_) | refine AskB.mk (fun hb => ?_) (fun hb => ?_)) <;> conv => whnf) | ((with_reducible first | refine Run.drawX rfl (by decide +kernel) ?_ | refine Run.drawT rfl (by decide +kernel) ?_ | refine Run.drawW rfl (by decide +kernel) ?_); conv => whnf) | fail)
    refine Run.callBX hnf rfl rfl ⟨Le.refl _, trivial⟩ rfl rfl rfl ?_
    (conv => whnf); repeat' (first | ((with_reducible refine Know.mk fun _ => ?_); conv => whnf) | ((with_reducible refine Need.mk ?_ ?_); exact nd; conv => whnf) | ((with_reducible first | refine Both.mk ?_ ?_ | refine Any.mk fun b hb => ?_ | refine AskB.dec (fun hb => ?_) (fun hb => ?_) | refine AskB.ndec (fun hb => ?_) (fun hb => ?_) | refine AskB.mk (fun hb => ?_) (fun hb => ?_)) <;> conv => whnf) | ((with_reducible first | refine Run.drawX rfl (by decide +kernel) ?_ | refine Run.drawT rfl (by decide +kernel) ?_ | refine Run.drawW rfl (by decide +kernel) ?_); conv => whnf) | fail)
    · exact Run.leave (ts := [6,7]) (.inr ⟨_, rfl⟩) rfl Tryd.func8 rfl (resT ⟨Le.refl _, Le.refl _, trivial⟩)
    all_goals exact absurd (by assumption : (!false) = false) (by decide)
  | true =>
    rw [hnm] at hnf
    rw [if_pos rfl]
    by_cases hck : chk es names.length c = 0
    · rw [hck] at hcf
      rw [if_pos hck]
      obtain ⟨hc4, hgood⟩ := chk_zero hck
      have hfit : ∀ e ∈ es, EnFit names e := fun e he => enFit hnm hc4 hgood htx he
      have htot := htot hfit
      refine Fn.of Tryd.f8 _ Tryd.func8 rfl (by decide) (by show 3 ≤ _; decide) tbOk 41 rfl fun S w0 gl => ?_
      refine Run.go ?_; (conv => whnf); repeat' (first | ((with_reducible refine Know.mk fun _ => ?_); conv => whnf) | ((with_reducible refine Need.mk ?_ ?_); exact nd; conv => whnf) | ((with_reducible first | refine Both.mk ?_ ?_ | refine Any.mk fun b hb => ?_ | refine AskB.dec (fun hb => ?_) (fun hb => ?_) | refine AskB.ndec (fun hb => ?_) (fun hb => ?_) | refine AskB.mk (fun hb => ?_) (fun hb => ?_)) <;> conv => whnf) | ((with_reducible first | refine Run.drawX rfl (by decide +kernel) ?_ | refine Run.drawT rfl (by decide +kernel) ?_ | refine Run.drawW rfl (by decide +kernel) ?_); conv => whnf) | fail)
      refine Run.callBX hnf rfl rfl ⟨Le.refl _, trivial⟩ rfl rfl rfl ?_
      (conv => whnf); repeat' (first | ((with_reducible refine Know.mk fun _ => ?_); conv => whnf) | ((with_reducible refine Need.mk ?_ ?_); exact nd; conv => whnf) | ((with_reducible first | refine Both.mk ?_ ?_ | refine Any.mk fun b hb => ?_ | refine AskB.dec (fun hb => ?_) (fun hb => ?_) | refine AskB.ndec (fun hb => ?_) (fun hb => ?_) | refine AskB.mk (fun hb => ?_) (fun hb => ?_)) <;> conv => whnf) | ((with_reducible first | refine Run.drawX rfl (by decide +kernel) ?_ | refine Run.drawT rfl (by decide +kernel) ?_ | refine Run.drawW rfl (by decide +kernel) ?_); conv => whnf) | fail)
      · exact absurd (by assumption : (!true) = true) (by decide)
      refine Run.callBX hcf rfl rfl ⟨Le.refl _, Le.refl _, Le.refl _, trivial⟩ rfl rfl rfl ?_
      (conv => whnf); repeat' (first | ((with_reducible refine Know.mk fun _ => ?_); conv => whnf) | ((with_reducible refine Need.mk ?_ ?_); exact nd; conv => whnf) | ((with_reducible first | refine Both.mk ?_ ?_ | refine Any.mk fun b hb => ?_ | refine AskB.dec (fun hb => ?_) (fun hb => ?_) | refine AskB.ndec (fun hb => ?_) (fun hb => ?_) | refine AskB.mk (fun hb => ?_) (fun hb => ?_)) <;> conv => whnf) | ((with_reducible first | refine Run.drawX rfl (by decide +kernel) ?_ | refine Run.drawT rfl (by decide +kernel) ?_ | refine Run.drawW rfl (by decide +kernel) ?_); conv => whnf) | fail)
      rotate_left
      · exact absurd rfl (by assumption)
      refine Run.holdNil 9 90 5 1 (bytesG .empty) rfl ?_
      refine Run.loop [0, 1] (fun (i : Nat) => [(9, .row 90), (10, .int .i64 (i : Int))]) (fun i => [(90, .row 5 1 (bs (prT names (es.take i))).size (bytesG (bs (prT names (es.take i)))))]) (fun i => i ≤ es.length) (fun i => es.length - i) 0 (Nat.zero_le _) ⟨Le.refl _, Le.refl _, trivial⟩ ⟨MOle.refl _, trivial⟩ ?_
      intro i hi IH
      have hw1 : IntKind.i64.wrap ((i : Int) + 1) = ((i + 1 : Nat) : Int) := wrap64 (by omega) (by omega)
      have hpr := prT_pre names es i
      have hXs := bs_size (prT names (es.take i))
      by_cases hil : i < es.length
      · have hem := getD_mem (z := tEn.z) i hil
        have hln := rline_fn names _ (hfit _ hem) (hgood.each _ hem).2.2.2.1
        have hpr2 := prT_pre names es (i + 1)
        have IH := IH (i + 1) (by omega) (by omega)
        rw [prT_take names es i hil] at IH hpr2
        have hLs := bs_size (lnB names (es.getD i tEn.z))
        rw [List.length_append] at hpr2
        generalize prT names (es.take i) = X at *
        have hXb : (bs X).size ≤ 20000000000 := by omega
        have hLb : (bs X).size + (bs (lnB names (es.getD i tEn.z))).size ≤ 20000000000 := by omega
        refine Run.go ?_; (conv => whnf); repeat' (first | ((with_reducible refine Know.mk fun _ => ?_); conv => whnf) | ((with_reducible refine Need.mk ?_ ?_); exact nd; conv => whnf) | ((with_reducible first | refine Both.mk ?_ ?_ | refine Any.mk fun b hb => ?_ | refine AskB.dec (fun hb => ?_) (fun hb => ?_) | refine AskB.ndec (fun hb => ?_) (fun hb => ?_) | refine AskB.mk (fun hb => ?_) (fun hb => ?_)) <;> conv => whnf) | ((with_reducible first | refine Run.drawX rfl (by decide +kernel) ?_ | refine Run.drawT rfl (by decide +kernel) ?_ | refine Run.drawW rfl (by decide +kernel) ?_); conv => whnf) | fail)
        all_goals try (exfalso; omega)
        refine Run.callBX hln rfl rfl ⟨en_le (Le.refl _) (Le.refl _), Le.refl _, trivial⟩ rfl rfl rfl ?_
        (conv => whnf); repeat' (first | ((with_reducible refine Know.mk fun _ => ?_); conv => whnf) | ((with_reducible refine Need.mk ?_ ?_); exact nd; conv => whnf) | ((with_reducible first | refine Both.mk ?_ ?_ | refine Any.mk fun b hb => ?_ | refine AskB.dec (fun hb => ?_) (fun hb => ?_) | refine AskB.ndec (fun hb => ?_) (fun hb => ?_) | refine AskB.mk (fun hb => ?_) (fun hb => ?_)) <;> conv => whnf) | ((with_reducible first | refine Run.drawX rfl (by decide +kernel) ?_ | refine Run.drawT rfl (by decide +kernel) ?_ | refine Run.drawW rfl (by decide +kernel) ?_); conv => whnf) | fail)
        refine Run.hold (z := 35) 9 90 (by rfl) (by rfl) (by rfl) ?_
        refine Run.to _ _ ?_ ?_ IH
        · exact ⟨Le.refl _, Le.refl _, Le.refl _, Le.int hw1, trivial⟩
        · exact ⟨bsJ 5 X _, trivial⟩
      · obtain rfl : i = es.length := by omega
        rw [List.take_length] at *
        refine Run.go ?_; (conv => whnf); repeat' (first | ((with_reducible refine Know.mk fun _ => ?_); conv => whnf) | ((with_reducible refine Need.mk ?_ ?_); exact nd; conv => whnf) | ((with_reducible first | refine Both.mk ?_ ?_ | refine Any.mk fun b hb => ?_ | refine AskB.dec (fun hb => ?_) (fun hb => ?_) | refine AskB.ndec (fun hb => ?_) (fun hb => ?_) | refine AskB.mk (fun hb => ?_) (fun hb => ?_)) <;> conv => whnf) | ((with_reducible first | refine Run.drawX rfl (by decide +kernel) ?_ | refine Run.drawT rfl (by decide +kernel) ?_ | refine Run.drawW rfl (by decide +kernel) ?_); conv => whnf) | fail)
        all_goals try (exfalso; omega)
        · rw [if_pos (by omega)]
          exact Run.leave (ts := [6,7]) (.inr ⟨_, rfl⟩) rfl Tryd.func8 rfl (resT ⟨Le.refl _, Le.refl _, trivial⟩)
        · rw [if_neg (by omega)]
          refine Run.rowStr (x := .tmp 39) (src := 48) (dst := 9) (e := 5) (q := 90) (bs (prT names es)) rfl rfl rfl rfl rfl rfl rfl (fun _ _ => rfl) (by kernel_rfl) (by kernel_rfl) (by kernel_rfl) ?_
          refine Run.go ?_; (conv => whnf); repeat' (first | ((with_reducible refine Know.mk fun _ => ?_); conv => whnf) | ((with_reducible refine Need.mk ?_ ?_); exact nd; conv => whnf) | ((with_reducible first | refine Both.mk ?_ ?_ | refine Any.mk fun b hb => ?_ | refine AskB.dec (fun hb => ?_) (fun hb => ?_) | refine AskB.ndec (fun hb => ?_) (fun hb => ?_) | refine AskB.mk (fun hb => ?_) (fun hb => ?_)) <;> conv => whnf) | ((with_reducible first | refine Run.drawX rfl (by decide +kernel) ?_ | refine Run.drawT rfl (by decide +kernel) ?_ | refine Run.drawW rfl (by decide +kernel) ?_); conv => whnf) | fail)
          exact Run.leave (ts := [6,7]) (.inr ⟨_, rfl⟩) rfl Tryd.func8 rfl (resT ⟨Le.refl _, Le.refl _, trivial⟩)
    · rw [if_neg hck]
      generalize chk es names.length c = k at *
      refine Fn.of Tryd.f8 _ Tryd.func8 rfl (by decide) (by show 3 ≤ _; decide) tbOk 41 rfl fun S w0 gl => ?_
      refine Run.go ?_; (conv => whnf); repeat' (first | ((with_reducible refine Know.mk fun _ => ?_); conv => whnf) | ((with_reducible refine Need.mk ?_ ?_); exact nd; conv => whnf) | ((with_reducible first | refine Both.mk ?_ ?_ | refine Any.mk fun b hb => ?_ | refine AskB.dec (fun hb => ?_) (fun hb => ?_) | refine AskB.ndec (fun hb => ?_) (fun hb => ?_) | refine AskB.mk (fun hb => ?_) (fun hb => ?_)) <;> conv => whnf) | ((with_reducible first | refine Run.drawX rfl (by decide +kernel) ?_ | refine Run.drawT rfl (by decide +kernel) ?_ | refine Run.drawW rfl (by decide +kernel) ?_); conv => whnf) | fail)
      refine Run.callBX hnf rfl rfl ⟨Le.refl _, trivial⟩ rfl rfl rfl ?_
      (conv => whnf); repeat' (first | ((with_reducible refine Know.mk fun _ => ?_); conv => whnf) | ((with_reducible refine Need.mk ?_ ?_); exact nd; conv => whnf) | ((with_reducible first | refine Both.mk ?_ ?_ | refine Any.mk fun b hb => ?_ | refine AskB.dec (fun hb => ?_) (fun hb => ?_) | refine AskB.ndec (fun hb => ?_) (fun hb => ?_) | refine AskB.mk (fun hb => ?_) (fun hb => ?_)) <;> conv => whnf) | ((with_reducible first | refine Run.drawX rfl (by decide +kernel) ?_ | refine Run.drawT rfl (by decide +kernel) ?_ | refine Run.drawW rfl (by decide +kernel) ?_); conv => whnf) | fail)
      · exact absurd (by assumption : (!true) = true) (by decide)
      refine Run.callBX hcf rfl rfl ⟨Le.refl _, Le.refl _, Le.refl _, trivial⟩ rfl rfl rfl ?_
      (conv => whnf); repeat' (first | ((with_reducible refine Know.mk fun _ => ?_); conv => whnf) | ((with_reducible refine Need.mk ?_ ?_); exact nd; conv => whnf) | ((with_reducible first | refine Both.mk ?_ ?_ | refine Any.mk fun b hb => ?_ | refine AskB.dec (fun hb => ?_) (fun hb => ?_) | refine AskB.ndec (fun hb => ?_) (fun hb => ?_) | refine AskB.mk (fun hb => ?_) (fun hb => ?_)) <;> conv => whnf) | ((with_reducible first | refine Run.drawX rfl (by decide +kernel) ?_ | refine Run.drawT rfl (by decide +kernel) ?_ | refine Run.drawW rfl (by decide +kernel) ?_); conv => whnf) | fail)
      all_goals try exact absurd (by assumption) hck
      exact Run.leave (ts := [6,7]) (.inr ⟨_, rfl⟩) rfl Tryd.func8 rfl (resT ⟨Le.refl _, Le.refl _, trivial⟩)
end Go.Proofs.YteklnpgiloebcaaDoor.V

namespace Go.Proofs.YteklnpgiloebcaaDoor.V
set_option linter.unusedVariables false
set_option linter.unusedSimpArgs false
open Go Go.Proofs Go.RowKit
section
variable {C : Ctx} {env : Env} {h : Heap} {ops : Array Oper} {i : Nat} {rest : List Nat} {k : List Item} {o : Oper}
theorem Run.mkIf {t : TypeId} {x : Operand} {kd kd' : IntKind} {n : Int} (ho : ops.toList[i]? = some o) (hop : o.op = .makeInterface t x) (hx : ev env x = .int kd n) (ht : C.P.underlying t = some (.int kd')) (hd : okD C o.dst = true) (hr : ready env ops o = true)
    (next : Run C (.inRegion ops rest :: k) (putE env o.dst (.val (.iface t (.int kd n)))) h) : Run C (.inRegion ops (i :: rest) :: k) env h :=
  Run.opG (fun env' h' z => env' = env ∧ h' = h ∧ z = .val (.iface t (.int kd n))) ho hd hr (fun ι a w R => by
    have hv := ev_ok R x
    rw [hx] at hv
    have hv' : a.eval x = .int kd n := hv
    refine OpOut.of (s := Instr.makeInterface t (a.eval x)) (by simp [execOp, hop]) (Out.same R ⟨rfl, rfl, rfl⟩ (v := .iface t (.int kd n)) ?_ ⟨rfl, rfl⟩)
    rw [hv']
    simp [Instr.makeInterface, run_underlying ht]) (fun env' h' y ⟨e1, e2, e3⟩ => by subst e1; subst e2; subst e3; exact next)
/-- A pointer becomes one: nothing is known of it. -/
theorem Run.mkIfU {t e : TypeId} {x : Operand} (ho : ops.toList[i]? = some o) (hop : o.op = .makeInterface t x) (ht : C.P.underlying t = some (.pointer e)) (hd : okD C o.dst = true) (hr : ready env ops o = true)
    (next : Run C (.inRegion ops rest :: k) (putE env o.dst .u) h) : Run C (.inRegion ops (i :: rest) :: k) env h :=
  Run.opG (fun env' h' z => env' = env ∧ h' = h ∧ z = .u) ho hd hr (fun ι a w R => by
    refine OpOut.of (s := Instr.makeInterface t (a.eval x)) (by simp [execOp, hop]) (Out.same R ⟨rfl, rfl, rfl⟩ (v := .iface t (a.eval x)) ?_ trivial)
    simp [Instr.makeInterface, run_underlying ht]) (fun env' h' y ⟨e1, e2, e3⟩ => by subst e1; subst e2; subst e3; exact next)
/-- The value itself, where it is told. -/
def exV : AV → Option Value
  | .val c => some c
  | .nilif => some .nilIface
  | _ => none
theorem exV_ok {w : World} {ok : Nat → Prop} {r : Ref} {x : AV} {v c : Value} (h : exV x = some c) (hv : VR w ok x r v) : v = c := by
  cases x <;> simp [exV] at h <;> subst h <;> first | exact hv.1 | exact hv
theorem Run.binIf {op : BinOp} {t t2 : TypeId} {x y : Operand} {vx vy : Value} {b : Bool} (ho : ops.toList[i]? = some o) (hop : o.op = .binOp op t x y t2) (hx : exV (ev env x) = some vx) (hy : exV (ev env y) = some vy)
    (hrun : ∀ w, (do eqGuard op t x y vx vy; binOp op t vx vy : Sem Value).run C.P w = .ok (.bool b) w) (hd : okD C o.dst = true) (hr : ready env ops o = true)
    (next : Run C (.inRegion ops rest :: k) (putE env o.dst (.bool b)) h) : Run C (.inRegion ops (i :: rest) :: k) env h :=
  Run.opG (fun env' h' z => env' = env ∧ h' = h ∧ z = .bool b) ho hd hr (fun ι a w R => by
    have hvx := exV_ok hx (ev_ok R x)
    have hvy := exV_ok hy (ev_ok R y)
    refine OpOut.of (s := (do eqGuard op t x y (a.eval x) (a.eval y); binOp op t (a.eval x) (a.eval y))) (by simp [execOp, hop]) (Out.same R ⟨rfl, rfl, rfl⟩ (v := .bool b) ?_ rfl)
    rw [hvx, hvy]
    exact hrun w) (fun env' h' y ⟨e1, e2, e3⟩ => by subst e1; subst e2; subst e3; exact next)
end
theorem if_nil {P : Program} {t u : TypeId} {v : Value} {x y : Operand} (ht : P.underlying t = some (.interface (P.methodsAt t))) (w : World) : (do eqGuard .neq t x y (.iface u v) .nilIface; binOp .neq t (.iface u v) .nilIface : Sem Value).run P w = .ok (.bool true) w := by
  simp only [Sem.run_bind, eqGuard]
  simp [run_neq_held_nil w t u v ht]
theorem if_eqIn {P : Program} {t u : TypeId} {info : TypeInfo} {k kd : IntKind} {a b : Int} (ht : P.underlying t = some (.interface (P.methodsAt t))) (hu : P.underlying u = some (.int kd)) (hi : P.info? u = some info) (hc : info.comparable = true) (d : Nat) (w : World) :
    (Op.equalIn (d + 1 + 1) t (.iface u (.int k a)) (.iface u (.int k b))).run P w = .ok (a == b) w := by
  unfold Op.equalIn
  simp [run_underlying ht, typeInfo, hi, hc, run_equalIn_int w d u k kd a b hu]
theorem if_eq {P : Program} {t u : TypeId} {info : TypeInfo} {k kd : IntKind} {a b : Int} {x y : Operand} (ht : P.underlying t = some (.interface (P.methodsAt t))) (hu : P.underlying u = some (.int kd)) (hi : P.info? u = some info) (hc : info.comparable = true) (w : World) :
    (do eqGuard .eql t x y (.iface u (.int k a)) (.iface u (.int k b)); binOp .eql t (.iface u (.int k a)) (.iface u (.int k b)) : Sem Value).run P w = .ok (.bool (a == b)) w := by
  have h : (Op.equal t (.iface u (.int k a)) (.iface u (.int k b))).run P w = .ok (a == b) w := if_eqIn ht hu hi hc 9998 w
  simp only [Sem.run_bind, eqGuard, binOp]
  simp [h]
/-! ### a text copied into an own row -/
def cellsOfS (s : ByteArray) : List Value := s.data.toList.map fun b => .int .u8 (b.toNat : Int)
theorem cellsOfS_len (s : ByteArray) : (cellsOfS s).length = s.size := by simp [cellsOfS]
theorem cellsOfS_one (s : ByteArray) : ∀ v ∈ cellsOfS s, v.oneCell' = true := fun v hv => by
  obtain ⟨b, _, rfl⟩ := List.mem_map.mp hv
  rfl
theorem run_copyX {P : Program} (w : World) (dT sT ty elem : TypeId) (g dLen dCap : Nat) (s : ByteArray) (cur : Array Value) (t : TypeId)
    (hu : P.underlying dT = some (.slice elem)) (hs : (P.info? elem).map (·.size) = some 1) (hg : cellsX w g cur t) (hle : s.size ≤ dLen) (hfit : s.size ≤ cur.size) :
    (Builtin.copy_ #[dT, sT] ty #[.slice (some ⟨g, 0, none⟩) dLen dCap, .string s]).run P w =
      .ok (goInt s.size) (w.setRow g (cur.toList.take (0 + 0) ++ cellsOfS s ++ cur.toList.drop (0 + 0 + (cellsOfS s).length)).toArray) := by
  have hst := run_storeCells_atX P g 0 t (cellsOfS s) 0 cur w hg (by rw [cellsOfS_len]; omega) (cellsOfS_one s)
  have hmin : Nat.min s.size dLen = s.size := Nat.min_eq_left hle
  have htk : List.take s.size (List.map (fun b : UInt8 => Value.int IntKind.u8 (b.toNat : Int)) s.data.toList) = cellsOfS s := by
    rw [List.take_of_length_le (by simp)]
    rfl
  cases hq : P.info? elem with
  | none => simp [hq] at hs
  | some i =>
    simp [Builtin.copy_, run_underlying hu, Builtin.lenOf, Builtin.firstCells, sizeOf, typeInfo, hq, hmin]
    rw [htk, hst]
    simp [Result.andThen]
theorem Run.copyStr {C : Ctx} {env : Env} {h : Heap} {ops : Array Oper} {i : Nat} {rest : List Nat} {k : List Item} {o : Oper} {cl : Call} {x y : Operand} {dT sT e e' : TypeId} {q n : Nat} {get : Nat → Nat → AV} (s : ByteArray) (ho : ops.toList[i]? = some o) (hc : o.op = .call cl) (hcb : cl.callee = .builtin .copy) (hca : cl.args.toList = [x, y]) (hct : cl.argTypes = #[dT, sT])
    (hx : ev env x = .row q) (hy : ev env y = .str s) (hq : h q = .row e 1 n get) (hn : n = s.size) (hpos : 0 < n) (hu : C.P.underlying dT = some (.slice e')) (hz : (C.P.info? e').map (·.size) = some 1) (hd : okD C o.dst = true) (hr : ready env ops o = true)
    (next : Run C (.inRegion ops rest :: k) (putE env o.dst (.int .i64 (s.size : Int))) (upd h q (.row e 1 n (bytesG s)))) : Run C (.inRegion ops (i :: rest) :: k) env h :=
  Run.opG (fun env' h' z => env' = env ∧ h' = upd h q (.row e 1 n (bytesG s)) ∧ z = .int .i64 (s.size : Int)) ho hd hr (fun ι A w R => by
    have hca' := toList_two hca
    have hvx := ev_ok R x
    have hvy := ev_ok R y
    rw [hx] at hvx
    rw [hy] at hvy
    have hvx' : A.eval x = ι q 0 := hvx
    obtain ⟨hvy', hmax⟩ : A.eval y = .string s ∧ s.size ≤ maxLen := hvy
    have hobj := R.obj q
    rw [hq] at hobj
    obtain ⟨xs, hown, hone, hcells⟩ := hobj
    rcases hown.2 with ⟨hv, hn0⟩ | ⟨g, cap, cur, hv, hB, hg, hnc, hcap, hcs, htake⟩
    · omega
    have hbase := R.base q (by rw [hq]; simp) g (owns_zero (by rw [hv]; rfl))
    have hlen := cellsOfS_len s
    have hsz : (cur.toList.take (0 + 0) ++ cellsOfS s ++ cur.toList.drop (0 + 0 + (cellsOfS s).length)).toArray.size = cur.size := by
      simp; omega
    have R' := R.set q (.row e 1 n (bytesG s)) (w.setRow g (cur.toList.take (0 + 0) ++ cellsOfS s ++ cur.toList.drop (0 + 0 + (cellsOfS s).length)).toArray) (below_setRow C g _ hbase.1) (by rw [hq]; simp) (fun b hb' _ => setRow_other w g b _ (hb' g (by rw [hv]; rfl))) (by rw [hq]; exact ⟨rfl, rfl⟩) (fun r ok hr hok hwb => by
      refine ⟨cellsOfS s, ⟨by omega, .inr ⟨g, cap, _, hv, hB, hg.set hsz, hnc, hcap, by rw [hsz]; exact hcs, ?_⟩⟩, cellsOfS_one s, fun a b ha hb => ?_⟩
      · rw [List.toList_toArray, show n * 1 = (cellsOfS s).length by omega]
        simp
      · obtain rfl : b = 0 := by omega
        have ha' : a < s.data.size := by rw [hn] at ha; exact ha
        refine ⟨.int .u8 (s.data[a].toNat : Int), ?_, ?_⟩
        · unfold cellsOfS
          rw [show a * 1 + 0 = a by omega, List.getElem?_map, List.getElem?_eq_getElem (by simpa using ha')]
          simp
        · show Value.int .u8 _ = .int .u8 (bt s a)
          unfold bt
          rw [List.getD, List.getElem?_eq_getElem (by simpa using ha')]; simp)
    refine ⟨.value (.int .i64 (s.size : Int)), .int .i64 (s.size : Int), _, ι, env, _, .int .i64 (s.size : Int), ?_, .inl rfl, R', rfl, rfl, rfl, rfl⟩
    have hrun := run_copyX (P := C.P) w dT sT o.type e' g n cap s cur e hu hz hg (by omega) (by omega)
    simp only [execOp, hc, resolve, hcb, hca', hct, invoke, builtin, Act.eval]
    simp [hvx', hvy', hv, hrun, goInt]) (fun env' h' y ⟨e1, e2, e3⟩ => by subst e1; subst e2; subst e3; exact next)
end Go.Proofs.YteklnpgiloebcaaDoor.V

namespace Go.Proofs.YteklnpgiloebcaaDoor.V
set_option linter.unusedVariables false
set_option linter.unusedSimpArgs false
open Go Go.Proofs Go.RowKit
set_option maxRecDepth 100000
set_option maxHeartbeats 1000000
def awX : ByteArray := ⟨#[120]⟩
theorem idxA_fn : Fn Tryd.prog 47 [.str ⟨#[120, 10]⟩, .str ⟨#[10]⟩] (.int .i64 1) := index100_fn [120, 10]
theorem idxB_fn : Fn Tryd.prog 47 [.str awX, .str ⟨#[32, 93, 32]⟩] (.int .i64 (-1)) := by
  refine Fn.of Tryd.f47 _ Tryd.func47 rfl (by decide) (by show 2 ≤ _; decide) tbOk 143 rfl fun S w0 gl => ?_
  have h1 : awX.size = 1 := rfl
  have h2 : (ByteArray.mk #[32, 93, 32]).size = 3 := rfl
  refine Run.go ?_; (conv => whnf); repeat' (first | ((with_reducible refine Know.mk fun _ => ?_); conv => whnf) | ((with_reducible refine Need.mk ?_ ?_); exact nd; conv => whnf) | ((with_reducible refine Both.mk ?_ ?_) <;> conv => whnf) | ((with_reducible refine Any.mk fun b hb => ?_); conv => whnf) | ((with_reducible first | refine AskB.dec (fun hb => ?_) (fun hb => ?_) | refine AskB.ndec (fun hb => ?_) (fun hb => ?_) | refine AskB.mk (fun hb => ?_) (fun hb => ?_)) <;> first | (exfalso; omega) | (conv => whnf)) | ((with_reducible first | refine Run.drawX rfl (by decide +kernel) ?_ | refine Run.drawT rfl (by decide +kernel) ?_ | refine Run.drawW rfl (by decide +kernel) ?_); conv => whnf) | fail)
  all_goals try (exfalso; omega)
  all_goals first
    | exact absurd hb (by decide)
    | exact Run.leave (ts := [4]) (.inr ⟨_, rfl⟩) rfl Tryd.func47 rfl (Le.refl _)
theorem idxC_fn : Fn Tryd.prog 47 [.str awX, .str ⟨#[32]⟩] (.int .i64 (-1)) := by
  refine Fn.of Tryd.f47 _ Tryd.func47 rfl (by decide) (by show 2 ≤ _; decide) tbOk 143 rfl fun S w0 gl => ?_
  have h1 : awX.size = 1 := rfl
  have h2 : (ByteArray.mk #[32]).size = 1 := rfl
  refine Run.go ?_; (conv => whnf); repeat' (first | ((with_reducible refine Know.mk fun _ => ?_); conv => whnf) | ((with_reducible refine Need.mk ?_ ?_); exact nd; conv => whnf) | ((with_reducible refine Both.mk ?_ ?_) <;> conv => whnf) | ((with_reducible refine Any.mk fun b hb => ?_); conv => whnf) | ((with_reducible first | refine AskB.dec (fun hb => ?_) (fun hb => ?_) | refine AskB.ndec (fun hb => ?_) (fun hb => ?_) | refine AskB.mk (fun hb => ?_) (fun hb => ?_)) <;> first | (exfalso; omega) | (conv => whnf)) | ((with_reducible first | refine Run.drawX rfl (by decide +kernel) ?_ | refine Run.drawT rfl (by decide +kernel) ?_ | refine Run.drawW rfl (by decide +kernel) ?_); conv => whnf) | fail)
  all_goals try (exfalso; omega)
  all_goals try (exact absurd hb (by decide))
  refine Run.callBX (ib60_fn [120] _) rfl rfl ⟨Le.refl _, Le.refl _, trivial⟩ rfl rfl rfl ?_
  (conv => whnf); repeat' (first | ((with_reducible refine Know.mk fun _ => ?_); conv => whnf) | ((with_reducible refine Need.mk ?_ ?_); exact nd; conv => whnf) | ((with_reducible first | refine Both.mk ?_ ?_ | refine Any.mk fun b hb => ?_ | refine AskB.dec (fun hb => ?_) (fun hb => ?_) | refine AskB.ndec (fun hb => ?_) (fun hb => ?_) | refine AskB.mk (fun hb => ?_) (fun hb => ?_)) <;> conv => whnf) | ((with_reducible first | refine Run.drawX rfl (by decide +kernel) ?_ | refine Run.drawT rfl (by decide +kernel) ?_ | refine Run.drawW rfl (by decide +kernel) ?_); conv => whnf) | fail)
  exact Run.leave (ts := [4]) (.inr ⟨_, rfl⟩) rfl Tryd.func47 rfl (Le.int (by decide))
theorem cutSA_fn : Fn Tryd.prog 33 [.str ⟨#[120, 10]⟩, .str ⟨#[10]⟩] (tupL [.str awX, .str .empty, .tt]) := by
  refine Fn.of Tryd.f33 _ Tryd.func33 rfl (by decide) (by show 2 ≤ _; decide) tbOk 23 rfl fun S w0 gl => ?_
  have h1 : (ByteArray.mk #[120, 10]).size = 2 := rfl
  have h2 : (ByteArray.mk #[10]).size = 1 := rfl
  have hw : IntKind.i64.wrap ((1 : Int) + ((ByteArray.mk #[10]).size : Int)) = 2 := by decide
  refine Run.go ?_; (conv => whnf); repeat' (first | ((with_reducible refine Know.mk fun _ => ?_); conv => whnf) | ((with_reducible refine Need.mk ?_ ?_); exact nd; conv => whnf) | ((with_reducible first | refine Both.mk ?_ ?_ | refine Any.mk fun b hb => ?_ | refine AskB.dec (fun hb => ?_) (fun hb => ?_) | refine AskB.ndec (fun hb => ?_) (fun hb => ?_) | refine AskB.mk (fun hb => ?_) (fun hb => ?_)) <;> conv => whnf) | ((with_reducible first | refine Run.drawX rfl (by decide +kernel) ?_ | refine Run.drawT rfl (by decide +kernel) ?_ | refine Run.drawW rfl (by decide +kernel) ?_); conv => whnf) | fail)
  refine Run.callBX idxA_fn rfl rfl ⟨Le.refl _, Le.refl _, trivial⟩ rfl rfl rfl ?_
  (conv => whnf); repeat' (first | ((with_reducible refine Know.mk fun _ => ?_); conv => whnf) | ((with_reducible refine Need.mk ?_ ?_); exact nd; conv => whnf) | ((with_reducible refine Both.mk ?_ ?_) <;> conv => whnf) | ((with_reducible refine Any.mk fun b hb => ?_); conv => whnf) | ((with_reducible first | refine AskB.dec (fun hb => ?_) (fun hb => ?_) | refine AskB.ndec (fun hb => ?_) (fun hb => ?_) | refine AskB.mk (fun hb => ?_) (fun hb => ?_)) <;> first | (exfalso; omega) | (conv => whnf)) | ((with_reducible first | refine Run.drawX rfl (by decide +kernel) ?_ | refine Run.drawT rfl (by decide +kernel) ?_ | refine Run.drawW rfl (by decide +kernel) ?_); conv => whnf) | fail)
  all_goals try (exfalso; omega)
  exact Run.leave (ts := [4,5,6]) (.inr ⟨_, rfl⟩) rfl Tryd.func33 rfl (resT ⟨Le.str (by decide +kernel), Le.str (by decide +kernel), Le.refl _, trivial⟩)
theorem cutSB_fn : Fn Tryd.prog 33 [.str awX, .str ⟨#[32, 93, 32]⟩] (tupL [.str awX, .str .empty, .ff]) := by
  refine Fn.of Tryd.f33 _ Tryd.func33 rfl (by decide) (by show 2 ≤ _; decide) tbOk 23 rfl fun S w0 gl => ?_
  refine Run.go ?_; (conv => whnf); repeat' (first | ((with_reducible refine Know.mk fun _ => ?_); conv => whnf) | ((with_reducible refine Need.mk ?_ ?_); exact nd; conv => whnf) | ((with_reducible first | refine Both.mk ?_ ?_ | refine Any.mk fun b hb => ?_ | refine AskB.dec (fun hb => ?_) (fun hb => ?_) | refine AskB.ndec (fun hb => ?_) (fun hb => ?_) | refine AskB.mk (fun hb => ?_) (fun hb => ?_)) <;> conv => whnf) | ((with_reducible first | refine Run.drawX rfl (by decide +kernel) ?_ | refine Run.drawT rfl (by decide +kernel) ?_ | refine Run.drawW rfl (by decide +kernel) ?_); conv => whnf) | fail)
  refine Run.callBX idxB_fn rfl rfl ⟨Le.refl _, Le.refl _, trivial⟩ rfl rfl rfl ?_
  (conv => whnf); repeat' (first | ((with_reducible refine Know.mk fun _ => ?_); conv => whnf) | ((with_reducible refine Need.mk ?_ ?_); exact nd; conv => whnf) | ((with_reducible refine Both.mk ?_ ?_) <;> conv => whnf) | ((with_reducible refine Any.mk fun b hb => ?_); conv => whnf) | ((with_reducible first | refine AskB.dec (fun hb => ?_) (fun hb => ?_) | refine AskB.ndec (fun hb => ?_) (fun hb => ?_) | refine AskB.mk (fun hb => ?_) (fun hb => ?_)) <;> first | (exfalso; omega) | (conv => whnf)) | ((with_reducible first | refine Run.drawX rfl (by decide +kernel) ?_ | refine Run.drawT rfl (by decide +kernel) ?_ | refine Run.drawW rfl (by decide +kernel) ?_); conv => whnf) | fail)
  all_goals try (exfalso; omega)
  exact Run.leave (ts := [4,5,6]) (.inr ⟨_, rfl⟩) rfl Tryd.func33 rfl (resT ⟨Le.refl _, Le.refl _, Le.refl _, trivial⟩)
theorem cutSC_fn : Fn Tryd.prog 33 [.str awX, .str ⟨#[32]⟩] (tupL [.str awX, .str .empty, .ff]) := by
  refine Fn.of Tryd.f33 _ Tryd.func33 rfl (by decide) (by show 2 ≤ _; decide) tbOk 23 rfl fun S w0 gl => ?_
  refine Run.go ?_; (conv => whnf); repeat' (first | ((with_reducible refine Know.mk fun _ => ?_); conv => whnf) | ((with_reducible refine Need.mk ?_ ?_); exact nd; conv => whnf) | ((with_reducible first | refine Both.mk ?_ ?_ | refine Any.mk fun b hb => ?_ | refine AskB.dec (fun hb => ?_) (fun hb => ?_) | refine AskB.ndec (fun hb => ?_) (fun hb => ?_) | refine AskB.mk (fun hb => ?_) (fun hb => ?_)) <;> conv => whnf) | ((with_reducible first | refine Run.drawX rfl (by decide +kernel) ?_ | refine Run.drawT rfl (by decide +kernel) ?_ | refine Run.drawW rfl (by decide +kernel) ?_); conv => whnf) | fail)
  refine Run.callBX idxC_fn rfl rfl ⟨Le.refl _, Le.refl _, trivial⟩ rfl rfl rfl ?_
  (conv => whnf); repeat' (first | ((with_reducible refine Know.mk fun _ => ?_); conv => whnf) | ((with_reducible refine Need.mk ?_ ?_); exact nd; conv => whnf) | ((with_reducible refine Both.mk ?_ ?_) <;> conv => whnf) | ((with_reducible refine Any.mk fun b hb => ?_); conv => whnf) | ((with_reducible first | refine AskB.dec (fun hb => ?_) (fun hb => ?_) | refine AskB.ndec (fun hb => ?_) (fun hb => ?_) | refine AskB.mk (fun hb => ?_) (fun hb => ?_)) <;> first | (exfalso; omega) | (conv => whnf)) | ((with_reducible first | refine Run.drawX rfl (by decide +kernel) ?_ | refine Run.drawT rfl (by decide +kernel) ?_ | refine Run.drawW rfl (by decide +kernel) ?_); conv => whnf) | fail)
  all_goals try (exfalso; omega)
  exact Run.leave (ts := [4,5,6]) (.inr ⟨_, rfl⟩) rfl Tryd.func33 rfl (resT ⟨Le.refl _, Le.refl _, Le.refl _, trivial⟩)
theorem cut_of {s sep a b : ByteArray} {z : AV} (hz : z = .tt ∨ z = .ff) (h : Fn Tryd.prog 33 [.str s, .str sep] (tupL [.str a, .str b, z])) : Fn Tryd.prog 22 [.str s, .str sep] (tupL [.str a, .str b, z]) := by
  rcases hz with rfl | rfl
  all_goals
    refine Fn.of Tryd.f22 _ Tryd.func22 rfl (by decide) (by show 2 ≤ _; decide) tbOk 13 rfl fun S w0 gl => ?_
    refine Run.go ?_; (conv => whnf); repeat' (first | ((with_reducible refine Know.mk fun _ => ?_); conv => whnf) | ((with_reducible refine Need.mk ?_ ?_); exact nd; conv => whnf) | ((with_reducible first | refine Both.mk ?_ ?_ | refine Any.mk fun b hb => ?_ | refine AskB.dec (fun hb => ?_) (fun hb => ?_) | refine AskB.ndec (fun hb => ?_) (fun hb => ?_) | refine AskB.mk (fun hb => ?_) (fun hb => ?_)) <;> conv => whnf) | ((with_reducible first | refine Run.drawX rfl (by decide +kernel) ?_ | refine Run.drawT rfl (by decide +kernel) ?_ | refine Run.drawW rfl (by decide +kernel) ?_); conv => whnf) | fail)
    refine Run.callBX h rfl rfl ⟨Le.refl _, Le.refl _, trivial⟩ rfl rfl rfl ?_
    (conv => whnf); repeat' (first | ((with_reducible refine Know.mk fun _ => ?_); conv => whnf) | ((with_reducible refine Need.mk ?_ ?_); exact nd; conv => whnf) | ((with_reducible refine Both.mk ?_ ?_) <;> conv => whnf) | ((with_reducible refine Any.mk fun b hb => ?_); conv => whnf) | ((with_reducible first | refine AskB.dec (fun hb => ?_) (fun hb => ?_) | refine AskB.ndec (fun hb => ?_) (fun hb => ?_) | refine AskB.mk (fun hb => ?_) (fun hb => ?_)) <;> first | (exfalso; omega) | (conv => whnf)) | ((with_reducible first | refine Run.drawX rfl (by decide +kernel) ?_ | refine Run.drawT rfl (by decide +kernel) ?_ | refine Run.drawW rfl (by decide +kernel) ?_); conv => whnf) | fail)
    exact Run.leave (ts := [4,5,6]) (.inr ⟨_, rfl⟩) rfl Tryd.func22 rfl (resT ⟨Le.refl _, Le.refl _, Le.refl _, trivial⟩)
end Go.Proofs.YteklnpgiloebcaaDoor.V

namespace Go.Proofs.YteklnpgiloebcaaDoor.V
set_option linter.unusedVariables false
set_option linter.unusedSimpArgs false
open Go Go.Proofs Go.RowKit
set_option maxRecDepth 100000
set_option maxHeartbeats 1000000
/-- What says that the syntax is wrong. -/
def awE2 : AV := .val (.iface 108 (.int .i64 2))
theorem atoiI_fn : Fn Tryd.prog 48 [.str awX] (tupL [.int .i64 0, awE2]) := by
  refine Fn.of Tryd.f48 _ Tryd.func48 rfl (by decide) (by show 1 ≤ _; decide) tbOk 77 rfl fun S w0 gl => ?_
  have h1 : awX.size = 1 := rfl
  have hbt : bt awX (Int.toNat 0) = 120 := by decide
  refine Run.go ?_; (conv => whnf); repeat' (first | ((with_reducible refine Know.mk fun _ => ?_); conv => whnf) | ((with_reducible refine Need.mk ?_ ?_); exact nd; conv => whnf) | ((with_reducible refine Both.mk ?_ ?_) <;> conv => whnf) | ((with_reducible refine Any.mk fun b hb => ?_); conv => whnf) | ((with_reducible first | refine AskB.dec (fun hb => ?_) (fun hb => ?_) | refine AskB.ndec (fun hb => ?_) (fun hb => ?_) | refine AskB.mk (fun hb => ?_) (fun hb => ?_)) <;> first | (exfalso; omega) | (conv => whnf)) | ((with_reducible first | refine Run.drawX rfl (by decide +kernel) ?_ | refine Run.drawT rfl (by decide +kernel) ?_ | refine Run.drawW rfl (by decide +kernel) ?_); conv => whnf) | fail)
  all_goals try (exfalso; omega)
  refine Run.toBytesR (d := 47) (e := 5) awX rfl rfl rfl rfl rfl rfl (by kernel_rfl) (by kernel_rfl) (by kernel_rfl) ?_
  refine Run.go ?_; (conv => whnf); repeat' (first | ((with_reducible refine Know.mk fun _ => ?_); conv => whnf) | ((with_reducible refine Need.mk ?_ ?_); exact nd; conv => whnf) | ((with_reducible first | refine Both.mk ?_ ?_ | refine Any.mk fun b hb => ?_ | refine AskB.dec (fun hb => ?_) (fun hb => ?_) | refine AskB.ndec (fun hb => ?_) (fun hb => ?_) | refine AskB.mk (fun hb => ?_) (fun hb => ?_)) <;> conv => whnf) | ((with_reducible first | refine Run.drawX rfl (by decide +kernel) ?_ | refine Run.drawT rfl (by decide +kernel) ?_ | refine Run.drawW rfl (by decide +kernel) ?_); conv => whnf) | fail)
  refine Run.loop [5, 48] (fun (i : Nat) => [(6, .int .i64 0), (47, .row 47), (49, .int .i64 (i : Int))]) (fun i => [(47, .row 5 1 awX.size (bytesG awX))]) (fun i => i = 0) (fun i => 0) 0 rfl ⟨Le.refl _, Le.refl _, Le.refl _, trivial⟩ ⟨MOle.refl _, trivial⟩ ?_
  intro i hi IH
  subst hi
  have hw0 : IntKind.u8.wrap (bt awX ((0 : Nat) : Int).toNat - 48) = 72 := by decide
  refine Run.go ?_; (conv => whnf); repeat' (first | ((with_reducible refine Know.mk fun _ => ?_); conv => whnf) | ((with_reducible refine Need.mk ?_ ?_); exact nd; conv => whnf) | ((with_reducible refine Both.mk ?_ ?_) <;> conv => whnf) | ((with_reducible refine Any.mk fun b hb => ?_); conv => whnf) | ((with_reducible first | refine AskB.dec (fun hb => ?_) (fun hb => ?_) | refine AskB.ndec (fun hb => ?_) (fun hb => ?_) | refine AskB.mk (fun hb => ?_) (fun hb => ?_)) <;> first | (exfalso; omega) | (conv => whnf)) | ((with_reducible first | refine Run.drawX rfl (by decide +kernel) ?_ | refine Run.drawT rfl (by decide +kernel) ?_ | refine Run.drawW rfl (by decide +kernel) ?_); conv => whnf) | fail)
  all_goals try (exfalso; omega)
  refine Run.mkIf (t := 108) (n := 2) rfl rfl rfl (kd' := .i64) (by kernel_rfl) rfl rfl ?_
  refine Run.go ?_; (conv => whnf); repeat' (first | ((with_reducible refine Know.mk fun _ => ?_); conv => whnf) | ((with_reducible refine Need.mk ?_ ?_); exact nd; conv => whnf) | ((with_reducible first | refine Both.mk ?_ ?_ | refine Any.mk fun b hb => ?_ | refine AskB.dec (fun hb => ?_) (fun hb => ?_) | refine AskB.ndec (fun hb => ?_) (fun hb => ?_) | refine AskB.mk (fun hb => ?_) (fun hb => ?_)) <;> conv => whnf) | ((with_reducible first | refine Run.drawX rfl (by decide +kernel) ?_ | refine Run.drawT rfl (by decide +kernel) ?_ | refine Run.drawW rfl (by decide +kernel) ?_); conv => whnf) | fail)
  exact Run.leave (ts := [2,3]) (.inr ⟨_, rfl⟩) rfl Tryd.func48 rfl (resT ⟨Le.refl _, Le.refl _, trivial⟩)
theorem clone_aw : Fn Tryd.prog 79 [.str awX] (.str awX) := by
  refine Fn.of Tryd.f79 _ Tryd.func79 rfl (by decide) (by show 1 ≤ _; decide) tbOk 18 rfl fun S w0 gl => ?_
  have h1 : awX.size = 1 := rfl
  refine Run.go ?_; (conv => whnf); repeat' (first | ((with_reducible refine Know.mk fun _ => ?_); conv => whnf) | ((with_reducible refine Need.mk ?_ ?_); exact nd; conv => whnf) | ((with_reducible refine Both.mk ?_ ?_) <;> conv => whnf) | ((with_reducible refine Any.mk fun b hb => ?_); conv => whnf) | ((with_reducible first | refine AskB.dec (fun hb => ?_) (fun hb => ?_) | refine AskB.ndec (fun hb => ?_) (fun hb => ?_) | refine AskB.mk (fun hb => ?_) (fun hb => ?_)) <;> first | (exfalso; omega) | (conv => whnf)) | ((with_reducible first | refine Run.drawX rfl (by decide +kernel) ?_ | refine Run.drawT rfl (by decide +kernel) ?_ | refine Run.drawW rfl (by decide +kernel) ?_); conv => whnf) | fail)
  all_goals try (exfalso; omega)
  refine Run.copyStr (x := .tmp 10) (y := .tmp 11) (cl := ⟨.builtin .copy, #[.tmp 10, .tmp 11], #[48, 9]⟩) (q := 9) (e' := 5) awX rfl rfl rfl rfl rfl rfl rfl rfl rfl (by decide) (by kernel_rfl) (by kernel_rfl) rfl rfl ?_
  refine Run.go ?_; (conv => whnf); repeat' (first | ((with_reducible refine Know.mk fun _ => ?_); conv => whnf) | ((with_reducible refine Need.mk ?_ ?_); exact nd; conv => whnf) | ((with_reducible refine Both.mk ?_ ?_) <;> conv => whnf) | ((with_reducible refine Any.mk fun b hb => ?_); conv => whnf) | ((with_reducible first | refine AskB.dec (fun hb => ?_) (fun hb => ?_) | refine AskB.ndec (fun hb => ?_) (fun hb => ?_) | refine AskB.mk (fun hb => ?_) (fun hb => ?_)) <;> first | (exfalso; omega) | (conv => whnf)) | ((with_reducible first | refine Run.drawX rfl (by decide +kernel) ?_ | refine Run.drawT rfl (by decide +kernel) ?_ | refine Run.drawW rfl (by decide +kernel) ?_); conv => whnf) | fail)
  refine Run.unsafeString (x := .tmp 14) (y := .tmp 16) (c := ⟨.builtin .unsafeString, #[.tmp 14, .tmp 16], #[75, 3]⟩) awX rfl rfl rfl rfl rfl rfl rfl rfl rfl (e := 5) (n := awX.size) (q := 9) (get := bytesG awX) rfl rfl (by decide) (fun _ _ => rfl) (by kernel_rfl) (by kernel_rfl) ?_
  refine Run.go ?_; (conv => whnf); repeat' (first | ((with_reducible refine Know.mk fun _ => ?_); conv => whnf) | ((with_reducible refine Need.mk ?_ ?_); exact nd; conv => whnf) | ((with_reducible first | refine Both.mk ?_ ?_ | refine Any.mk fun b hb => ?_ | refine AskB.dec (fun hb => ?_) (fun hb => ?_) | refine AskB.ndec (fun hb => ?_) (fun hb => ?_) | refine AskB.mk (fun hb => ?_) (fun hb => ?_)) <;> conv => whnf) | ((with_reducible first | refine Run.drawX rfl (by decide +kernel) ?_ | refine Run.drawT rfl (by decide +kernel) ?_ | refine Run.drawW rfl (by decide +kernel) ?_); conv => whnf) | fail)
  exact Run.leave (ts := [2]) (.inr ⟨_, rfl⟩) rfl Tryd.func79 rfl (Le.refl _)
theorem synt_aw (s : ByteArray) : Fn Tryd.prog 63 [.str s, .str awX] .u := by
  refine Fn.of Tryd.f63 _ Tryd.func63 rfl (by decide) (by show 2 ≤ _; decide) tbOk 11 rfl fun S w0 gl => ?_
  refine Run.go ?_; (conv => whnf); repeat' (first | ((with_reducible refine Know.mk fun _ => ?_); conv => whnf) | ((with_reducible refine Need.mk ?_ ?_); exact nd; conv => whnf) | ((with_reducible first | refine Both.mk ?_ ?_ | refine Any.mk fun b hb => ?_ | refine AskB.dec (fun hb => ?_) (fun hb => ?_) | refine AskB.ndec (fun hb => ?_) (fun hb => ?_) | refine AskB.mk (fun hb => ?_) (fun hb => ?_)) <;> conv => whnf) | ((with_reducible first | refine Run.drawX rfl (by decide +kernel) ?_ | refine Run.drawT rfl (by decide +kernel) ?_ | refine Run.drawW rfl (by decide +kernel) ?_); conv => whnf) | fail)
  refine CallQ.flat clone_aw rfl ⟨Le.refl _, trivial⟩ rfl ?_
  (conv => whnf); repeat' (first | ((with_reducible refine Know.mk fun _ => ?_); conv => whnf) | ((with_reducible refine Need.mk ?_ ?_); exact nd; conv => whnf) | ((with_reducible first | refine Both.mk ?_ ?_ | refine Any.mk fun b hb => ?_ | refine AskB.dec (fun hb => ?_) (fun hb => ?_) | refine AskB.ndec (fun hb => ?_) (fun hb => ?_) | refine AskB.mk (fun hb => ?_) (fun hb => ?_)) <;> conv => whnf) | ((with_reducible first | refine Run.drawX rfl (by decide +kernel) ?_ | refine Run.drawT rfl (by decide +kernel) ?_ | refine Run.drawW rfl (by decide +kernel) ?_); conv => whnf) | fail)
  exact Run.leave (ts := [4]) (.inr ⟨_, rfl⟩) rfl Tryd.func63 rfl (Le.u _)
theorem toErr_aw (s : ByteArray) : Fn Tryd.prog 49 [.str s, .str awX, .int .i64 0, .int .i64 0, awE2] .u := by
  refine Fn.of Tryd.f49 _ Tryd.func49 rfl (by decide) (by show 5 ≤ _; decide) tbOk 43 rfl fun S w0 gl => ?_
  refine Run.go ?_; (conv => whnf); repeat' (first | ((with_reducible refine Know.mk fun _ => ?_); conv => whnf) | ((with_reducible refine Need.mk ?_ ?_); exact nd; conv => whnf) | ((with_reducible first | refine Both.mk ?_ ?_ | refine Any.mk fun b hb => ?_ | refine AskB.dec (fun hb => ?_) (fun hb => ?_) | refine AskB.ndec (fun hb => ?_) (fun hb => ?_) | refine AskB.mk (fun hb => ?_) (fun hb => ?_)) <;> conv => whnf) | ((with_reducible first | refine Run.drawX rfl (by decide +kernel) ?_ | refine Run.drawT rfl (by decide +kernel) ?_ | refine Run.drawW rfl (by decide +kernel) ?_); conv => whnf) | fail)
  refine Run.mkIf (t := 108) (n := 2) rfl rfl rfl (kd' := .i64) (by kernel_rfl) rfl rfl ?_
  refine Run.binIf (b := true) (vx := .iface 108 (.int .i64 2)) (vy := .iface 108 (.int .i64 2)) rfl rfl rfl rfl (fun w => if_eq (by kernel_rfl) (kd := .i64) (by kernel_rfl) rfl (by kernel_rfl) w) rfl rfl ?_
  refine Run.go ?_; (conv => whnf); repeat' (first | ((with_reducible refine Know.mk fun _ => ?_); conv => whnf) | ((with_reducible refine Need.mk ?_ ?_); exact nd; conv => whnf) | ((with_reducible first | refine Both.mk ?_ ?_ | refine Any.mk fun b hb => ?_ | refine AskB.dec (fun hb => ?_) (fun hb => ?_) | refine AskB.ndec (fun hb => ?_) (fun hb => ?_) | refine AskB.mk (fun hb => ?_) (fun hb => ?_)) <;> conv => whnf) | ((with_reducible first | refine Run.drawX rfl (by decide +kernel) ?_ | refine Run.drawT rfl (by decide +kernel) ?_ | refine Run.drawW rfl (by decide +kernel) ?_); conv => whnf) | fail)
  all_goals try (cases hb; done)
  refine Run.callBX (synt_aw s) rfl rfl ⟨Le.refl _, Le.refl _, trivial⟩ rfl rfl rfl ?_
  (conv => whnf); repeat' (first | ((with_reducible refine Know.mk fun _ => ?_); conv => whnf) | ((with_reducible refine Need.mk ?_ ?_); exact nd; conv => whnf) | ((with_reducible first | refine Both.mk ?_ ?_ | refine Any.mk fun b hb => ?_ | refine AskB.dec (fun hb => ?_) (fun hb => ?_) | refine AskB.ndec (fun hb => ?_) (fun hb => ?_) | refine AskB.mk (fun hb => ?_) (fun hb => ?_)) <;> conv => whnf) | ((with_reducible first | refine Run.drawX rfl (by decide +kernel) ?_ | refine Run.drawT rfl (by decide +kernel) ?_ | refine Run.drawW rfl (by decide +kernel) ?_); conv => whnf) | fail)
  refine Run.mkIfU (t := 111) (e := 131) rfl rfl (by kernel_rfl) rfl rfl ?_
  refine Run.go ?_; (conv => whnf); repeat' (first | ((with_reducible refine Know.mk fun _ => ?_); conv => whnf) | ((with_reducible refine Need.mk ?_ ?_); exact nd; conv => whnf) | ((with_reducible first | refine Both.mk ?_ ?_ | refine Any.mk fun b hb => ?_ | refine AskB.dec (fun hb => ?_) (fun hb => ?_) | refine AskB.ndec (fun hb => ?_) (fun hb => ?_) | refine AskB.mk (fun hb => ?_) (fun hb => ?_)) <;> conv => whnf) | ((with_reducible first | refine Run.drawX rfl (by decide +kernel) ?_ | refine Run.drawT rfl (by decide +kernel) ?_ | refine Run.drawW rfl (by decide +kernel) ?_); conv => whnf) | fail)
  exact Run.leave (ts := [10]) (.inr ⟨_, rfl⟩) rfl Tryd.func49 rfl (Le.refl _)
theorem atoi_aw : Fn Tryd.prog 34 [.str awX] (tupL [.int .i64 0, .u]) := by
  refine Fn.of Tryd.f34 _ Tryd.func34 rfl (by decide) (by show 1 ≤ _; decide) tbOk 18 rfl fun S w0 gl => ?_
  refine Run.go ?_; (conv => whnf); repeat' (first | ((with_reducible refine Know.mk fun _ => ?_); conv => whnf) | ((with_reducible refine Need.mk ?_ ?_); exact nd; conv => whnf) | ((with_reducible first | refine Both.mk ?_ ?_ | refine Any.mk fun b hb => ?_ | refine AskB.dec (fun hb => ?_) (fun hb => ?_) | refine AskB.ndec (fun hb => ?_) (fun hb => ?_) | refine AskB.mk (fun hb => ?_) (fun hb => ?_)) <;> conv => whnf) | ((with_reducible first | refine Run.drawX rfl (by decide +kernel) ?_ | refine Run.drawT rfl (by decide +kernel) ?_ | refine Run.drawW rfl (by decide +kernel) ?_); conv => whnf) | fail)
  refine Run.callBX atoiI_fn rfl rfl ⟨Le.refl _, trivial⟩ rfl rfl rfl ?_
  (conv => whnf); repeat' (first | ((with_reducible refine Know.mk fun _ => ?_); conv => whnf) | ((with_reducible refine Need.mk ?_ ?_); exact nd; conv => whnf) | ((with_reducible first | refine Both.mk ?_ ?_ | refine Any.mk fun b hb => ?_ | refine AskB.dec (fun hb => ?_) (fun hb => ?_) | refine AskB.ndec (fun hb => ?_) (fun hb => ?_) | refine AskB.mk (fun hb => ?_) (fun hb => ?_)) <;> conv => whnf) | ((with_reducible first | refine Run.drawX rfl (by decide +kernel) ?_ | refine Run.drawT rfl (by decide +kernel) ?_ | refine Run.drawW rfl (by decide +kernel) ?_); conv => whnf) | fail)
  refine Run.binIf (b := true) (vx := .iface 108 (.int .i64 2)) (vy := .nilIface) rfl rfl rfl rfl (fun w => if_nil (by kernel_rfl) w) rfl rfl ?_
  refine Run.go ?_; (conv => whnf); repeat' (first | ((with_reducible refine Know.mk fun _ => ?_); conv => whnf) | ((with_reducible refine Need.mk ?_ ?_); exact nd; conv => whnf) | ((with_reducible first | refine Both.mk ?_ ?_ | refine Any.mk fun b hb => ?_ | refine AskB.dec (fun hb => ?_) (fun hb => ?_) | refine AskB.ndec (fun hb => ?_) (fun hb => ?_) | refine AskB.mk (fun hb => ?_) (fun hb => ?_)) <;> conv => whnf) | ((with_reducible first | refine Run.drawX rfl (by decide +kernel) ?_ | refine Run.drawT rfl (by decide +kernel) ?_ | refine Run.drawW rfl (by decide +kernel) ?_); conv => whnf) | fail)
  all_goals try (cases hb; done)
  refine Run.callBX (toErr_aw _) rfl rfl ⟨Le.refl _, Le.refl _, Le.refl _, Le.refl _, Le.refl _, trivial⟩ rfl rfl rfl ?_
  (conv => whnf); repeat' (first | ((with_reducible refine Know.mk fun _ => ?_); conv => whnf) | ((with_reducible refine Need.mk ?_ ?_); exact nd; conv => whnf) | ((with_reducible first | refine Both.mk ?_ ?_ | refine Any.mk fun b hb => ?_ | refine AskB.dec (fun hb => ?_) (fun hb => ?_) | refine AskB.ndec (fun hb => ?_) (fun hb => ?_) | refine AskB.mk (fun hb => ?_) (fun hb => ?_)) <;> conv => whnf) | ((with_reducible first | refine Run.drawX rfl (by decide +kernel) ?_ | refine Run.drawT rfl (by decide +kernel) ?_ | refine Run.drawW rfl (by decide +kernel) ?_); conv => whnf) | fail)
  exact Run.leave (ts := [2,3]) (.inr ⟨_, rfl⟩) rfl Tryd.func34 rfl (resT ⟨Le.refl _, Le.refl _, trivial⟩)
theorem unf_aw : Fn Tryd.prog 35 [.str .empty] (tupL [.agg 3 (tRd.enc ⟨false, .empty, []⟩), .tt]) := by
  refine Fn.of Tryd.f35 _ Tryd.func35 rfl (by decide) (by show 1 ≤ _; decide) tbOk 45 rfl fun S w0 gl => ?_
  refine Run.go ?_; (conv => whnf); repeat' (first | ((with_reducible refine Know.mk fun _ => ?_); conv => whnf) | ((with_reducible refine Need.mk ?_ ?_); exact nd; conv => whnf) | ((with_reducible first | refine Both.mk ?_ ?_ | refine Any.mk fun b hb => ?_ | refine AskB.dec (fun hb => ?_) (fun hb => ?_) | refine AskB.ndec (fun hb => ?_) (fun hb => ?_) | refine AskB.mk (fun hb => ?_) (fun hb => ?_)) <;> conv => whnf) | ((with_reducible first | refine Run.drawX rfl (by decide +kernel) ?_ | refine Run.drawT rfl (by decide +kernel) ?_ | refine Run.drawW rfl (by decide +kernel) ?_); conv => whnf) | fail)
  · exact absurd hb (by decide)
  refine Run.loop [2] (fun (i : Nat) => [(0, .str .empty), (4, .nils)]) (fun i => [(2, .box 42 [.ff, .str .empty, .nils])]) (fun i => i = 0) (fun i => 0) 0 rfl ⟨Le.refl _, Le.refl _, trivial⟩ ⟨MOle.refl _, trivial⟩ ?_
  intro i hi IH
  refine Run.go ?_; (conv => whnf); repeat' (first | ((with_reducible refine Know.mk fun _ => ?_); conv => whnf) | ((with_reducible refine Need.mk ?_ ?_); exact nd; conv => whnf) | ((with_reducible first | refine Both.mk ?_ ?_ | refine Any.mk fun b hb => ?_ | refine AskB.dec (fun hb => ?_) (fun hb => ?_) | refine AskB.ndec (fun hb => ?_) (fun hb => ?_) | refine AskB.mk (fun hb => ?_) (fun hb => ?_)) <;> conv => whnf) | ((with_reducible first | refine Run.drawX rfl (by decide +kernel) ?_ | refine Run.drawT rfl (by decide +kernel) ?_ | refine Run.drawW rfl (by decide +kernel) ?_); conv => whnf) | fail)
  all_goals try (exact absurd rfl hb)
  refine Run.holdNil 42 90 5 1 (bytesG .empty) rfl ?_
  refine Run.rowStr (x := .tmp 42) (src := 48) (dst := 9) (e := 5) (q := 90) .empty rfl rfl rfl rfl rfl rfl rfl (fun _ _ => rfl) (by kernel_rfl) (by kernel_rfl) (by kernel_rfl) ?_
  refine Run.go ?_; (conv => whnf); repeat' (first | ((with_reducible refine Know.mk fun _ => ?_); conv => whnf) | ((with_reducible refine Need.mk ?_ ?_); exact nd; conv => whnf) | ((with_reducible first | refine Both.mk ?_ ?_ | refine Any.mk fun b hb => ?_ | refine AskB.dec (fun hb => ?_) (fun hb => ?_) | refine AskB.ndec (fun hb => ?_) (fun hb => ?_) | refine AskB.mk (fun hb => ?_) (fun hb => ?_)) <;> conv => whnf) | ((with_reducible first | refine Run.drawX rfl (by decide +kernel) ?_ | refine Run.drawT rfl (by decide +kernel) ?_ | refine Run.drawW rfl (by decide +kernel) ?_); conv => whnf) | fail)
  exact Run.leaveC2 (.inr ⟨_, rfl⟩) rfl Tryd.func35 rfl rfl rfl (Nat.le_of_ble_eq_true rfl) (rdA_le ⟨false, .empty, []⟩ Le.ff (Le.refl _) tI.nil) (Le.refl _)
end Go.Proofs.YteklnpgiloebcaaDoor.V

namespace Go.Proofs.YteklnpgiloebcaaDoor.V
set_option linter.unusedVariables false
set_option linter.unusedSimpArgs false
open Go Go.Proofs Go.RowKit
set_option maxRecDepth 100000
set_option maxHeartbeats 1000000
def awN1 : List ByteArray := [⟨#[65]⟩]
theorem awN1_ok : nmOk awN1 = true := nm_ok (by decide) (by decide) (one0 ⟨by decide +kernel, fun k hk => absurd hk (Nat.not_lt_zero _)⟩)
theorem entry_aw : Fn Tryd.prog 23 [.str awX, tS.L awN1] (tupL [.agg 2 (tEn.enc ⟨0, []⟩), .ff]) := by
  refine Fn.of Tryd.f23 _ Tryd.func23 rfl (by decide) (by show 2 ≤ _; decide) tbOk 160 rfl fun S w0 gl => ?_
  refine Run.go ?_; (conv => whnf); repeat' (first | ((with_reducible refine Know.mk fun _ => ?_); conv => whnf) | ((with_reducible refine Need.mk ?_ ?_); exact nd; conv => whnf) | ((with_reducible first | refine Both.mk ?_ ?_ | refine Any.mk fun b hb => ?_ | refine AskB.dec (fun hb => ?_) (fun hb => ?_) | refine AskB.ndec (fun hb => ?_) (fun hb => ?_) | refine AskB.mk (fun hb => ?_) (fun hb => ?_)) <;> conv => whnf) | ((with_reducible first | refine Run.drawX rfl (by decide +kernel) ?_ | refine Run.drawT rfl (by decide +kernel) ?_ | refine Run.drawW rfl (by decide +kernel) ?_); conv => whnf) | fail)
  refine Run.callBX (cut_of (.inr rfl) cutSB_fn) rfl rfl ⟨Le.refl _, Le.refl _, trivial⟩ rfl rfl rfl ?_
  (conv => whnf); repeat' (first | ((with_reducible refine Know.mk fun _ => ?_); conv => whnf) | ((with_reducible refine Need.mk ?_ ?_); exact nd; conv => whnf) | ((with_reducible first | refine Both.mk ?_ ?_ | refine Any.mk fun b hb => ?_ | refine AskB.dec (fun hb => ?_) (fun hb => ?_) | refine AskB.ndec (fun hb => ?_) (fun hb => ?_) | refine AskB.mk (fun hb => ?_) (fun hb => ?_)) <;> conv => whnf) | ((with_reducible first | refine Run.drawX rfl (by decide +kernel) ?_ | refine Run.drawT rfl (by decide +kernel) ?_ | refine Run.drawW rfl (by decide +kernel) ?_); conv => whnf) | fail)
  refine Run.callBX (cut_of (.inr rfl) cutSC_fn) rfl rfl ⟨Le.refl _, Le.refl _, trivial⟩ rfl rfl rfl ?_
  (conv => whnf); repeat' (first | ((with_reducible refine Know.mk fun _ => ?_); conv => whnf) | ((with_reducible refine Need.mk ?_ ?_); exact nd; conv => whnf) | ((with_reducible first | refine Both.mk ?_ ?_ | refine Any.mk fun b hb => ?_ | refine AskB.dec (fun hb => ?_) (fun hb => ?_) | refine AskB.ndec (fun hb => ?_) (fun hb => ?_) | refine AskB.mk (fun hb => ?_) (fun hb => ?_)) <;> conv => whnf) | ((with_reducible first | refine Run.drawX rfl (by decide +kernel) ?_ | refine Run.drawT rfl (by decide +kernel) ?_ | refine Run.drawW rfl (by decide +kernel) ?_); conv => whnf) | fail)
  refine Run.callBX atoi_aw rfl rfl ⟨Le.refl _, trivial⟩ rfl rfl rfl ?_
  (conv => whnf); repeat' (first | ((with_reducible refine Know.mk fun _ => ?_); conv => whnf) | ((with_reducible refine Need.mk ?_ ?_); exact nd; conv => whnf) | ((with_reducible first | refine Both.mk ?_ ?_ | refine Any.mk fun b hb => ?_ | refine AskB.dec (fun hb => ?_) (fun hb => ?_) | refine AskB.ndec (fun hb => ?_) (fun hb => ?_) | refine AskB.mk (fun hb => ?_) (fun hb => ?_)) <;> conv => whnf) | ((with_reducible first | refine Run.drawX rfl (by decide +kernel) ?_ | refine Run.drawT rfl (by decide +kernel) ?_ | refine Run.drawW rfl (by decide +kernel) ?_); conv => whnf) | fail)
  refine Run.callBX unf_aw rfl rfl ⟨Le.refl _, trivial⟩ rfl rfl rfl ?_
  (conv => whnf); repeat' (first | ((with_reducible refine Know.mk fun _ => ?_); conv => whnf) | ((with_reducible refine Need.mk ?_ ?_); exact nd; conv => whnf) | ((with_reducible first | refine Both.mk ?_ ?_ | refine Any.mk fun b hb => ?_ | refine AskB.dec (fun hb => ?_) (fun hb => ?_) | refine AskB.ndec (fun hb => ?_) (fun hb => ?_) | refine AskB.mk (fun hb => ?_) (fun hb => ?_)) <;> conv => whnf) | ((with_reducible first | refine Run.drawX rfl (by decide +kernel) ?_ | refine Run.drawT rfl (by decide +kernel) ?_ | refine Run.drawW rfl (by decide +kernel) ?_); conv => whnf) | fail)
  exact Run.leaveC2 (.inr ⟨_, rfl⟩) rfl Tryd.func23 rfl rfl rfl (Nat.le_of_ble_eq_true rfl) (Le.agg fun j hj => by
    match j, hj with
    | 0, _ => exact Le.refl _
    | 1, _ => exact tRd.nil) (Le.refl _)
theorem parse_aw : Fn Tryd.prog 11 [.str ⟨#[120, 10]⟩, tS.L awN1, .int .i64 1] (tupL [tEn.L [], .int .i64 0, .int .i64 170]) := by
  refine Fn.of Tryd.f11 _ Tryd.func11 rfl (by decide) (by show 3 ≤ _; decide) tbOk 73 rfl fun S w0 gl => ?_
  have hz : (ByteArray.mk #[120, 10]).size = 2 := rfl
  refine Run.go ?_; (conv => whnf); repeat' (first | ((with_reducible refine Know.mk fun _ => ?_); conv => whnf) | ((with_reducible refine Need.mk ?_ ?_); exact nd; conv => whnf) | ((with_reducible first | refine Both.mk ?_ ?_ | refine Any.mk fun b hb => ?_ | refine AskB.dec (fun hb => ?_) (fun hb => ?_) | refine AskB.ndec (fun hb => ?_) (fun hb => ?_) | refine AskB.mk (fun hb => ?_) (fun hb => ?_)) <;> conv => whnf) | ((with_reducible first | refine Run.drawX rfl (by decide +kernel) ?_ | refine Run.drawT rfl (by decide +kernel) ?_ | refine Run.drawW rfl (by decide +kernel) ?_); conv => whnf) | fail)
  refine Run.callBX (named17_fn awN1 (by decide) (fun s hs => ?_)) rfl rfl ⟨Le.refl _, trivial⟩ rfl rfl rfl ?_
  · simp only [awN1, List.mem_cons, List.not_mem_nil, or_false] at hs
    rcases hs with rfl
    decide
  rw [awN1_ok]
  (conv => whnf); repeat' (first | ((with_reducible refine Know.mk fun _ => ?_); conv => whnf) | ((with_reducible refine Need.mk ?_ ?_); exact nd; conv => whnf) | ((with_reducible refine Both.mk ?_ ?_) <;> conv => whnf) | ((with_reducible refine Any.mk fun b hb => ?_); conv => whnf) | ((with_reducible first | refine AskB.dec (fun hb => ?_) (fun hb => ?_) | refine AskB.ndec (fun hb => ?_) (fun hb => ?_) | refine AskB.mk (fun hb => ?_) (fun hb => ?_)) <;> first | (exfalso; omega) | (conv => whnf)) | ((with_reducible first | refine Run.drawX rfl (by decide +kernel) ?_ | refine Run.drawT rfl (by decide +kernel) ?_ | refine Run.drawW rfl (by decide +kernel) ?_); conv => whnf) | fail)
  all_goals try (exfalso; omega)
  all_goals try (cases hb; done)
  refine Run.loop [1, 2] (fun (i : Nat) => [(0, .str ⟨#[120, 10]⟩), (9, .nils), (10, .int .i64 (-1))]) (fun i => []) (fun i => i = 0) (fun i => 0) 0 rfl ⟨Le.refl _, Le.refl _, Le.refl _, trivial⟩ trivial ?_
  intro i hi IH
  refine Run.go ?_; (conv => whnf); repeat' (first | ((with_reducible refine Know.mk fun _ => ?_); conv => whnf) | ((with_reducible refine Need.mk ?_ ?_); exact nd; conv => whnf) | ((with_reducible first | refine Both.mk ?_ ?_ | refine Any.mk fun b hb => ?_ | refine AskB.dec (fun hb => ?_) (fun hb => ?_) | refine AskB.ndec (fun hb => ?_) (fun hb => ?_) | refine AskB.mk (fun hb => ?_) (fun hb => ?_)) <;> conv => whnf) | ((with_reducible first | refine Run.drawX rfl (by decide +kernel) ?_ | refine Run.drawT rfl (by decide +kernel) ?_ | refine Run.drawW rfl (by decide +kernel) ?_); conv => whnf) | fail)
  all_goals try (exact absurd hb (by decide))
  refine Run.callBX (cut_of (.inl rfl) cutSA_fn) rfl rfl ⟨Le.refl _, Le.refl _, trivial⟩ rfl rfl rfl ?_
  (conv => whnf); repeat' (first | ((with_reducible refine Know.mk fun _ => ?_); conv => whnf) | ((with_reducible refine Need.mk ?_ ?_); exact nd; conv => whnf) | ((with_reducible first | refine Both.mk ?_ ?_ | refine Any.mk fun b hb => ?_ | refine AskB.dec (fun hb => ?_) (fun hb => ?_) | refine AskB.ndec (fun hb => ?_) (fun hb => ?_) | refine AskB.mk (fun hb => ?_) (fun hb => ?_)) <;> conv => whnf) | ((with_reducible first | refine Run.drawX rfl (by decide +kernel) ?_ | refine Run.drawT rfl (by decide +kernel) ?_ | refine Run.drawW rfl (by decide +kernel) ?_); conv => whnf) | fail)
  refine Run.callBX entry_aw rfl rfl ⟨Le.refl _, Le.refl _, trivial⟩ rfl rfl rfl ?_
  (conv => whnf); repeat' (first | ((with_reducible refine Know.mk fun _ => ?_); conv => whnf) | ((with_reducible refine Need.mk ?_ ?_); exact nd; conv => whnf) | ((with_reducible first | refine Both.mk ?_ ?_ | refine Any.mk fun b hb => ?_ | refine AskB.dec (fun hb => ?_) (fun hb => ?_) | refine AskB.ndec (fun hb => ?_) (fun hb => ?_) | refine AskB.mk (fun hb => ?_) (fun hb => ?_)) <;> conv => whnf) | ((with_reducible first | refine Run.drawX rfl (by decide +kernel) ?_ | refine Run.drawT rfl (by decide +kernel) ?_ | refine Run.drawW rfl (by decide +kernel) ?_); conv => whnf) | fail)
  exact Run.leave (ts := [6,7,8]) (.inr ⟨_, rfl⟩) rfl Tryd.func11 rfl (resT ⟨tEn.nil, Le.refl _, Le.refl _, trivial⟩)
theorem awake17_fn : Fn Tryd.prog 6 [] .tt := by
  refine Fn.of Tryd.f6 _ Tryd.func6 rfl (by decide) (by show 0 ≤ _; decide) tbOk 38 rfl fun S w0 gl => ?_
  refine Run.go ?_; (conv => whnf); repeat' (first | ((with_reducible refine Know.mk fun _ => ?_); conv => whnf) | ((with_reducible refine Need.mk ?_ ?_); exact nd; conv => whnf) | ((with_reducible first | refine Both.mk ?_ ?_ | refine Any.mk fun b hb => ?_ | refine AskB.dec (fun hb => ?_) (fun hb => ?_) | refine AskB.ndec (fun hb => ?_) (fun hb => ?_) | refine AskB.mk (fun hb => ?_) (fun hb => ?_)) <;> conv => whnf) | ((with_reducible first | refine Run.drawX rfl (by decide +kernel) ?_ | refine Run.drawT rfl (by decide +kernel) ?_ | refine Run.drawW rfl (by decide +kernel) ?_); conv => whnf) | fail)
  refine Run.freeze 7 (by rfl) ?_
  refine Run.freeze 9 (by rfl) ?_
  refine Run.go ?_; (conv => whnf); repeat' (first | ((with_reducible refine Know.mk fun _ => ?_); conv => whnf) | ((with_reducible refine Need.mk ?_ ?_); exact nd; conv => whnf) | ((with_reducible first | refine Both.mk ?_ ?_ | refine Any.mk fun b hb => ?_ | refine AskB.dec (fun hb => ?_) (fun hb => ?_) | refine AskB.ndec (fun hb => ?_) (fun hb => ?_) | refine AskB.mk (fun hb => ?_) (fun hb => ?_)) <;> conv => whnf) | ((with_reducible first | refine Run.drawX rfl (by decide +kernel) ?_ | refine Run.drawT rfl (by decide +kernel) ?_ | refine Run.drawW rfl (by decide +kernel) ?_); conv => whnf) | fail)
  refine Run.freeze 11 (by rfl) ?_
  refine Run.go ?_; (conv => whnf); repeat' (first | ((with_reducible refine Know.mk fun _ => ?_); conv => whnf) | ((with_reducible refine Need.mk ?_ ?_); exact nd; conv => whnf) | ((with_reducible first | refine Both.mk ?_ ?_ | refine Any.mk fun b hb => ?_ | refine AskB.dec (fun hb => ?_) (fun hb => ?_) | refine AskB.ndec (fun hb => ?_) (fun hb => ?_) | refine AskB.mk (fun hb => ?_) (fun hb => ?_)) <;> conv => whnf) | ((with_reducible first | refine Run.drawX rfl (by decide +kernel) ?_ | refine Run.drawT rfl (by decide +kernel) ?_ | refine Run.drawW rfl (by decide +kernel) ?_); conv => whnf) | fail)
  refine Run.callAX print_aw rfl rfl ⟨?_, ?_, Le.refl _, trivial⟩ rfl rfl rfl ?_
  · refine Le.sl fun i j hi hj => ?_
    match i, hi, j, hj with
    | 0, _, 0, _ => exact Le.refl _
    | 0, _, 1, _ =>
      refine Le.sl fun i j hi hj => ?_
      match i, hi, j, hj with
      | 0, _, 0, _ => exact Le.refl _
      | 0, _, 1, _ => exact Le.refl _
      | 0, _, 2, _ =>
        refine Le.sl fun i j hi hj => ?_
        match i, hi, j, hj with
        | 0, _, 0, _ => exact Le.refl _
      | 1, _, 0, _ => exact Le.refl _
      | 1, _, 1, _ => exact Le.refl _
      | 1, _, 2, _ =>
        refine Le.sl fun i j hi hj => ?_
        match i, hi, j, hj with
        | 0, _, 0, _ => exact Le.refl _
        | 1, _, 0, _ => exact Le.refl _
  · refine Le.sl fun i j hi hj => ?_
    match i, hi, j, hj with
    | 0, _, 0, _ => exact Le.refl _
    | 1, _, 0, _ => exact Le.refl _
    | 2, _, 0, _ => exact Le.refl _
  (conv => whnf); repeat' (first | ((with_reducible refine Know.mk fun _ => ?_); conv => whnf) | ((with_reducible refine Need.mk ?_ ?_); exact nd; conv => whnf) | ((with_reducible first | refine Both.mk ?_ ?_ | refine Any.mk fun b hb => ?_ | refine AskB.dec (fun hb => ?_) (fun hb => ?_) | refine AskB.ndec (fun hb => ?_) (fun hb => ?_) | refine AskB.mk (fun hb => ?_) (fun hb => ?_)) <;> conv => whnf) | ((with_reducible first | refine Run.drawX rfl (by decide +kernel) ?_ | refine Run.drawT rfl (by decide +kernel) ?_ | refine Run.drawW rfl (by decide +kernel) ?_); conv => whnf) | fail)
  refine Run.freeze 19 (by rfl) ?_
  refine Run.go ?_; (conv => whnf); repeat' (first | ((with_reducible refine Know.mk fun _ => ?_); conv => whnf) | ((with_reducible refine Need.mk ?_ ?_); exact nd; conv => whnf) | ((with_reducible first | refine Both.mk ?_ ?_ | refine Any.mk fun b hb => ?_ | refine AskB.dec (fun hb => ?_) (fun hb => ?_) | refine AskB.ndec (fun hb => ?_) (fun hb => ?_) | refine AskB.mk (fun hb => ?_) (fun hb => ?_)) <;> conv => whnf) | ((with_reducible first | refine Run.drawX rfl (by decide +kernel) ?_ | refine Run.drawT rfl (by decide +kernel) ?_ | refine Run.drawW rfl (by decide +kernel) ?_); conv => whnf) | fail)
  refine Run.callBX parse_aw rfl rfl ⟨Le.refl _, ?_, Le.refl _, trivial⟩ rfl rfl rfl ?_
  · refine Le.sl fun i j hi hj => ?_
    match i, hi, j, hj with
    | 0, _, 0, _ => exact Le.refl _
  (conv => whnf); repeat' (first | ((with_reducible refine Know.mk fun _ => ?_); conv => whnf) | ((with_reducible refine Need.mk ?_ ?_); exact nd; conv => whnf) | ((with_reducible first | refine Both.mk ?_ ?_ | refine Any.mk fun b hb => ?_ | refine AskB.dec (fun hb => ?_) (fun hb => ?_) | refine AskB.ndec (fun hb => ?_) (fun hb => ?_) | refine AskB.mk (fun hb => ?_) (fun hb => ?_)) <;> conv => whnf) | ((with_reducible first | refine Run.drawX rfl (by decide +kernel) ?_ | refine Run.drawT rfl (by decide +kernel) ?_ | refine Run.drawW rfl (by decide +kernel) ?_); conv => whnf) | fail)
  all_goals first
    | exact absurd rfl hb
    | exact Run.leave (ts := [0]) (.inr ⟨_, rfl⟩) rfl Tryd.func6 rfl (Le.tt' (by decide))
end Go.Proofs.YteklnpgiloebcaaDoor.V

namespace Go.Proofs.YteklnpgiloebcaaDoor.V
set_option linter.unusedVariables false
set_option linter.unusedSimpArgs false
open Go Go.Proofs Go.RowKit
set_option maxRecDepth 100000
theorem dInt : Dec Tryd.prog 3 tI (fun _ => 1) := Dec.int (by kernel_rfl) (by kernel_rfl)
def bkI (l : List Int) : Nat := sumL (fun _ => 1) l + 1
theorem dIs : Dec Tryd.prog 40 (tL tI) bkI := Dec.slice (e := 3) (by kernel_rfl) (by kernel_rfl) (by decide) dInt
/-! ### bounds -/
end Go.Proofs.YteklnpgiloebcaaDoor.V

namespace Go.Proofs.YteklnpgiloebcaaDoor.V
set_option linter.unusedVariables false
set_option linter.unusedSimpArgs false
open Go Go.Proofs Go.RowKit
set_option maxRecDepth 100000
def bkRd (r : Rd) : Nat := r.text.size + sumL (fun _ => 1) r.wits + 4
theorem dRd : Dec Tryd.prog 42 tRd bkRd :=
  Dec.map (fun x : Bool × ByteArray × List Int × Unit => ⟨x.1, x.2.1, x.2.2.1⟩) rfl (fun x j hj => match j, hj with | 0, _ => Le.refl _ | 1, _ => Le.refl _ | 2, _ => Le.refl _) (fun x => by simp only [bkRd, bkI]; omega)
    (Dec.struct (t := 42) (fs := #[⟨"None", 4, 0, false, "", "", 0⟩, ⟨"Text", 9, 1, false, "", "", 8⟩, ⟨"Wits", 40, 2, false, "", "", 24⟩]) (by kernel_rfl) (by kernel_rfl) (DecF.cons rfl (Dec.bool (by kernel_rfl) (by kernel_rfl)) (DecF.cons rfl (Dec.str (by kernel_rfl) (by kernel_rfl)) (DecF.cons rfl dIs DecF.nil))))
def bkEn (e : En) : Nat := sumL bkRd e.rds + 3
theorem dEn : Dec Tryd.prog 45 tEn bkEn :=
  Dec.map (fun x : Int × List Rd × Unit => ⟨x.1, x.2.1⟩) rfl (fun x j hj => match j, hj with | 0, _ => Le.refl _ | 1, _ => Le.refl _) (fun x => by simp only [bkEn]; omega)
    (Dec.struct (t := 45) (fs := #[⟨"Col", 3, 0, false, "", "", 0⟩, ⟨"Readings", 43, 1, false, "", "", 8⟩]) (by kernel_rfl) (by kernel_rfl) (DecF.cons rfl dInt (DecF.cons rfl (Dec.slice (e := 42) (t := 43) (by kernel_rfl) (by kernel_rfl) (by decide) dRd) DecF.nil)))
theorem argEn : Arg Tryd.prog 22 (fun l : List En => tEn.L l) (fun l => sumL bkEn l + 1) := Arg.slice (T := tEn) (e := 45) (by kernel_rfl) (by kernel_rfl) (by decide) dEn
end Go.Proofs.YteklnpgiloebcaaDoor.V

namespace Go.Proofs.YteklnpgiloebcaaDoor.V
set_option linter.unusedVariables false
set_option linter.unusedSimpArgs false
open Go Go.Proofs Go.RowKit
set_option maxRecDepth 100000
theorem argTs : Arg Tryd.prog 23 (fun l : List ByteArray => tS.L l) (fun l => sumL (fun x : ByteArray => x.size + 1) l + 1) := Arg.slice (T := tS) (e := 9) (by kernel_rfl) (by kernel_rfl) (by decide) (Dec.str (by kernel_rfl) (by kernel_rfl))
end Go.Proofs.YteklnpgiloebcaaDoor.V

namespace Go.Proofs.YteklnpgiloebcaaDoor.V
set_option linter.unusedVariables false
set_option linter.unusedSimpArgs false
open Go Go.Proofs Go.RowKit
set_option maxRecDepth 100000
set_option maxHeartbeats 1000000
theorem sumMe {α : Type} (f : α → Nat) {x : α} : ∀ {l : List α}, x ∈ l → f x ≤ sumL f l
  | a :: l, h => by
    show _ ≤ f a + sumL f l
    rcases List.mem_cons.mp h with rfl | h
    · omega
    · have := sumMe f h; omega
theorem sumLo {α : Type} (f : α → Nat) (k : Nat) (h : ∀ x, k ≤ f x) : ∀ l : List α, k * l.length ≤ sumL f l
  | [] => Nat.zero_le _
  | a :: l => by
    have := sumLo f k h l
    have := h a
    show k * (l.length + 1) ≤ f a + sumL f l
    rw [Nat.mul_add]
    omega
theorem rdB_bk {names : List ByteArray} (hn : ∀ s ∈ names, s.size ≤ 8) (r : Rd) : (rdB names r).length ≤ 9 * bkRd r := by
  have a := wsB_len hn r.wits
  have c := sumLo (fun _ : Int => 1) 1 (fun _ => Nat.le_refl _) r.wits
  have b : (formB r).size ≤ 4 * r.text.size + 4 := by
    unfold formB
    split
    · show 1 ≤ _; omega
    split
    · show 4 ≤ _; omega
    · rw [bs_size]
      have := fmLs_len (blA r.text)
      have h2 := bsA_size r.text
      show (fmLs (blA r.text)).length ≤ _
      omega
  unfold rdB bkRd
  rw [List.length_append, bsA_size]
  omega
theorem join_bk {names : List ByteArray} (hn : ∀ s ∈ names, s.size ≤ 8) : ∀ l : List Rd, (Lib.joinTail [59, 32] (l.map (rdB names))).length ≤ 10 * sumL bkRd l
  | [] => Nat.zero_le _
  | r :: l => by
    have h1 := rdB_bk hn r
    have h2 := join_bk hn l
    have h3 : 4 ≤ bkRd r := by unfold bkRd; omega
    show (([59, 32] ++ rdB names r) ++ Lib.joinTail [59, 32] (l.map (rdB names))).length ≤ 10 * (bkRd r + sumL bkRd l)
    rw [List.length_append, List.length_append]
    show 2 + _ + _ ≤ _
    omega
theorem lnB_bk {names : List ByteArray} {e : En} (H : EnFit names e) : (lnB names e).length ≤ 30 * bkEn e := by
  have hD := decD_len e.col.toNat (by have := H.col1; have := H.col0; omega)
  unfold lnB bkEn
  have h1 := H.some
  cases hq : e.rds with
  | nil => rw [hq] at h1; simp at h1
  | cons r l =>
    have h2 := rdB_bk H.name r
    have h3 : (blA (formB r)).length ≤ (rdB names r).length := by unfold rdB; rw [List.length_append]; omega
    have h4 : (Lib.join (l.map (rdB names)) [59, 32]).length ≤ 10 * sumL bkRd l := by
      cases l with
      | nil => exact Nat.zero_le _
      | cons s l =>
        have h5 := rdB_bk H.name s
        have h6 := join_bk H.name l
        show (Lib.join (rdB names s :: l.map (rdB names)) [59, 32]).length ≤ 10 * (bkRd s + sumL bkRd l)
        rw [Lib.join_cons, List.length_append]
        omega
    show (Lib.decDigits e.col.toNat ++ ([32] ++ (blA (formB r) ++ ([32, 93, 32] ++ (Lib.join (l.map (rdB names)) [59, 32] ++ [10]))))).length ≤ 30 * ((bkRd r + sumL bkRd l) + 3)
    simp only [List.length_append, List.length_cons, List.length_nil]
    omega
theorem prT_bk {names : List ByteArray} : ∀ {es : List En}, (∀ e ∈ es, EnFit names e) → (prT names es).length ≤ 30 * sumL bkEn es
  | [], _ => Nat.zero_le _
  | e :: es, h => by
    have h1 := lnB_bk (h e List.mem_cons_self)
    have h2 := prT_bk (es := es) (fun q hq => h q (List.mem_cons_of_mem _ hq))
    show (lnB names e ++ prT names es).length ≤ 30 * (bkEn e + sumL bkEn es)
    rw [List.length_append]
    omega
theorem appPrints_fn (es : List En) (names : List ByteArray) (c : Int) (hb : sumL bkEn es + sumL (fun x : ByteArray => x.size + 1) names ≤ 1048576) : Fn Tryd.prog 3 [tEn.L es, tS.L names, .int .i64 c] .tt := by
  have hl : es.length ≤ 2000000 := by have := sumLo bkEn 3 (fun x => by unfold bkEn; omega) es; omega
  have hn : names.length ≤ 2000000 := by have := sumLo (fun x : ByteArray => x.size + 1) 1 (fun x => by omega) names; omega
  have hns : ∀ s ∈ names, s.size ≤ 2000000 := fun s hs => by
    have : s.size + 1 ≤ sumL (fun x : ByteArray => x.size + 1) names := sumMe (fun x : ByteArray => x.size + 1) hs
    omega
  have htx : ∀ e ∈ es, ∀ r ∈ e.rds, r.text.size ≤ 2000000 := fun e he r hr => by
    have h1 := sumMe bkEn he
    have h2 := sumMe bkRd hr
    have h3 : bkEn e = sumL bkRd e.rds + 3 := rfl
    have h4 : bkRd r = r.text.size + sumL (fun _ => 1) r.wits + 4 := rfl
    omega
  have htot : (∀ e ∈ es, EnFit names e) → (prT names es).length ≤ 20000000000 := fun h => by
    have := prT_bk h
    omega
  have hp := print17_fn es names c hl hn hns htx htot
  have hr := print17R_fn es names c hl htx htot
  have hk := appCheck_fn es names.length c
  have hkr := appCheckR_fn es names.length c
  unfold prA at hp hr
  generalize (prB es names c).1 = t at hp hr
  generalize (prB es names c).2 = e at hp hr
  generalize chk es names.length c = k at hk hkr
  refine Fn.of Tryd.f3 _ Tryd.func3 rfl (by decide) (by show 3 ≤ _; decide) tbOk 48 rfl fun S w0 gl => ?_
  refine Run.go ?_; (conv => whnf); repeat' (first | ((with_reducible refine Know.mk fun _ => ?_); conv => whnf) | ((with_reducible refine Need.mk ?_ ?_); exact nd; conv => whnf) | ((with_reducible first | refine Both.mk ?_ ?_ | refine Any.mk fun b hb => ?_ | refine AskB.dec (fun hb => ?_) (fun hb => ?_) | refine AskB.ndec (fun hb => ?_) (fun hb => ?_) | refine AskB.mk (fun hb => ?_) (fun hb => ?_)) <;> conv => whnf) | ((with_reducible first | refine Run.drawX rfl (by decide +kernel) ?_ | refine Run.drawT rfl (by decide +kernel) ?_ | refine Run.drawW rfl (by decide +kernel) ?_); conv => whnf) | fail)
  refine Run.callBX awake17_fn rfl rfl trivial rfl rfl rfl ?_
  (conv => whnf); repeat' (first | ((with_reducible refine Know.mk fun _ => ?_); conv => whnf) | ((with_reducible refine Need.mk ?_ ?_); exact nd; conv => whnf) | ((with_reducible first | refine Both.mk ?_ ?_ | refine Any.mk fun b hb => ?_ | refine AskB.dec (fun hb => ?_) (fun hb => ?_) | refine AskB.ndec (fun hb => ?_) (fun hb => ?_) | refine AskB.mk (fun hb => ?_) (fun hb => ?_)) <;> conv => whnf) | ((with_reducible first | refine Run.drawX rfl (by decide +kernel) ?_ | refine Run.drawT rfl (by decide +kernel) ?_ | refine Run.drawW rfl (by decide +kernel) ?_); conv => whnf) | fail)
  refine Run.callBX hp rfl rfl ⟨Le.refl _, Le.refl _, Le.refl _, trivial⟩ rfl rfl rfl ?_
  (conv => whnf); repeat' (first | ((with_reducible refine Know.mk fun _ => ?_); conv => whnf) | ((with_reducible refine Need.mk ?_ ?_); exact nd; conv => whnf) | ((with_reducible first | refine Both.mk ?_ ?_ | refine Any.mk fun b hb => ?_ | refine AskB.dec (fun hb => ?_) (fun hb => ?_) | refine AskB.ndec (fun hb => ?_) (fun hb => ?_) | refine AskB.mk (fun hb => ?_) (fun hb => ?_)) <;> conv => whnf) | ((with_reducible first | refine Run.drawX rfl (by decide +kernel) ?_ | refine Run.drawT rfl (by decide +kernel) ?_ | refine Run.drawW rfl (by decide +kernel) ?_); conv => whnf) | fail)
  refine Run.callBX hr rfl rfl ⟨Le.refl _, Le.refl _, Le.refl _, trivial⟩ rfl rfl rfl ?_
  (conv => whnf); repeat' (first | ((with_reducible refine Know.mk fun _ => ?_); conv => whnf) | ((with_reducible refine Need.mk ?_ ?_); exact nd; conv => whnf) | ((with_reducible first | refine Both.mk ?_ ?_ | refine Any.mk fun b hb => ?_ | refine AskB.dec (fun hb => ?_) (fun hb => ?_) | refine AskB.ndec (fun hb => ?_) (fun hb => ?_) | refine AskB.mk (fun hb => ?_) (fun hb => ?_)) <;> conv => whnf) | ((with_reducible first | refine Run.drawX rfl (by decide +kernel) ?_ | refine Run.drawT rfl (by decide +kernel) ?_ | refine Run.drawW rfl (by decide +kernel) ?_); conv => whnf) | fail)
  all_goals try exact absurd rfl (by assumption)
  refine Run.callBX hk rfl rfl ⟨Le.refl _, Le.refl _, Le.refl _, trivial⟩ rfl rfl rfl ?_
  (conv => whnf); repeat' (first | ((with_reducible refine Know.mk fun _ => ?_); conv => whnf) | ((with_reducible refine Need.mk ?_ ?_); exact nd; conv => whnf) | ((with_reducible first | refine Both.mk ?_ ?_ | refine Any.mk fun b hb => ?_ | refine AskB.dec (fun hb => ?_) (fun hb => ?_) | refine AskB.ndec (fun hb => ?_) (fun hb => ?_) | refine AskB.mk (fun hb => ?_) (fun hb => ?_)) <;> conv => whnf) | ((with_reducible first | refine Run.drawX rfl (by decide +kernel) ?_ | refine Run.drawT rfl (by decide +kernel) ?_ | refine Run.drawW rfl (by decide +kernel) ?_); conv => whnf) | fail)
  refine Run.callBX hkr rfl rfl ⟨Le.refl _, Le.refl _, Le.refl _, trivial⟩ rfl rfl rfl ?_
  (conv => whnf); repeat' (first | ((with_reducible refine Know.mk fun _ => ?_); conv => whnf) | ((with_reducible refine Need.mk ?_ ?_); exact nd; conv => whnf) | ((with_reducible first | refine Both.mk ?_ ?_ | refine Any.mk fun b hb => ?_ | refine AskB.dec (fun hb => ?_) (fun hb => ?_) | refine AskB.ndec (fun hb => ?_) (fun hb => ?_) | refine AskB.mk (fun hb => ?_) (fun hb => ?_)) <;> conv => whnf) | ((with_reducible first | refine Run.drawX rfl (by decide +kernel) ?_ | refine Run.drawT rfl (by decide +kernel) ?_ | refine Run.drawW rfl (by decide +kernel) ?_); conv => whnf) | fail)
  all_goals try exact absurd rfl (by assumption)
  exact Run.leave (ts := [6]) (.inr ⟨_, rfl⟩) rfl Tryd.func3 rfl (Le.tt' (decide_eq_true rfl))
end Go.Proofs.YteklnpgiloebcaaDoor.V

