/-
The texts BAj, BAk, VF, BAl, VS, BAm, BAn, BBa, BWt, BWu, BWv, BWx, BWy, BWz, BXa, BRx, BXe, BXf, BXg, BXh, of each what the law needs.
-/
import Derived.Test.YteklnpgiloebcaaGreatDoorQAo3
import Derived.WideLaws
import Derived.Lib.MapLaws
import Derived.Lib.TrimUEq
namespace Go.Proofs.YteklnpgiloebcaaGreatDoor.V
set_option linter.unusedVariables false
set_option linter.unusedSimpArgs false
open Go Go.Proofs Go.RowKit
set_option maxRecDepth 100000
set_option maxHeartbeats 1000000
def awNm : List ByteArray := [⟨#[65]⟩, ⟨#[66]⟩, ⟨#[67]⟩]
def awR0 : Rd := ⟨true, bs [], [0]⟩
def awR1 : Rd := ⟨false, bs [99], [1, 2]⟩
def awEn : En := ⟨1, [awR0, awR1]⟩
/-- "c", "c B", "c B C". -/
def awS : Nat → ByteArray
  | 0 => ⟨#[99]⟩
  | 1 => ⟨#[99, 32, 66]⟩
  | _ => ⟨#[99, 32, 66, 32, 67]⟩
/-- The line: 1 - ] c B C. -/
def awLn : ByteArray := ⟨#[49, 32, 45, 32, 93, 32, 99, 32, 66, 32, 67, 10]⟩
theorem form_aw1 : Fn Tryz.prog 57 [.agg 3 (tRd.enc awR1)] (.str (awS 0)) := form1_fn false [99] [1, 2] (fun _ h => by cases h) (one0 (by decide)) (by decide)
theorem form_aw0 : Fn Tryz.prog 57 [.agg 3 (tRd.enc awR0)] (.str dashB) := form1_fn true [] [0] (fun h => by cases h) (fun i hi => absurd hi (Nat.not_lt_zero _)) (by decide)
theorem rdA_le (r : Rd) {g : Nat → AV} (h0 : Le (g 0) (.bool r.none)) (h1 : Le (g 1) (.str r.text)) (h2 : Le (g 2) (tI.L r.wits)) : Le (.agg 3 g) (.agg 3 (tRd.enc r)) := Le.agg fun j hj => by
  match j, hj with
  | 0, _ => exact h0
  | 1, _ => exact h1
  | 2, _ => exact h2
theorem line_aw : Fn Tryz.prog 31 [.agg 2 (tEn.enc awEn), tS.L awNm] (.str awLn) := by
  refine Fn.of Tryz.f31 _ Tryz.func31 rfl (by decide) (by show 2 ≤ _; decide) tbOk 56 rfl fun S w0 gl => ?_
  have hl : awEn.rds.length = 2 := rfl
  refine Run.go ?_; (conv => whnf); repeat' (first | ((with_reducible refine Know.mk fun _ => ?_); conv => whnf) | ((with_reducible refine Need.mk ?_ ?_); exact nd; conv => whnf) | ((with_reducible first | refine Both.mk ?_ ?_ | refine Any.mk fun b hb => ?_ | refine AskB.dec (fun hb => ?_) (fun hb => ?_) | refine AskB.ndec (fun hb => ?_) (fun hb => ?_) | refine AskB.mk (fun hb => ?_) (fun hb => ?_)) <;> conv => whnf) | ((with_reducible first | refine Run.drawX rfl (by decide +kernel) ?_ | refine Run.drawT rfl (by decide +kernel) ?_ | refine Run.drawW rfl (by decide +kernel) ?_); conv => whnf) | fail)
  refine Run.holdNil 5 1000 9 1 (fun _ _ => .u) rfl ?_
  refine Run.loop [1, 13, 14] (fun (k : Nat) => [(2, .box 2 0), (5, .row 1000), (15, .int .i64 (k : Int))]) (fun k => [(2, .box 59 [.int .i64 1, tRd.L [awR0, awR1]]), (1000, tS.R 9 (if k = 0 then [] else [awS 2]))]) (fun k => k ≤ 1) (fun k => 1 - k) 0 (Nat.zero_le _) ⟨Le.refl _, Le.refl _, Le.refl _, trivial⟩ ⟨MOle.refl _, ⟨rfl, rfl, rfl, fun i j hi => absurd hi (Nat.not_lt_zero _)⟩, trivial⟩ ?_
  intro k hk IH
  have hk01 : k = 0 ∨ k = 1 := by omega
  rcases hk01 with rfl | rfl
  · have IH := IH 1 (by omega) (by omega)
    show Run _ _ (lst (_ ++ [(2, .box 2 0), (5, .row 1000), (15, .int .i64 ((0 : Nat) : Int))])) (lstH [(2, .box 59 [.int .i64 1, tRd.L [awR0, awR1]]), (1000, tS.R 9 [])])
    refine Run.go ?_; (conv => whnf); repeat' (first | ((with_reducible refine Know.mk fun _ => ?_); conv => whnf) | ((with_reducible refine Need.mk ?_ ?_); exact nd; conv => whnf) | ((with_reducible first | refine Both.mk ?_ ?_ | refine Any.mk fun b hb => ?_ | refine AskB.dec (fun hb => ?_) (fun hb => ?_) | refine AskB.ndec (fun hb => ?_) (fun hb => ?_) | refine AskB.mk (fun hb => ?_) (fun hb => ?_)) <;> conv => whnf) | ((with_reducible first | refine Run.drawX rfl (by decide +kernel) ?_ | refine Run.drawT rfl (by decide +kernel) ?_ | refine Run.drawW rfl (by decide +kernel) ?_); conv => whnf) | fail)
    all_goals try (exact absurd (by decide) hb)
    refine Run.callBX form_aw1 rfl rfl ⟨rdA_le awR1 (Le.refl _) (Le.refl _) (Le.refl _), trivial⟩ rfl rfl rfl ?_
    (conv => whnf); repeat' (first | ((with_reducible refine Know.mk fun _ => ?_); conv => whnf) | ((with_reducible refine Need.mk ?_ ?_); exact nd; conv => whnf) | ((with_reducible first | refine Both.mk ?_ ?_ | refine Any.mk fun b hb => ?_ | refine AskB.dec (fun hb => ?_) (fun hb => ?_) | refine AskB.ndec (fun hb => ?_) (fun hb => ?_) | refine AskB.mk (fun hb => ?_) (fun hb => ?_)) <;> conv => whnf) | ((with_reducible first | refine Run.drawX rfl (by decide +kernel) ?_ | refine Run.drawT rfl (by decide +kernel) ?_ | refine Run.drawW rfl (by decide +kernel) ?_); conv => whnf) | fail)
    refine Run.loop [1, 13, 14, 15, 22, 23] (fun (j : Nat) => [(2, .box 2 0), (5, .row 1000), (8, .str (awS j)), (24, .int .i64 (j : Int))]) (fun j => [(2, .box 59 [.int .i64 1, tRd.L [awR0, awR1]]), (1000, tS.R 9 [])]) (fun j => j ≤ 2) (fun j => 2 - j) 0 (Nat.zero_le _) ⟨Le.refl _, Le.refl _, Le.refl _, Le.refl _, trivial⟩ ⟨MOle.refl _, MOle.refl _, trivial⟩ ?_
    intro j hj IHj
    have hj012 : j = 0 ∨ j = 1 ∨ j = 2 := by omega
    rcases hj012 with rfl | rfl | rfl
    · have IHj := IHj 1 (by omega) (by omega)
      refine Run.go ?_; (conv => whnf); repeat' (first | ((with_reducible refine Know.mk fun _ => ?_); conv => whnf) | ((with_reducible refine Need.mk ?_ ?_); exact nd; conv => whnf) | ((with_reducible first | refine Both.mk ?_ ?_ | refine Any.mk fun b hb => ?_ | refine AskB.dec (fun hb => ?_) (fun hb => ?_) | refine AskB.ndec (fun hb => ?_) (fun hb => ?_) | refine AskB.mk (fun hb => ?_) (fun hb => ?_)) <;> conv => whnf) | ((with_reducible first | refine Run.drawX rfl (by decide +kernel) ?_ | refine Run.drawT rfl (by decide +kernel) ?_ | refine Run.drawW rfl (by decide +kernel) ?_); conv => whnf) | fail)
      all_goals try (exact absurd (by decide) hb)
      refine Run.to _ _ ?_ ?_ IHj
      · exact ⟨Le.refl _, Le.refl _, Le.refl _, Le.refl _, Le.refl _, Le.refl _, Le.refl _, Le.refl _, Le.str (by decide +kernel), Le.int (by decide), trivial⟩
      · exact ⟨MOle.refl _, MOle.refl _, trivial⟩
    · have IHj := IHj 2 (by omega) (by omega)
      refine Run.go ?_; (conv => whnf); repeat' (first | ((with_reducible refine Know.mk fun _ => ?_); conv => whnf) | ((with_reducible refine Need.mk ?_ ?_); exact nd; conv => whnf) | ((with_reducible first | refine Both.mk ?_ ?_ | refine Any.mk fun b hb => ?_ | refine AskB.dec (fun hb => ?_) (fun hb => ?_) | refine AskB.ndec (fun hb => ?_) (fun hb => ?_) | refine AskB.mk (fun hb => ?_) (fun hb => ?_)) <;> conv => whnf) | ((with_reducible first | refine Run.drawX rfl (by decide +kernel) ?_ | refine Run.drawT rfl (by decide +kernel) ?_ | refine Run.drawW rfl (by decide +kernel) ?_); conv => whnf) | fail)
      all_goals try (exact absurd (by decide) hb)
      refine Run.to _ _ ?_ ?_ IHj
      · exact ⟨Le.refl _, Le.refl _, Le.refl _, Le.refl _, Le.refl _, Le.refl _, Le.refl _, Le.refl _, Le.str (by decide +kernel), Le.int (by decide), trivial⟩
      · exact ⟨MOle.refl _, MOle.refl _, trivial⟩
    · have hl0 : ([] : List ByteArray).length = 0 := rfl
      refine Run.go ?_; (conv => whnf); repeat' (first | ((with_reducible refine Know.mk fun _ => ?_); conv => whnf) | ((with_reducible refine Need.mk ?_ ?_); exact nd; conv => whnf) | ((with_reducible first | refine Both.mk ?_ ?_ | refine Any.mk fun b hb => ?_ | refine AskB.dec (fun hb => ?_) (fun hb => ?_) | refine AskB.ndec (fun hb => ?_) (fun hb => ?_) | refine AskB.mk (fun hb => ?_) (fun hb => ?_)) <;> conv => whnf) | ((with_reducible first | refine Run.drawX rfl (by decide +kernel) ?_ | refine Run.drawT rfl (by decide +kernel) ?_ | refine Run.drawW rfl (by decide +kernel) ?_); conv => whnf) | fail)
      all_goals try (exact absurd hb (by decide))
      refine Run.hold (z := 39) 5 1000 (by rfl) (by rfl) (by rfl) ?_
      refine Run.to _ _ ?_ ?_ IH
      · exact ⟨Le.refl _, Le.refl _, Le.refl _, Le.refl _, Le.refl _, Le.int (by decide), trivial⟩
      · exact ⟨MOle.refl _, tS.push 9 [] (awS 2) _ (one0 (Le.refl _)), trivial⟩
  · show Run _ _ (lst (_ ++ [(2, .box 2 0), (5, .row 1000), (15, .int .i64 ((1 : Nat) : Int))])) (lstH [(2, .box 59 [.int .i64 1, tRd.L [awR0, awR1]]), (1000, tS.R 9 [awS 2])])
    refine Run.go ?_; (conv => whnf); repeat' (first | ((with_reducible refine Know.mk fun _ => ?_); conv => whnf) | ((with_reducible refine Need.mk ?_ ?_); exact nd; conv => whnf) | ((with_reducible first | refine Both.mk ?_ ?_ | refine Any.mk fun b hb => ?_ | refine AskB.dec (fun hb => ?_) (fun hb => ?_) | refine AskB.ndec (fun hb => ?_) (fun hb => ?_) | refine AskB.mk (fun hb => ?_) (fun hb => ?_)) <;> conv => whnf) | ((with_reducible first | refine Run.drawX rfl (by decide +kernel) ?_ | refine Run.drawT rfl (by decide +kernel) ?_ | refine Run.drawW rfl (by decide +kernel) ?_); conv => whnf) | fail)
    all_goals try (exact absurd hb (by decide))
    refine CallQ.flat itoa1_fn rfl ⟨Le.refl _, trivial⟩ rfl ?_
    (conv => whnf); repeat' (first | ((with_reducible refine Know.mk fun _ => ?_); conv => whnf) | ((with_reducible refine Need.mk ?_ ?_); exact nd; conv => whnf) | ((with_reducible first | refine Both.mk ?_ ?_ | refine Any.mk fun b hb => ?_ | refine AskB.dec (fun hb => ?_) (fun hb => ?_) | refine AskB.ndec (fun hb => ?_) (fun hb => ?_) | refine AskB.mk (fun hb => ?_) (fun hb => ?_)) <;> conv => whnf) | ((with_reducible first | refine Run.drawX rfl (by decide +kernel) ?_ | refine Run.drawT rfl (by decide +kernel) ?_ | refine Run.drawW rfl (by decide +kernel) ?_); conv => whnf) | fail)
    refine CallQ.flat form_aw0 rfl ⟨rdA_le awR0 (Le.refl _) (Le.refl _) (Le.refl _), trivial⟩ rfl ?_
    (conv => whnf); repeat' (first | ((with_reducible refine Know.mk fun _ => ?_); conv => whnf) | ((with_reducible refine Need.mk ?_ ?_); exact nd; conv => whnf) | ((with_reducible first | refine Both.mk ?_ ?_ | refine Any.mk fun b hb => ?_ | refine AskB.dec (fun hb => ?_) (fun hb => ?_) | refine AskB.ndec (fun hb => ?_) (fun hb => ?_) | refine AskB.mk (fun hb => ?_) (fun hb => ?_)) <;> conv => whnf) | ((with_reducible first | refine Run.drawX rfl (by decide +kernel) ?_ | refine Run.drawT rfl (by decide +kernel) ?_ | refine Run.drawW rfl (by decide +kernel) ?_); conv => whnf) | fail)
    refine CallQ.flat (join1_fn (awS 2) _) rfl ⟨Le.refl _, Le.refl _, trivial⟩ rfl ?_
    (conv => whnf); repeat' (first | ((with_reducible refine Know.mk fun _ => ?_); conv => whnf) | ((with_reducible refine Need.mk ?_ ?_); exact nd; conv => whnf) | ((with_reducible first | refine Both.mk ?_ ?_ | refine Any.mk fun b hb => ?_ | refine AskB.dec (fun hb => ?_) (fun hb => ?_) | refine AskB.ndec (fun hb => ?_) (fun hb => ?_) | refine AskB.mk (fun hb => ?_) (fun hb => ?_)) <;> conv => whnf) | ((with_reducible first | refine Run.drawX rfl (by decide +kernel) ?_ | refine Run.drawT rfl (by decide +kernel) ?_ | refine Run.drawW rfl (by decide +kernel) ?_); conv => whnf) | fail)
    exact Run.leave (ts := [4]) (.inr ⟨_, rfl⟩) rfl Tryz.func31 rfl (Le.str (by decide +kernel))
theorem nm_ok {names : List ByteArray} (h1 : 1 ≤ names.length) (h2 : names.length ≤ 12) (h3 : ∀ i, i < names.length → NameOk (names.getD i .empty) ∧ ∀ k, k < i → names.getD k .empty ≠ names.getD i .empty) : nmOk names = true := by
  have hl : (nmTab names).wits.length = names.length := by simp [nmTab]
  have hw : ∀ i, i < names.length → witAt (nmTab names) i = nmWit (names.getD i .empty) := fun i hi => by
    unfold witAt nmTab
    simp [List.getD, hi]
  unfold nmOk
  refine decide_eq_true (chk_ok ⟨by omega, by omega, by simp [nmTab], fun i hi => ?_, fun c hc => absurd hc (by simp [nmTab]), fun i hi => ?_⟩)
  · obtain ⟨a, b⟩ := h3 i (by omega)
    unfold WitOk
    rw [hw i (by omega)]
    refine ⟨a, awRight0, fun k hk => ?_⟩
    rw [hw k (by omega)]
    exact b k hk
  · rw [hw i (by omega)]; rfl
theorem awNm_ok : nmOk awNm = true := nm_ok (by decide) (by decide) (fun i hi => by
  have : i = 0 ∨ i = 1 ∨ i = 2 := by have : awNm.length = 3 := rfl; omega
  rcases this with rfl | rfl | rfl
  · exact ⟨by decide +kernel, fun k hk => absurd hk (Nat.not_lt_zero _)⟩
  · exact ⟨by decide +kernel, one0 (by decide +kernel)⟩
  · exact ⟨by decide +kernel, two (by decide +kernel) (by decide +kernel)⟩)
theorem awEn_good : Good 3 3 [awEn] := by
  refine ⟨fun e he => ?_, by simp⟩
  simp only [List.mem_singleton] at he
  subst he
  refine ⟨by decide, by decide, ⟨fun r hr => ?_, by decide, by simp [awEn, awR0, awR1, bs]⟩, by decide, by decide⟩
  simp only [awEn, List.mem_cons, List.not_mem_nil, or_false] at hr
  rcases hr with rfl | rfl
  · exact ⟨by simp [awR0], by simp [awR0, bs], by simp [awR0], by simp [awR0]⟩
  · exact ⟨by simp [awR1], by simp [awR1, bs], by simp [awR1], by simp [awR1]⟩
theorem awEn_chk : chk [awEn] 3 3 = 0 := by
  unfold chk
  rw [if_neg (by omega), if_pos awEn_good]
end Go.Proofs.YteklnpgiloebcaaGreatDoor.V

namespace Go.Proofs.YteklnpgiloebcaaGreatDoor.V
set_option linter.unusedVariables false
set_option linter.unusedSimpArgs false
open Go Go.Proofs Go.RowKit
set_option maxRecDepth 100000
set_option maxHeartbeats 1000000
theorem ws9 {N : Nat} {w0 : World} {S : Nat → Prop} {gl : GlobOk S w0} {f : FuncId} {R : Ending → World → Prop} {ops : Array Oper} {i : Nat} {rest : List Nat} {k : List Item} {env : Env} {h : Heap} {o : Oper} {x y : Operand}
    (p : AV) (t s : ByteArray) (ho : ops.toList[i]? = some o) (hc : calls? o = some (30, [x, y])) (hd : okD N o.dst = true) (hr : ready env ops o = true) (hx : ev (scrubE 900 env) x = .box 9 0) (hy : ev (scrubE 900 env) y = .str s)
    (hs : t.size + s.size ≤ 140737488355328) (hp : p = .nilp ∨ p = .box 9 0)
    (next : Run ⟨Tryz.prog, TB, tbOk, N, w0, S, gl, f, R⟩ (.inRegion ops rest :: k) (putE (envW 90 env) o.dst .u) (bldr 77 5 9 90 (heapW 90 h) (.box 9 0) (t ++ s))) :
    Run ⟨Tryz.prog, TB, tbOk, N, w0, S, gl, f, R⟩ (.inRegion ops (i :: rest) :: k) env (bldr 77 5 9 90 h p t) := by
  refine Run.inline 900 Tryz.f30 _ 19 ho hc Tryz.func30 rfl (by decide) rfl (by show 2 ≤ 19; decide) hd hr (fun a hsz hdf => ?_)
  simp only [List.map, hx, hy]
  have fin : ∀ (E : Env) (H : Heap) (X : AV), (∀ i, E i = scrub 14 (scrub 901 (scrub 900 (env i)))) → (∀ id, Nat.beq id 9 = false → Nat.beq id 90 = false → Nat.beq id 14 = false → Nat.beq id 901 = false → Nat.beq id 900 = false → H id = scrubM 90 (scrubM 14 (scrubM 901 (scrubM 900 (h id))))) →
      MOle (H 9) (.box 77 [.box 9 0, .row 90]) → MOle (H 90) (.row 5 1 (t ++ s).size (bytesG (t ++ s))) → Run ⟨Tryz.prog, TB, tbOk, N, w0, S, gl, f, R⟩ (.inRegion ops rest :: k) (scrubE 90 (putE E o.dst X)) H := by
    intro E H X hE hH h5 h90
    refine Run.weaken (fun i => ?_) (fun id => ?_) next
    · cases hdst : o.dst with
      | none => show Le (scrub 90 (E i)) _; rw [hE]; exact Le.refl _
      | some d =>
        show Le (scrub 90 (upd E d X i)) (upd (envW 90 env) d .u i)
        by_cases e : i = d
        · subst e; rw [upd_same, upd_same]; exact Le.u _
        · rw [upd_other _ _ e, upd_other _ _ e, hE]; exact Le.refl _
    · unfold bldr heapW
      cases e5 : Nat.beq id 9 with
      | true => have := Nat.eq_of_beq_eq_true e5; subst this; exact h5
      | false =>
      cases e90 : Nat.beq id 90 with
      | true => have := Nat.eq_of_beq_eq_true e90; subst this; exact h90
      | false =>
      cases e900 : Nat.beq id 900 with
      | true => simp only [upd, e5, e90, e900, cond_true, cond_false]; exact mole_dead _
      | false =>
      cases e901 : Nat.beq id 901 with
      | true => simp only [upd, e5, e90, e900, e901, cond_true, cond_false]; exact mole_dead _
      | false =>
      cases e14 : Nat.beq id 14 with
      | true => simp only [upd, e5, e90, e900, e901, e14, cond_true, cond_false]; exact mole_dead _
      | false =>
        rw [hH id e5 e90 e14 e901 e900]
        simp only [upd, e5, e90, e900, e901, e14, cond_true, cond_false]
        exact MOle.refl _
  rcases hp with rfl | rfl
  · refine Run.go ?_; (conv => whnf); repeat' (first | ((with_reducible refine Know.mk fun _ => ?_); conv => whnf) | ((with_reducible refine Need.mk ?_ ?_); exact nd; conv => whnf) | ((with_reducible first | refine Both.mk ?_ ?_ | refine Any.mk fun b hb => ?_ | refine AskB.dec (fun hb => ?_) (fun hb => ?_) | refine AskB.ndec (fun hb => ?_) (fun hb => ?_) | refine AskB.mk (fun hb => ?_) (fun hb => ?_)) <;> conv => whnf) | ((with_reducible first | refine Run.drawX rfl (by decide +kernel) ?_ | refine Run.drawT rfl (by decide +kernel) ?_ | refine Run.drawW rfl (by decide +kernel) ?_); conv => whnf) | fail)
    refine Run.inline 901 Tryz.f56 _ 20 rfl rfl Tryz.func56 rfl (by decide) rfl (by decide) rfl rfl (fun a2 hsz2 hdf2 => ?_)
    refine Run.go ?_; (conv => whnf); repeat' (first | ((with_reducible refine Know.mk fun _ => ?_); conv => whnf) | ((with_reducible refine Need.mk ?_ ?_); exact nd; conv => whnf) | ((with_reducible first | refine Both.mk ?_ ?_ | refine Any.mk fun b hb => ?_ | refine AskB.dec (fun hb => ?_) (fun hb => ?_) | refine AskB.ndec (fun hb => ?_) (fun hb => ?_) | refine AskB.mk (fun hb => ?_) (fun hb => ?_)) <;> conv => whnf) | ((with_reducible first | refine Run.drawX rfl (by decide +kernel) ?_ | refine Run.drawT rfl (by decide +kernel) ?_ | refine Run.drawW rfl (by decide +kernel) ?_); conv => whnf) | fail)
    refine Run.toUnsafe (id := 9) (l := [.nilp, .row 90]) (e := 77) (t := 77) (src := 74) (dst := 127) (x := .tmp 8) rfl rfl rfl rfl rfl rfl (by decide) (by kernel_rfl) (by kernel_rfl) (j := (Tryz.prog.info? 77).get (by kernel_rfl)) (by kernel_rfl) (by decide +kernel) ?_
    refine Run.noEscape (f := 75) (x := .tmp 9) rfl rfl rfl rfl Tryz.func75 (by kernel_rfl) (by kernel_rfl) (by kernel_rfl) (by kernel_rfl) ?_
    refine Run.fromUnsafe (id := 9) (l := [.nilp, .row 90]) (e := 77) (u := 77) (src := 127) (dst := 74) (x := .tmp 10) rfl rfl rfl rfl rfl rfl (by kernel_rfl) (by kernel_rfl) (j := (Tryz.prog.info? 77).get (by kernel_rfl)) (by kernel_rfl) (by kernel_rfl) ?_
    refine Run.go ?_; (conv => whnf); repeat' (first | ((with_reducible refine Know.mk fun _ => ?_); conv => whnf) | ((with_reducible refine Need.mk ?_ ?_); exact nd; conv => whnf) | ((with_reducible first | refine Both.mk ?_ ?_ | refine Any.mk fun b hb => ?_ | refine AskB.dec (fun hb => ?_) (fun hb => ?_) | refine AskB.ndec (fun hb => ?_) (fun hb => ?_) | refine AskB.mk (fun hb => ?_) (fun hb => ?_)) <;> conv => whnf) | ((with_reducible first | refine Run.drawX rfl (by decide +kernel) ?_ | refine Run.drawT rfl (by decide +kernel) ?_ | refine Run.drawW rfl (by decide +kernel) ?_); conv => whnf) | fail)
    refine Run.back 901 (ts := []) hsz2 hdf2 (.inl rfl) (by rfl) Tryz.func56 rfl ?_
    refine Run.go ?_; (conv => whnf); repeat' (first | ((with_reducible refine Know.mk fun _ => ?_); conv => whnf) | ((with_reducible refine Need.mk ?_ ?_); exact nd; conv => whnf) | ((with_reducible first | refine Both.mk ?_ ?_ | refine Any.mk fun b hb => ?_ | refine AskB.dec (fun hb => ?_) (fun hb => ?_) | refine AskB.ndec (fun hb => ?_) (fun hb => ?_) | refine AskB.mk (fun hb => ?_) (fun hb => ?_)) <;> conv => whnf) | ((with_reducible first | refine Run.drawX rfl (by decide +kernel) ?_ | refine Run.drawT rfl (by decide +kernel) ?_ | refine Run.drawW rfl (by decide +kernel) ?_); conv => whnf) | fail)
    refine Run.back 900 (ts := [4, 5]) hsz hdf (.inr ⟨_, rfl⟩) (by rfl) Tryz.func30 rfl ?_
    refine Run.holdBoxRow 9 1 90 14 (by rfl) (by rfl) (by rfl) rfl rfl rfl ?_
    refine fin _ _ _ (fun i => rfl) (fun id e5 e90 e14 e901 e900 => ?_) (MOle.refl _) (bytesG_join 5 t s)
    simp only [upd, scrubH, scrubM, bldr, e5, e90, e14, e901, e900, cond_false]
  · refine Run.go ?_; (conv => whnf); repeat' (first | ((with_reducible refine Know.mk fun _ => ?_); conv => whnf) | ((with_reducible refine Need.mk ?_ ?_); exact nd; conv => whnf) | ((with_reducible first | refine Both.mk ?_ ?_ | refine Any.mk fun b hb => ?_ | refine AskB.dec (fun hb => ?_) (fun hb => ?_) | refine AskB.ndec (fun hb => ?_) (fun hb => ?_) | refine AskB.mk (fun hb => ?_) (fun hb => ?_)) <;> conv => whnf) | ((with_reducible first | refine Run.drawX rfl (by decide +kernel) ?_ | refine Run.drawT rfl (by decide +kernel) ?_ | refine Run.drawW rfl (by decide +kernel) ?_); conv => whnf) | fail)
    refine Run.inline 901 Tryz.f56 _ 20 rfl rfl Tryz.func56 rfl (by decide) rfl (by decide) rfl rfl (fun a2 hsz2 hdf2 => ?_)
    refine Run.go ?_; (conv => whnf); repeat' (first | ((with_reducible refine Know.mk fun _ => ?_); conv => whnf) | ((with_reducible refine Need.mk ?_ ?_); exact nd; conv => whnf) | ((with_reducible first | refine Both.mk ?_ ?_ | refine Any.mk fun b hb => ?_ | refine AskB.dec (fun hb => ?_) (fun hb => ?_) | refine AskB.ndec (fun hb => ?_) (fun hb => ?_) | refine AskB.mk (fun hb => ?_) (fun hb => ?_)) <;> conv => whnf) | ((with_reducible first | refine Run.drawX rfl (by decide +kernel) ?_ | refine Run.drawT rfl (by decide +kernel) ?_ | refine Run.drawW rfl (by decide +kernel) ?_); conv => whnf) | fail)
    refine Run.back 901 (ts := []) hsz2 hdf2 (.inl rfl) (by rfl) Tryz.func56 rfl ?_
    refine Run.go ?_; (conv => whnf); repeat' (first | ((with_reducible refine Know.mk fun _ => ?_); conv => whnf) | ((with_reducible refine Need.mk ?_ ?_); exact nd; conv => whnf) | ((with_reducible first | refine Both.mk ?_ ?_ | refine Any.mk fun b hb => ?_ | refine AskB.dec (fun hb => ?_) (fun hb => ?_) | refine AskB.ndec (fun hb => ?_) (fun hb => ?_) | refine AskB.mk (fun hb => ?_) (fun hb => ?_)) <;> conv => whnf) | ((with_reducible first | refine Run.drawX rfl (by decide +kernel) ?_ | refine Run.drawT rfl (by decide +kernel) ?_ | refine Run.drawW rfl (by decide +kernel) ?_); conv => whnf) | fail)
    refine Run.back 900 (ts := [4, 5]) hsz hdf (.inr ⟨_, rfl⟩) (by rfl) Tryz.func30 rfl ?_
    refine Run.holdBoxRow 9 1 90 14 (by rfl) (by rfl) (by rfl) rfl rfl rfl ?_
    refine fin _ _ _ (fun i => rfl) (fun id e5 e90 e14 e901 e900 => ?_) (MOle.refl _) (bytesG_join 5 t s)
    simp only [upd, scrubH, scrubM, bldr, e5, e90, e14, e901, e900, cond_false]

theorem bs9 {N : Nat} {w0 : World} {S : Nat → Prop} {gl : GlobOk S w0} {f : FuncId} {R : Ending → World → Prop} {ops : Array Oper} {i : Nat} {rest : List Nat} {k : List Item} {env : Env} {h : Heap} {o : Oper} {x : Operand}
    (p : AV) (t : ByteArray) (ho : ops.toList[i]? = some o) (hc : calls? o = some (33, [x])) (hd : okD N o.dst = true) (hr : ready env ops o = true) (hx : ev (scrubE 900 env) x = .box 9 0)
    (next : Run ⟨Tryz.prog, TB, tbOk, N, w0, S, gl, f, R⟩ (.inRegion ops rest :: k) (putE (scrubE 900 env) o.dst (.str t)) (upd (upd (upd (scrubH 900 h) 900 .dead) 9 .dead) 90 .dead)) :
    Run ⟨Tryz.prog, TB, tbOk, N, w0, S, gl, f, R⟩ (.inRegion ops (i :: rest) :: k) env (bldr 77 5 9 90 h p t) := by
  refine Run.inline 900 Tryz.f33 _ 14 ho hc Tryz.func33 rfl (by decide) rfl (by show 1 ≤ 14; decide) hd hr (fun a hsz hdf => ?_)
  simp only [List.map, hx]
  have fin : ∀ (H : Heap), (∀ id, Nat.beq id 9 = false → Nat.beq id 90 = false → Nat.beq id 900 = false → H id = scrubM 900 (h id)) →
      Run ⟨Tryz.prog, TB, tbOk, N, w0, S, gl, f, R⟩ (.inRegion ops rest :: k) (putE (scrubE 900 env) o.dst (.str t)) H := by
    intro H hH
    refine Run.weaken (fun i => Le.refl _) (fun id => ?_) next
    cases e5 : Nat.beq id 9 with
    | true => simp only [upd, e5, cond_true, cond_false]; cases Nat.beq id 90 <;> exact mole_dead _
    | false =>
    cases e90 : Nat.beq id 90 with
    | true => simp only [upd, e5, e90, cond_true, cond_false]; exact mole_dead _
    | false =>
    cases e900 : Nat.beq id 900 with
    | true => simp only [upd, e5, e90, e900, cond_true, cond_false]; exact mole_dead _
    | false =>
      rw [hH id e5 e90 e900]
      simp only [upd, e5, e90, e900, cond_true, cond_false]
      exact MOle.refl _
  refine Run.go ?_; (conv => whnf); repeat' (first | ((with_reducible refine Know.mk fun _ => ?_); conv => whnf) | ((with_reducible refine Need.mk ?_ ?_); exact nd; conv => whnf) | ((with_reducible first | refine Both.mk ?_ ?_ | refine Any.mk fun b hb => ?_ | refine AskB.dec (fun hb => ?_) (fun hb => ?_) | refine AskB.ndec (fun hb => ?_) (fun hb => ?_) | refine AskB.mk (fun hb => ?_) (fun hb => ?_)) <;> conv => whnf) | ((with_reducible first | refine Run.drawX rfl (by decide +kernel) ?_ | refine Run.drawT rfl (by decide +kernel) ?_ | refine Run.drawW rfl (by decide +kernel) ?_); conv => whnf) | fail)
  · refine Run.unsafeString0 (i := 10) (rest := [11]) (k := [.code .ret]) (x := .tmp 7) (y := .tmp 12) (c := ⟨.builtin .unsafeString, #[.tmp 7, .tmp 12], #[106, 3]⟩) rfl rfl rfl rfl rfl rfl rfl (.inl rfl) (by show AV.int .i64 (t.size : Int) = _; rw [hb]; rfl) ?_
    have ht : t = .empty := by simpa using hb
    refine Run.go ?_; (conv => whnf); repeat' (first | ((with_reducible refine Know.mk fun _ => ?_); conv => whnf) | ((with_reducible refine Need.mk ?_ ?_); exact nd; conv => whnf) | ((with_reducible first | refine Both.mk ?_ ?_ | refine Any.mk fun b hb => ?_ | refine AskB.dec (fun hb => ?_) (fun hb => ?_) | refine AskB.ndec (fun hb => ?_) (fun hb => ?_) | refine AskB.mk (fun hb => ?_) (fun hb => ?_)) <;> conv => whnf) | ((with_reducible first | refine Run.drawX rfl (by decide +kernel) ?_ | refine Run.drawT rfl (by decide +kernel) ?_ | refine Run.drawW rfl (by decide +kernel) ?_); conv => whnf) | fail)
    refine Run.back 900 (ts := [2]) hsz hdf (.inr ⟨_, rfl⟩) (by rfl) Tryz.func33 rfl ?_
    rw [ht] at fin next ⊢
    exact fin _ (fun id e5 e90 e900 => by simp only [upd, scrubH, bldr, e5, e90, e900, cond_false])
  · refine Run.unsafeString (i := 10) (rest := [11]) (k := [.code .ret]) (x := .tmp 7) (y := .tmp 12) (c := ⟨.builtin .unsafeString, #[.tmp 7, .tmp 12], #[106, 3]⟩) t rfl rfl rfl rfl rfl rfl rfl rfl rfl (e := 5) (n := t.size) (q := 90) (get := bytesG t) rfl rfl hb (fun _ _ => rfl) (by kernel_rfl) (by kernel_rfl) ?_
    refine Run.go ?_; (conv => whnf); repeat' (first | ((with_reducible refine Know.mk fun _ => ?_); conv => whnf) | ((with_reducible refine Need.mk ?_ ?_); exact nd; conv => whnf) | ((with_reducible first | refine Both.mk ?_ ?_ | refine Any.mk fun b hb => ?_ | refine AskB.dec (fun hb => ?_) (fun hb => ?_) | refine AskB.ndec (fun hb => ?_) (fun hb => ?_) | refine AskB.mk (fun hb => ?_) (fun hb => ?_)) <;> conv => whnf) | ((with_reducible first | refine Run.drawX rfl (by decide +kernel) ?_ | refine Run.drawT rfl (by decide +kernel) ?_ | refine Run.drawW rfl (by decide +kernel) ?_); conv => whnf) | fail)
    refine Run.back 900 (ts := [2]) hsz hdf (.inr ⟨_, rfl⟩) (by rfl) Tryz.func33 rfl ?_
    exact fin _ (fun id e5 e90 e900 => by simp only [upd, scrubH, bldr, e5, e90, e900, cond_false])
theorem print_aw : Fn Tryz.prog 15 [tEn.L [awEn], tS.L awNm, .int .i64 3] (tupL [.str awLn, .int .i64 0]) := by
  refine Fn.of Tryz.f15 _ Tryz.func15 rfl (by decide) (by show 3 ≤ _; decide) tbOk 37 rfl fun S w0 gl => ?_
  refine Run.go ?_; (conv => whnf); repeat' (first | ((with_reducible refine Know.mk fun _ => ?_); conv => whnf) | ((with_reducible refine Need.mk ?_ ?_); exact nd; conv => whnf) | ((with_reducible first | refine Both.mk ?_ ?_ | refine Any.mk fun b hb => ?_ | refine AskB.dec (fun hb => ?_) (fun hb => ?_) | refine AskB.ndec (fun hb => ?_) (fun hb => ?_) | refine AskB.mk (fun hb => ?_) (fun hb => ?_)) <;> conv => whnf) | ((with_reducible first | refine Run.drawX rfl (by decide +kernel) ?_ | refine Run.drawT rfl (by decide +kernel) ?_ | refine Run.drawW rfl (by decide +kernel) ?_); conv => whnf) | fail)
  refine Run.callBX (named17_fn awNm (by decide) (fun s hs => ?_)) rfl rfl ⟨Le.refl _, trivial⟩ rfl rfl rfl ?_
  · simp only [awNm, List.mem_cons, List.not_mem_nil, or_false] at hs
    rcases hs with rfl | rfl | rfl <;> decide
  rw [awNm_ok]
  (conv => whnf); repeat' (first | ((with_reducible refine Know.mk fun _ => ?_); conv => whnf) | ((with_reducible refine Need.mk ?_ ?_); exact nd; conv => whnf) | ((with_reducible first | refine Both.mk ?_ ?_ | refine Any.mk fun b hb => ?_ | refine AskB.dec (fun hb => ?_) (fun hb => ?_) | refine AskB.ndec (fun hb => ?_) (fun hb => ?_) | refine AskB.mk (fun hb => ?_) (fun hb => ?_)) <;> conv => whnf) | ((with_reducible first | refine Run.drawX rfl (by decide +kernel) ?_ | refine Run.drawT rfl (by decide +kernel) ?_ | refine Run.drawW rfl (by decide +kernel) ?_); conv => whnf) | fail)
  all_goals try (exact absurd hb (by decide))
  refine Run.callBX (appCheck_fn [awEn] 3 3) rfl rfl ⟨Le.refl _, Le.refl _, Le.refl _, trivial⟩ rfl rfl rfl ?_
  rw [awEn_chk]
  (conv => whnf); repeat' (first | ((with_reducible refine Know.mk fun _ => ?_); conv => whnf) | ((with_reducible refine Need.mk ?_ ?_); exact nd; conv => whnf) | ((with_reducible first | refine Both.mk ?_ ?_ | refine Any.mk fun b hb => ?_ | refine AskB.dec (fun hb => ?_) (fun hb => ?_) | refine AskB.ndec (fun hb => ?_) (fun hb => ?_) | refine AskB.mk (fun hb => ?_) (fun hb => ?_)) <;> conv => whnf) | ((with_reducible first | refine Run.drawX rfl (by decide +kernel) ?_ | refine Run.drawT rfl (by decide +kernel) ?_ | refine Run.drawW rfl (by decide +kernel) ?_); conv => whnf) | fail)
  all_goals try (exact absurd rfl hb)
  refine Run.holdBoxNil 9 1 90 5 1 (bytesG .empty) rfl rfl rfl rfl ?_
  refine Run.loop [1, 9, 23, 24] (fun (k : Nat) => [(25, .int .i64 (k : Int))]) (fun k => [(9, .box 77 [if k = 0 then .nilp else .box 9 0, .row 90]), (90, .row 5 1 (if k = 0 then ByteArray.empty else awLn).size (bytesG (if k = 0 then .empty else awLn)))]) (fun k => k ≤ 1) (fun k => 1 - k) 0 (Nat.zero_le _) ⟨Le.refl _, trivial⟩ ⟨MOle.refl _, MOle.refl _, trivial⟩ ?_
  intro k hk IH
  have hk01 : k = 0 ∨ k = 1 := by omega
  rcases hk01 with rfl | rfl
  · have IH := IH 1 (by omega) (by omega)
    show Run _ _ (lst (_ ++ [(25, .int .i64 ((0 : Nat) : Int))])) (lstH [(9, .box 77 [.nilp, .row 90]), (90, .row 5 1 ByteArray.empty.size (bytesG .empty))])
    refine Run.go ?_; (conv => whnf); repeat' (first | ((with_reducible refine Know.mk fun _ => ?_); conv => whnf) | ((with_reducible refine Need.mk ?_ ?_); exact nd; conv => whnf) | ((with_reducible first | refine Both.mk ?_ ?_ | refine Any.mk fun b hb => ?_ | refine AskB.dec (fun hb => ?_) (fun hb => ?_) | refine AskB.ndec (fun hb => ?_) (fun hb => ?_) | refine AskB.mk (fun hb => ?_) (fun hb => ?_)) <;> conv => whnf) | ((with_reducible first | refine Run.drawX rfl (by decide +kernel) ?_ | refine Run.drawT rfl (by decide +kernel) ?_ | refine Run.drawW rfl (by decide +kernel) ?_); conv => whnf) | fail)
    all_goals try (exact absurd (by decide) hb)
    refine Run.callBX line_aw rfl rfl ⟨?_, Le.refl _, trivial⟩ rfl rfl rfl ?_
    · exact Le.agg fun j hj => by
        match j, hj with
        | 0, _ => exact Le.refl _
        | 1, _ => exact Le.refl _
    (conv => whnf); repeat' (first | ((with_reducible refine Know.mk fun _ => ?_); conv => whnf) | ((with_reducible refine Need.mk ?_ ?_); exact nd; conv => whnf) | ((with_reducible first | refine Both.mk ?_ ?_ | refine Any.mk fun b hb => ?_ | refine AskB.dec (fun hb => ?_) (fun hb => ?_) | refine AskB.ndec (fun hb => ?_) (fun hb => ?_) | refine AskB.mk (fun hb => ?_) (fun hb => ?_)) <;> conv => whnf) | ((with_reducible first | refine Run.drawX rfl (by decide +kernel) ?_ | refine Run.drawT rfl (by decide +kernel) ?_ | refine Run.drawW rfl (by decide +kernel) ?_); conv => whnf) | fail)
    refine Run.bldr 77 5 9 90 .nilp .empty (MOle.refl _) (MOle.refl _) ?_
    refine ws9 .nilp .empty awLn rfl rfl rfl rfl rfl rfl (by decide) (.inl rfl) ?_
    refine Run.tidy [1, 9, 23, 24, 25] [9, 90] ?_; (conv => whnf)
    refine Run.go ?_; (conv => whnf); repeat' (first | ((with_reducible refine Know.mk fun _ => ?_); conv => whnf) | ((with_reducible refine Need.mk ?_ ?_); exact nd; conv => whnf) | ((with_reducible first | refine Both.mk ?_ ?_ | refine Any.mk fun b hb => ?_ | refine AskB.dec (fun hb => ?_) (fun hb => ?_) | refine AskB.ndec (fun hb => ?_) (fun hb => ?_) | refine AskB.mk (fun hb => ?_) (fun hb => ?_)) <;> conv => whnf) | ((with_reducible first | refine Run.drawX rfl (by decide +kernel) ?_ | refine Run.drawT rfl (by decide +kernel) ?_ | refine Run.drawW rfl (by decide +kernel) ?_); conv => whnf) | fail)
    refine Run.to _ _ ?_ ?_ IH
    · exact ⟨Le.refl _, Le.refl _, Le.refl _, Le.refl _, Le.int (by decide), trivial⟩
    · exact ⟨MOle.refl _, MOle.refl _, trivial⟩
  · show Run _ _ (lst (_ ++ [(25, .int .i64 ((1 : Nat) : Int))])) (lstH [(9, .box 77 [.box 9 0, .row 90]), (90, .row 5 1 awLn.size (bytesG awLn))])
    refine Run.go ?_; (conv => whnf); repeat' (first | ((with_reducible refine Know.mk fun _ => ?_); conv => whnf) | ((with_reducible refine Need.mk ?_ ?_); exact nd; conv => whnf) | ((with_reducible first | refine Both.mk ?_ ?_ | refine Any.mk fun b hb => ?_ | refine AskB.dec (fun hb => ?_) (fun hb => ?_) | refine AskB.ndec (fun hb => ?_) (fun hb => ?_) | refine AskB.mk (fun hb => ?_) (fun hb => ?_)) <;> conv => whnf) | ((with_reducible first | refine Run.drawX rfl (by decide +kernel) ?_ | refine Run.drawT rfl (by decide +kernel) ?_ | refine Run.drawW rfl (by decide +kernel) ?_); conv => whnf) | fail)
    all_goals try (exact absurd hb (by decide))
    refine Run.inline 900 Tryz.f32 _ 8 rfl rfl Tryz.func32 rfl (by decide) rfl (by show 1 ≤ 8; decide) rfl rfl (fun a hsz hdf => ?_)
    refine Run.go ?_; (conv => whnf); repeat' (first | ((with_reducible refine Know.mk fun _ => ?_); conv => whnf) | ((with_reducible refine Need.mk ?_ ?_); exact nd; conv => whnf) | ((with_reducible first | refine Both.mk ?_ ?_ | refine Any.mk fun b hb => ?_ | refine AskB.dec (fun hb => ?_) (fun hb => ?_) | refine AskB.ndec (fun hb => ?_) (fun hb => ?_) | refine AskB.mk (fun hb => ?_) (fun hb => ?_)) <;> conv => whnf) | ((with_reducible first | refine Run.drawX rfl (by decide +kernel) ?_ | refine Run.drawT rfl (by decide +kernel) ?_ | refine Run.drawW rfl (by decide +kernel) ?_); conv => whnf) | fail)
    refine Run.back 900 (ts := [2]) hsz hdf (.inr ⟨_, rfl⟩) (by rfl) Tryz.func32 rfl ?_
    have hlz : awLn.size = 12 := rfl
    refine Run.go ?_; (conv => whnf); repeat' (first | ((with_reducible refine Know.mk fun _ => ?_); conv => whnf) | ((with_reducible refine Need.mk ?_ ?_); exact nd; conv => whnf) | ((with_reducible first | refine Both.mk ?_ ?_ | refine Any.mk fun b hb => ?_ | refine AskB.dec (fun hb => ?_) (fun hb => ?_) | refine AskB.ndec (fun hb => ?_) (fun hb => ?_) | refine AskB.mk (fun hb => ?_) (fun hb => ?_)) <;> conv => whnf) | ((with_reducible first | refine Run.drawX rfl (by decide +kernel) ?_ | refine Run.drawT rfl (by decide +kernel) ?_ | refine Run.drawW rfl (by decide +kernel) ?_); conv => whnf) | fail)
    all_goals try (exfalso; omega)
    refine Run.bldr 77 5 9 90 (.box 9 0) awLn (MOle.refl _) (MOle.refl _) ?_
    refine bs9 (.box 9 0) _ rfl rfl rfl rfl rfl ?_
    refine Run.go ?_; (conv => whnf); repeat' (first | ((with_reducible refine Know.mk fun _ => ?_); conv => whnf) | ((with_reducible refine Need.mk ?_ ?_); exact nd; conv => whnf) | ((with_reducible first | refine Both.mk ?_ ?_ | refine Any.mk fun b hb => ?_ | refine AskB.dec (fun hb => ?_) (fun hb => ?_) | refine AskB.ndec (fun hb => ?_) (fun hb => ?_) | refine AskB.mk (fun hb => ?_) (fun hb => ?_)) <;> conv => whnf) | ((with_reducible first | refine Run.drawX rfl (by decide +kernel) ?_ | refine Run.drawT rfl (by decide +kernel) ?_ | refine Run.drawW rfl (by decide +kernel) ?_); conv => whnf) | fail)
    exact Run.leave (ts := [6,7]) (.inr ⟨_, rfl⟩) rfl Tryz.func15 rfl (resT ⟨Le.refl _, Le.refl _, trivial⟩)
end Go.Proofs.YteklnpgiloebcaaGreatDoor.V

namespace Go.Proofs.YteklnpgiloebcaaGreatDoor.V
set_option linter.unusedVariables false
set_option linter.unusedSimpArgs false
open Go Go.Proofs Go.RowKit
section
variable {C : Ctx} {env : Env} {h : Heap} {ops : Array Oper} {i : Nat} {rest : List Nat} {k : List Item} {o : Oper}
theorem Run.mkIf {t : TypeId} {x : Operand} {kd kd' : IntKind} {n : Int} (ho : ops.toList[i]? = some o) (hop : o.op = .makeInterface t x) (hx : ev env x = .int kd n) (ht : C.P.underlying t = some (.int kd')) (hd : okD C.N o.dst = true) (hr : ready env ops o = true)
    (next : Run C (.inRegion ops rest :: k) (putE env o.dst (.val (.iface t (.int kd n)))) h) : Run C (.inRegion ops (i :: rest) :: k) env h :=
  Run.opG (fun env' h' z => env' = env ∧ h' = h ∧ z = .val (.iface t (.int kd n))) ho hd hr (fun ι a w R => by
    have hv := ev_ok R x
    rw [hx] at hv
    have hv' : a.eval x = .int kd n := hv
    refine OpOut.of (s := Instr.makeInterface t (a.eval x)) (by simp [execOp, hop]) (Out.same R ⟨rfl, rfl, rfl⟩ (v := .iface t (.int kd n)) ?_ ⟨rfl, rfl⟩)
    rw [hv']
    simp [Instr.makeInterface, run_underlying ht]) (fun env' h' y ⟨e1, e2, e3⟩ => by subst e1; subst e2; subst e3; exact next)
/-- A pointer becomes one: nothing is known of it. -/
theorem Run.mkIfU {t e : TypeId} {x : Operand} (ho : ops.toList[i]? = some o) (hop : o.op = .makeInterface t x) (ht : C.P.underlying t = some (.pointer e)) (hd : okD C.N o.dst = true) (hr : ready env ops o = true)
    (next : Run C (.inRegion ops rest :: k) (putE env o.dst .u) h) : Run C (.inRegion ops (i :: rest) :: k) env h :=
  Run.opG (fun env' h' z => env' = env ∧ h' = h ∧ z = .u) ho hd hr (fun ι a w R => by
    refine OpOut.of (s := Instr.makeInterface t (a.eval x)) (by simp [execOp, hop]) (Out.same R ⟨rfl, rfl, rfl⟩ (v := .iface t (a.eval x)) ?_ trivial)
    simp [Instr.makeInterface, run_underlying ht]) (fun env' h' y ⟨e1, e2, e3⟩ => by subst e1; subst e2; subst e3; exact next)
/-- The value itself, where it is told. -/
def exV : AV → Option Value
  | .val c => some c
  | .nilif => some .nilIface
  | _ => none
theorem exV_ok {w : World} {ok : Nat → Prop} {r : Ref} {x : AV} {v c : Value} (h : exV x = some c) (hv : VR w ok x r v) : v = c := by
  cases x <;> simp [exV] at h <;> subst h <;> first | exact hv.1 | exact hv
theorem Run.binIf {op : BinOp} {t t2 : TypeId} {x y : Operand} {vx vy : Value} {b : Bool} (ho : ops.toList[i]? = some o) (hop : o.op = .binOp op t x y t2) (hx : exV (ev env x) = some vx) (hy : exV (ev env y) = some vy)
    (hrun : ∀ w, (do eqGuard op t x y vx vy; binOp op t vx vy : Sem Value).run C.P w = .ok (.bool b) w) (hd : okD C.N o.dst = true) (hr : ready env ops o = true)
    (next : Run C (.inRegion ops rest :: k) (putE env o.dst (.bool b)) h) : Run C (.inRegion ops (i :: rest) :: k) env h :=
  Run.opG (fun env' h' z => env' = env ∧ h' = h ∧ z = .bool b) ho hd hr (fun ι a w R => by
    have hvx := exV_ok hx (ev_ok R x)
    have hvy := exV_ok hy (ev_ok R y)
    refine OpOut.of (s := (do eqGuard op t x y (a.eval x) (a.eval y); binOp op t (a.eval x) (a.eval y))) (by simp [execOp, hop]) (Out.same R ⟨rfl, rfl, rfl⟩ (v := .bool b) ?_ rfl)
    rw [hvx, hvy]
    exact hrun w) (fun env' h' y ⟨e1, e2, e3⟩ => by subst e1; subst e2; subst e3; exact next)
end
theorem if_nil {P : Program} {t u : TypeId} {v : Value} {x y : Operand} (ht : P.underlying t = some (.interface (P.methodsAt t))) (w : World) : (do eqGuard .neq t x y (.iface u v) .nilIface; binOp .neq t (.iface u v) .nilIface : Sem Value).run P w = .ok (.bool true) w := by
  simp only [Sem.run_bind, eqGuard]
  simp [run_neq_held_nil w t u v ht]
theorem if_eqIn {P : Program} {t u : TypeId} {info : TypeInfo} {k kd : IntKind} {a b : Int} (ht : P.underlying t = some (.interface (P.methodsAt t))) (hu : P.underlying u = some (.int kd)) (hi : P.info? u = some info) (hc : info.comparable = true) (d : Nat) (w : World) :
    (Op.equalIn (d + 1 + 1) t (.iface u (.int k a)) (.iface u (.int k b))).run P w = .ok (a == b) w := by
  unfold Op.equalIn
  simp [run_underlying ht, typeInfo, hi, hc, run_equalIn_int w d u k kd a b hu]
theorem if_eq {P : Program} {t u : TypeId} {info : TypeInfo} {k kd : IntKind} {a b : Int} {x y : Operand} (ht : P.underlying t = some (.interface (P.methodsAt t))) (hu : P.underlying u = some (.int kd)) (hi : P.info? u = some info) (hc : info.comparable = true) (w : World) :
    (do eqGuard .eql t x y (.iface u (.int k a)) (.iface u (.int k b)); binOp .eql t (.iface u (.int k a)) (.iface u (.int k b)) : Sem Value).run P w = .ok (.bool (a == b)) w := by
  have h : (Op.equal t (.iface u (.int k a)) (.iface u (.int k b))).run P w = .ok (a == b) w := if_eqIn ht hu hi hc 9998 w
  simp only [Sem.run_bind, eqGuard, binOp]
  simp [h]
/-! ### a text copied into an own row -/
def cellsOfS (s : ByteArray) : List Value := s.data.toList.map fun b => .int .u8 (b.toNat : Int)
theorem cellsOfS_len (s : ByteArray) : (cellsOfS s).length = s.size := by simp [cellsOfS]
theorem cellsOfS_one (s : ByteArray) : ∀ v ∈ cellsOfS s, v.oneCell' = true := fun v hv => by
  obtain ⟨b, _, rfl⟩ := List.mem_map.mp hv
  rfl
theorem run_copyX {P : Program} (w : World) (dT sT ty elem : TypeId) (g dLen dCap : Nat) (s : ByteArray) (cur : Array Value) (t : TypeId)
    (hu : P.underlying dT = some (.slice elem)) (hs : (P.info? elem).map (·.size) = some 1) (hg : cellsX w g cur t) (hle : s.size ≤ dLen) (hfit : s.size ≤ cur.size) :
    (Builtin.copy_ #[dT, sT] ty #[.slice (some ⟨g, 0, none⟩) dLen dCap, .string s]).run P w =
      .ok (goInt s.size) (w.setRow g (cur.toList.take (0 + 0) ++ cellsOfS s ++ cur.toList.drop (0 + 0 + (cellsOfS s).length)).toArray) := by
  have hst := run_storeCells_atX P g 0 t (cellsOfS s) 0 cur w hg (by rw [cellsOfS_len]; omega) (cellsOfS_one s)
  have hmin : Nat.min s.size dLen = s.size := Nat.min_eq_left hle
  have htk : List.take s.size (List.map (fun b : UInt8 => Value.int IntKind.u8 (b.toNat : Int)) s.data.toList) = cellsOfS s := by
    rw [List.take_of_length_le (by simp)]
    rfl
  cases hq : P.info? elem with
  | none => simp [hq] at hs
  | some i =>
    simp [Builtin.copy_, run_underlying hu, Builtin.lenOf, Builtin.firstCells, sizeOf, typeInfo, hq, hmin]
    rw [htk, hst]
    simp [Result.andThen]
theorem Run.copyStr {C : Ctx} {env : Env} {h : Heap} {ops : Array Oper} {i : Nat} {rest : List Nat} {k : List Item} {o : Oper} {cl : Call} {x y : Operand} {dT sT e e' : TypeId} {q n : Nat} {get : Nat → Nat → AV} (s : ByteArray) (ho : ops.toList[i]? = some o) (hc : o.op = .call cl) (hcb : cl.callee = .builtin .copy) (hca : cl.args.toList = [x, y]) (hct : cl.argTypes = #[dT, sT])
    (hx : ev env x = .row q) (hy : ev env y = .str s) (hq : h q = .row e 1 n get) (hn : n = s.size) (hpos : 0 < n) (hu : C.P.underlying dT = some (.slice e')) (hz : (C.P.info? e').map (·.size) = some 1) (hd : okD C.N o.dst = true) (hr : ready env ops o = true)
    (next : Run C (.inRegion ops rest :: k) (putE env o.dst (.int .i64 (s.size : Int))) (upd h q (.row e 1 n (bytesG s)))) : Run C (.inRegion ops (i :: rest) :: k) env h :=
  Run.opG (fun env' h' z => env' = env ∧ h' = upd h q (.row e 1 n (bytesG s)) ∧ z = .int .i64 (s.size : Int)) ho hd hr (fun ι A w R => by
    have hca' := toList_two hca
    have hvx := ev_ok R x
    have hvy := ev_ok R y
    rw [hx] at hvx
    rw [hy] at hvy
    have hvx' : A.eval x = ι q 0 := hvx
    obtain ⟨hvy', hmax⟩ : A.eval y = .string s ∧ s.size ≤ maxLen := hvy
    have hobj := R.obj q
    rw [hq] at hobj
    obtain ⟨xs, hown, hone, hcells⟩ := hobj
    rcases hown.2 with ⟨hv, hn0⟩ | ⟨g, cap, cur, hv, hB, hg, hnc, hcap, hcs, htake⟩
    · omega
    have hbase := R.base q (by rw [hq]; simp) g (owns_zero (by rw [hv]; rfl))
    have hlen := cellsOfS_len s
    have hsz : (cur.toList.take (0 + 0) ++ cellsOfS s ++ cur.toList.drop (0 + 0 + (cellsOfS s).length)).toArray.size = cur.size := by
      simp; omega
    have R' := R.set q (.row e 1 n (bytesG s)) (w.setRow g (cur.toList.take (0 + 0) ++ cellsOfS s ++ cur.toList.drop (0 + 0 + (cellsOfS s).length)).toArray) (below_setRow C g _ hbase.1) (by rw [hq]; simp) (fun b hb' _ => setRow_other w g b _ (hb' g (by rw [hv]; rfl))) (by rw [hq]; exact ⟨rfl, rfl⟩) (fun r ok hr hok hwb => by
      refine ⟨cellsOfS s, ⟨by omega, .inr ⟨g, cap, _, hv, hB, hg.set hsz, hnc, hcap, by rw [hsz]; exact hcs, ?_⟩⟩, cellsOfS_one s, fun a b ha hb => ?_⟩
      · rw [List.toList_toArray, show n * 1 = (cellsOfS s).length by omega]
        simp
      · obtain rfl : b = 0 := by omega
        have ha' : a < s.data.size := by rw [hn] at ha; exact ha
        refine ⟨.int .u8 (s.data[a].toNat : Int), ?_, ?_⟩
        · unfold cellsOfS
          rw [show a * 1 + 0 = a by omega, List.getElem?_map, List.getElem?_eq_getElem (by simpa using ha')]
          simp
        · show Value.int .u8 _ = .int .u8 (bt s a)
          unfold bt
          rw [List.getD, List.getElem?_eq_getElem (by simpa using ha')]; simp)
    refine ⟨.value (.int .i64 (s.size : Int)), .int .i64 (s.size : Int), _, ι, env, _, .int .i64 (s.size : Int), ?_, .inl rfl, R', rfl, rfl, rfl, rfl⟩
    have hrun := run_copyX (P := C.P) w dT sT o.type e' g n cap s cur e hu hz hg (by omega) (by omega)
    simp only [execOp, hc, resolve, hcb, hca', hct, invoke, builtin, Act.eval]
    simp [hvx', hvy', hv, hrun, goInt]) (fun env' h' y ⟨e1, e2, e3⟩ => by subst e1; subst e2; subst e3; exact next)
end Go.Proofs.YteklnpgiloebcaaGreatDoor.V

namespace Go.Proofs.YteklnpgiloebcaaGreatDoor.V
set_option linter.unusedVariables false
set_option linter.unusedSimpArgs false
open Go Go.Proofs Go.RowKit
set_option maxRecDepth 100000
set_option maxHeartbeats 1000000
def awX : ByteArray := ⟨#[120]⟩
theorem idxA_fn : Fn Tryz.prog 62 [.str ⟨#[120, 10]⟩, .str ⟨#[10]⟩] (.int .i64 1) := index100_fn [120, 10]
theorem idxB_fn : Fn Tryz.prog 62 [.str awX, .str ⟨#[32, 93, 32]⟩] (.int .i64 (-1)) := by
  refine Fn.of Tryz.f62 _ Tryz.func62 rfl (by decide) (by show 2 ≤ _; decide) tbOk 143 rfl fun S w0 gl => ?_
  have h1 : awX.size = 1 := rfl
  have h2 : (ByteArray.mk #[32, 93, 32]).size = 3 := rfl
  refine Run.go ?_; (conv => whnf); repeat' (first | ((with_reducible refine Know.mk fun _ => ?_); conv => whnf) | ((with_reducible refine Need.mk ?_ ?_); exact nd; conv => whnf) | ((with_reducible refine Both.mk ?_ ?_) <;> conv => whnf) | ((with_reducible refine Any.mk fun b hb => ?_); conv => whnf) | ((with_reducible first | refine AskB.dec (fun hb => ?_) (fun hb => ?_) | refine AskB.ndec (fun hb => ?_) (fun hb => ?_) | refine AskB.mk (fun hb => ?_) (fun hb => ?_)) <;> first | (exfalso; omega) | (conv => whnf)) | ((with_reducible first | refine Run.drawX rfl (by decide +kernel) ?_ | refine Run.drawT rfl (by decide +kernel) ?_ | refine Run.drawW rfl (by decide +kernel) ?_); conv => whnf) | fail)
  all_goals try (exfalso; omega)
  all_goals first
    | exact absurd hb (by decide)
    | exact Run.leave (ts := [4]) (.inr ⟨_, rfl⟩) rfl Tryz.func62 rfl (Le.refl _)
theorem idxC_fn : Fn Tryz.prog 62 [.str awX, .str ⟨#[32]⟩] (.int .i64 (-1)) := by
  refine Fn.of Tryz.f62 _ Tryz.func62 rfl (by decide) (by show 2 ≤ _; decide) tbOk 143 rfl fun S w0 gl => ?_
  have h1 : awX.size = 1 := rfl
  have h2 : (ByteArray.mk #[32]).size = 1 := rfl
  refine Run.go ?_; (conv => whnf); repeat' (first | ((with_reducible refine Know.mk fun _ => ?_); conv => whnf) | ((with_reducible refine Need.mk ?_ ?_); exact nd; conv => whnf) | ((with_reducible refine Both.mk ?_ ?_) <;> conv => whnf) | ((with_reducible refine Any.mk fun b hb => ?_); conv => whnf) | ((with_reducible first | refine AskB.dec (fun hb => ?_) (fun hb => ?_) | refine AskB.ndec (fun hb => ?_) (fun hb => ?_) | refine AskB.mk (fun hb => ?_) (fun hb => ?_)) <;> first | (exfalso; omega) | (conv => whnf)) | ((with_reducible first | refine Run.drawX rfl (by decide +kernel) ?_ | refine Run.drawT rfl (by decide +kernel) ?_ | refine Run.drawW rfl (by decide +kernel) ?_); conv => whnf) | fail)
  all_goals try (exfalso; omega)
  all_goals try (exact absurd hb (by decide))
  refine Run.callBX (ib60_fn [120] _) rfl rfl ⟨Le.refl _, Le.refl _, trivial⟩ rfl rfl rfl ?_
  (conv => whnf); repeat' (first | ((with_reducible refine Know.mk fun _ => ?_); conv => whnf) | ((with_reducible refine Need.mk ?_ ?_); exact nd; conv => whnf) | ((with_reducible first | refine Both.mk ?_ ?_ | refine Any.mk fun b hb => ?_ | refine AskB.dec (fun hb => ?_) (fun hb => ?_) | refine AskB.ndec (fun hb => ?_) (fun hb => ?_) | refine AskB.mk (fun hb => ?_) (fun hb => ?_)) <;> conv => whnf) | ((with_reducible first | refine Run.drawX rfl (by decide +kernel) ?_ | refine Run.drawT rfl (by decide +kernel) ?_ | refine Run.drawW rfl (by decide +kernel) ?_); conv => whnf) | fail)
  exact Run.leave (ts := [4]) (.inr ⟨_, rfl⟩) rfl Tryz.func62 rfl (Le.int (by decide))
theorem cutSA_fn : Fn Tryz.prog 38 [.str ⟨#[120, 10]⟩, .str ⟨#[10]⟩] (tupL [.str awX, .str .empty, .tt]) := by
  refine Fn.of Tryz.f38 _ Tryz.func38 rfl (by decide) (by show 2 ≤ _; decide) tbOk 23 rfl fun S w0 gl => ?_
  have h1 : (ByteArray.mk #[120, 10]).size = 2 := rfl
  have h2 : (ByteArray.mk #[10]).size = 1 := rfl
  have hw : IntKind.i64.wrap ((1 : Int) + ((ByteArray.mk #[10]).size : Int)) = 2 := by decide
  refine Run.go ?_; (conv => whnf); repeat' (first | ((with_reducible refine Know.mk fun _ => ?_); conv => whnf) | ((with_reducible refine Need.mk ?_ ?_); exact nd; conv => whnf) | ((with_reducible first | refine Both.mk ?_ ?_ | refine Any.mk fun b hb => ?_ | refine AskB.dec (fun hb => ?_) (fun hb => ?_) | refine AskB.ndec (fun hb => ?_) (fun hb => ?_) | refine AskB.mk (fun hb => ?_) (fun hb => ?_)) <;> conv => whnf) | ((with_reducible first | refine Run.drawX rfl (by decide +kernel) ?_ | refine Run.drawT rfl (by decide +kernel) ?_ | refine Run.drawW rfl (by decide +kernel) ?_); conv => whnf) | fail)
  refine Run.callBX idxA_fn rfl rfl ⟨Le.refl _, Le.refl _, trivial⟩ rfl rfl rfl ?_
  (conv => whnf); repeat' (first | ((with_reducible refine Know.mk fun _ => ?_); conv => whnf) | ((with_reducible refine Need.mk ?_ ?_); exact nd; conv => whnf) | ((with_reducible refine Both.mk ?_ ?_) <;> conv => whnf) | ((with_reducible refine Any.mk fun b hb => ?_); conv => whnf) | ((with_reducible first | refine AskB.dec (fun hb => ?_) (fun hb => ?_) | refine AskB.ndec (fun hb => ?_) (fun hb => ?_) | refine AskB.mk (fun hb => ?_) (fun hb => ?_)) <;> first | (exfalso; omega) | (conv => whnf)) | ((with_reducible first | refine Run.drawX rfl (by decide +kernel) ?_ | refine Run.drawT rfl (by decide +kernel) ?_ | refine Run.drawW rfl (by decide +kernel) ?_); conv => whnf) | fail)
  all_goals try (exfalso; omega)
  exact Run.leave (ts := [4,5,6]) (.inr ⟨_, rfl⟩) rfl Tryz.func38 rfl (resT ⟨Le.str (by decide +kernel), Le.str (by decide +kernel), Le.refl _, trivial⟩)
theorem cutSB_fn : Fn Tryz.prog 38 [.str awX, .str ⟨#[32, 93, 32]⟩] (tupL [.str awX, .str .empty, .ff]) := by
  refine Fn.of Tryz.f38 _ Tryz.func38 rfl (by decide) (by show 2 ≤ _; decide) tbOk 23 rfl fun S w0 gl => ?_
  refine Run.go ?_; (conv => whnf); repeat' (first | ((with_reducible refine Know.mk fun _ => ?_); conv => whnf) | ((with_reducible refine Need.mk ?_ ?_); exact nd; conv => whnf) | ((with_reducible first | refine Both.mk ?_ ?_ | refine Any.mk fun b hb => ?_ | refine AskB.dec (fun hb => ?_) (fun hb => ?_) | refine AskB.ndec (fun hb => ?_) (fun hb => ?_) | refine AskB.mk (fun hb => ?_) (fun hb => ?_)) <;> conv => whnf) | ((with_reducible first | refine Run.drawX rfl (by decide +kernel) ?_ | refine Run.drawT rfl (by decide +kernel) ?_ | refine Run.drawW rfl (by decide +kernel) ?_); conv => whnf) | fail)
  refine Run.callBX idxB_fn rfl rfl ⟨Le.refl _, Le.refl _, trivial⟩ rfl rfl rfl ?_
  (conv => whnf); repeat' (first | ((with_reducible refine Know.mk fun _ => ?_); conv => whnf) | ((with_reducible refine Need.mk ?_ ?_); exact nd; conv => whnf) | ((with_reducible refine Both.mk ?_ ?_) <;> conv => whnf) | ((with_reducible refine Any.mk fun b hb => ?_); conv => whnf) | ((with_reducible first | refine AskB.dec (fun hb => ?_) (fun hb => ?_) | refine AskB.ndec (fun hb => ?_) (fun hb => ?_) | refine AskB.mk (fun hb => ?_) (fun hb => ?_)) <;> first | (exfalso; omega) | (conv => whnf)) | ((with_reducible first | refine Run.drawX rfl (by decide +kernel) ?_ | refine Run.drawT rfl (by decide +kernel) ?_ | refine Run.drawW rfl (by decide +kernel) ?_); conv => whnf) | fail)
  all_goals try (exfalso; omega)
  exact Run.leave (ts := [4,5,6]) (.inr ⟨_, rfl⟩) rfl Tryz.func38 rfl (resT ⟨Le.refl _, Le.refl _, Le.refl _, trivial⟩)
theorem cutSC_fn : Fn Tryz.prog 38 [.str awX, .str ⟨#[32]⟩] (tupL [.str awX, .str .empty, .ff]) := by
  refine Fn.of Tryz.f38 _ Tryz.func38 rfl (by decide) (by show 2 ≤ _; decide) tbOk 23 rfl fun S w0 gl => ?_
  refine Run.go ?_; (conv => whnf); repeat' (first | ((with_reducible refine Know.mk fun _ => ?_); conv => whnf) | ((with_reducible refine Need.mk ?_ ?_); exact nd; conv => whnf) | ((with_reducible first | refine Both.mk ?_ ?_ | refine Any.mk fun b hb => ?_ | refine AskB.dec (fun hb => ?_) (fun hb => ?_) | refine AskB.ndec (fun hb => ?_) (fun hb => ?_) | refine AskB.mk (fun hb => ?_) (fun hb => ?_)) <;> conv => whnf) | ((with_reducible first | refine Run.drawX rfl (by decide +kernel) ?_ | refine Run.drawT rfl (by decide +kernel) ?_ | refine Run.drawW rfl (by decide +kernel) ?_); conv => whnf) | fail)
  refine Run.callBX idxC_fn rfl rfl ⟨Le.refl _, Le.refl _, trivial⟩ rfl rfl rfl ?_
  (conv => whnf); repeat' (first | ((with_reducible refine Know.mk fun _ => ?_); conv => whnf) | ((with_reducible refine Need.mk ?_ ?_); exact nd; conv => whnf) | ((with_reducible refine Both.mk ?_ ?_) <;> conv => whnf) | ((with_reducible refine Any.mk fun b hb => ?_); conv => whnf) | ((with_reducible first | refine AskB.dec (fun hb => ?_) (fun hb => ?_) | refine AskB.ndec (fun hb => ?_) (fun hb => ?_) | refine AskB.mk (fun hb => ?_) (fun hb => ?_)) <;> first | (exfalso; omega) | (conv => whnf)) | ((with_reducible first | refine Run.drawX rfl (by decide +kernel) ?_ | refine Run.drawT rfl (by decide +kernel) ?_ | refine Run.drawW rfl (by decide +kernel) ?_); conv => whnf) | fail)
  all_goals try (exfalso; omega)
  exact Run.leave (ts := [4,5,6]) (.inr ⟨_, rfl⟩) rfl Tryz.func38 rfl (resT ⟨Le.refl _, Le.refl _, Le.refl _, trivial⟩)
theorem cut_of {s sep a b : ByteArray} {z : AV} (hz : z = .tt ∨ z = .ff) (h : Fn Tryz.prog 38 [.str s, .str sep] (tupL [.str a, .str b, z])) : Fn Tryz.prog 22 [.str s, .str sep] (tupL [.str a, .str b, z]) := by
  rcases hz with rfl | rfl
  all_goals
    refine Fn.of Tryz.f22 _ Tryz.func22 rfl (by decide) (by show 2 ≤ _; decide) tbOk 13 rfl fun S w0 gl => ?_
    refine Run.go ?_; (conv => whnf); repeat' (first | ((with_reducible refine Know.mk fun _ => ?_); conv => whnf) | ((with_reducible refine Need.mk ?_ ?_); exact nd; conv => whnf) | ((with_reducible first | refine Both.mk ?_ ?_ | refine Any.mk fun b hb => ?_ | refine AskB.dec (fun hb => ?_) (fun hb => ?_) | refine AskB.ndec (fun hb => ?_) (fun hb => ?_) | refine AskB.mk (fun hb => ?_) (fun hb => ?_)) <;> conv => whnf) | ((with_reducible first | refine Run.drawX rfl (by decide +kernel) ?_ | refine Run.drawT rfl (by decide +kernel) ?_ | refine Run.drawW rfl (by decide +kernel) ?_); conv => whnf) | fail)
    refine Run.callBX h rfl rfl ⟨Le.refl _, Le.refl _, trivial⟩ rfl rfl rfl ?_
    (conv => whnf); repeat' (first | ((with_reducible refine Know.mk fun _ => ?_); conv => whnf) | ((with_reducible refine Need.mk ?_ ?_); exact nd; conv => whnf) | ((with_reducible refine Both.mk ?_ ?_) <;> conv => whnf) | ((with_reducible refine Any.mk fun b hb => ?_); conv => whnf) | ((with_reducible first | refine AskB.dec (fun hb => ?_) (fun hb => ?_) | refine AskB.ndec (fun hb => ?_) (fun hb => ?_) | refine AskB.mk (fun hb => ?_) (fun hb => ?_)) <;> first | (exfalso; omega) | (conv => whnf)) | ((with_reducible first | refine Run.drawX rfl (by decide +kernel) ?_ | refine Run.drawT rfl (by decide +kernel) ?_ | refine Run.drawW rfl (by decide +kernel) ?_); conv => whnf) | fail)
    exact Run.leave (ts := [4,5,6]) (.inr ⟨_, rfl⟩) rfl Tryz.func22 rfl (resT ⟨Le.refl _, Le.refl _, Le.refl _, trivial⟩)
end Go.Proofs.YteklnpgiloebcaaGreatDoor.V

namespace Go.Proofs.YteklnpgiloebcaaGreatDoor.V
set_option linter.unusedVariables false
set_option linter.unusedSimpArgs false
open Go Go.RowKit
structure StatS (ops : Array Oper) (all : List Nat) : Prop where
  edge : ∀ (i : Nat) o, ops[i]? = some o → ∀ e ∈ o.after, Region.binds .any e = true → e.on < i
  look : ∀ (i : Nat) o, i < ops.size → ops[i]? = some o → ∀ s ∈ looks ops o, ∀ j, j < ops.size → dstOf ops j = some s → ∃ e ∈ o.after, Region.binds .any e = true ∧ e.on = j
  one : ∀ i j d, i < ops.size → j < ops.size → dstOf ops i = some d → dstOf ops j = some d → i = j
section
variable {C : Ctx} {ops : Array Oper}
def drawStatS (ops : Array Oper) : Bool := (List.range ops.size).all fun i => match ops.toList[i]? with
  | none => false
  | some o => (o.after.toList.all fun e => !Region.binds .any e || Nat.blt e.on i) &&
    ((looks ops o).all fun s => (List.range ops.size).all fun j => match dstOf ops j with
      | some d => !(Nat.beq d s) || (o.after.toList.any fun e => Region.binds .any e && Nat.beq e.on j)
      | none => true) &&
    ((List.range ops.size).all fun j => Nat.beq j i || match dstOf ops j, o.dst with
      | some d, some d' => !(Nat.beq d d')
      | _, _ => true)
end
end Go.Proofs.YteklnpgiloebcaaGreatDoor.V

namespace Go.Proofs.YteklnpgiloebcaaGreatDoor.V
set_option linter.unusedVariables false
set_option linter.unusedSimpArgs false
open Go Go.Proofs Go.RowKit
set_option maxRecDepth 100000
set_option maxHeartbeats 1000000
/-- What says that the syntax is wrong. -/
def awE2 : AV := .val (.iface 142 (.int .i64 2))
theorem atoiI_fn : Fn Tryz.prog 63 [.str awX] (tupL [.int .i64 0, awE2]) := by
  refine Fn.of Tryz.f63 _ Tryz.func63 rfl (by decide) (by show 1 ≤ _; decide) tbOk 77 rfl fun S w0 gl => ?_
  have h1 : awX.size = 1 := rfl
  have hbt : bt awX (Int.toNat 0) = 120 := by decide
  refine Run.go ?_; (conv => whnf); repeat' (first | ((with_reducible refine Know.mk fun _ => ?_); conv => whnf) | ((with_reducible refine Need.mk ?_ ?_); exact nd; conv => whnf) | ((with_reducible refine Both.mk ?_ ?_) <;> conv => whnf) | ((with_reducible refine Any.mk fun b hb => ?_); conv => whnf) | ((with_reducible first | refine AskB.dec (fun hb => ?_) (fun hb => ?_) | refine AskB.ndec (fun hb => ?_) (fun hb => ?_) | refine AskB.mk (fun hb => ?_) (fun hb => ?_)) <;> first | (exfalso; omega) | (conv => whnf)) | ((with_reducible first | refine Run.drawX rfl (by decide +kernel) ?_ | refine Run.drawT rfl (by decide +kernel) ?_ | refine Run.drawW rfl (by decide +kernel) ?_); conv => whnf) | fail)
  all_goals try (exfalso; omega)
  refine Run.toBytesR (d := 47) (e := 5) awX rfl rfl rfl rfl rfl rfl (by kernel_rfl) (by kernel_rfl) (by kernel_rfl) ?_
  refine Run.go ?_; (conv => whnf); repeat' (first | ((with_reducible refine Know.mk fun _ => ?_); conv => whnf) | ((with_reducible refine Need.mk ?_ ?_); exact nd; conv => whnf) | ((with_reducible first | refine Both.mk ?_ ?_ | refine Any.mk fun b hb => ?_ | refine AskB.dec (fun hb => ?_) (fun hb => ?_) | refine AskB.ndec (fun hb => ?_) (fun hb => ?_) | refine AskB.mk (fun hb => ?_) (fun hb => ?_)) <;> conv => whnf) | ((with_reducible first | refine Run.drawX rfl (by decide +kernel) ?_ | refine Run.drawT rfl (by decide +kernel) ?_ | refine Run.drawW rfl (by decide +kernel) ?_); conv => whnf) | fail)
  refine Run.loop [5, 48] (fun (i : Nat) => [(6, .int .i64 0), (47, .row 47), (49, .int .i64 (i : Int))]) (fun i => [(47, .row 5 1 awX.size (bytesG awX))]) (fun i => i = 0) (fun i => 0) 0 rfl ⟨Le.refl _, Le.refl _, Le.refl _, trivial⟩ ⟨MOle.refl _, trivial⟩ ?_
  intro i hi IH
  subst hi
  have hw0 : IntKind.u8.wrap (bt awX ((0 : Nat) : Int).toNat - 48) = 72 := by decide
  refine Run.go ?_; (conv => whnf); repeat' (first | ((with_reducible refine Know.mk fun _ => ?_); conv => whnf) | ((with_reducible refine Need.mk ?_ ?_); exact nd; conv => whnf) | ((with_reducible refine Both.mk ?_ ?_) <;> conv => whnf) | ((with_reducible refine Any.mk fun b hb => ?_); conv => whnf) | ((with_reducible first | refine AskB.dec (fun hb => ?_) (fun hb => ?_) | refine AskB.ndec (fun hb => ?_) (fun hb => ?_) | refine AskB.mk (fun hb => ?_) (fun hb => ?_)) <;> first | (exfalso; omega) | (conv => whnf)) | ((with_reducible first | refine Run.drawX rfl (by decide +kernel) ?_ | refine Run.drawT rfl (by decide +kernel) ?_ | refine Run.drawW rfl (by decide +kernel) ?_); conv => whnf) | fail)
  all_goals try (exfalso; omega)
  refine Run.mkIf (t := 142) (n := 2) rfl rfl rfl (kd' := .i64) (by kernel_rfl) rfl rfl ?_
  refine Run.go ?_; (conv => whnf); repeat' (first | ((with_reducible refine Know.mk fun _ => ?_); conv => whnf) | ((with_reducible refine Need.mk ?_ ?_); exact nd; conv => whnf) | ((with_reducible first | refine Both.mk ?_ ?_ | refine Any.mk fun b hb => ?_ | refine AskB.dec (fun hb => ?_) (fun hb => ?_) | refine AskB.ndec (fun hb => ?_) (fun hb => ?_) | refine AskB.mk (fun hb => ?_) (fun hb => ?_)) <;> conv => whnf) | ((with_reducible first | refine Run.drawX rfl (by decide +kernel) ?_ | refine Run.drawT rfl (by decide +kernel) ?_ | refine Run.drawW rfl (by decide +kernel) ?_); conv => whnf) | fail)
  exact Run.leave (ts := [2,3]) (.inr ⟨_, rfl⟩) rfl Tryz.func63 rfl (resT ⟨Le.refl _, Le.refl _, trivial⟩)
theorem clone_aw : Fn Tryz.prog 114 [.str awX] (.str awX) := by
  refine Fn.of Tryz.f114 _ Tryz.func114 rfl (by decide) (by show 1 ≤ _; decide) tbOk 18 rfl fun S w0 gl => ?_
  have h1 : awX.size = 1 := rfl
  refine Run.go ?_; (conv => whnf); repeat' (first | ((with_reducible refine Know.mk fun _ => ?_); conv => whnf) | ((with_reducible refine Need.mk ?_ ?_); exact nd; conv => whnf) | ((with_reducible refine Both.mk ?_ ?_) <;> conv => whnf) | ((with_reducible refine Any.mk fun b hb => ?_); conv => whnf) | ((with_reducible first | refine AskB.dec (fun hb => ?_) (fun hb => ?_) | refine AskB.ndec (fun hb => ?_) (fun hb => ?_) | refine AskB.mk (fun hb => ?_) (fun hb => ?_)) <;> first | (exfalso; omega) | (conv => whnf)) | ((with_reducible first | refine Run.drawX rfl (by decide +kernel) ?_ | refine Run.drawT rfl (by decide +kernel) ?_ | refine Run.drawW rfl (by decide +kernel) ?_); conv => whnf) | fail)
  all_goals try (exfalso; omega)
  refine Run.copyStr (x := .tmp 10) (y := .tmp 11) (cl := ⟨.builtin .copy, #[.tmp 10, .tmp 11], #[75, 9]⟩) (q := 9) (e' := 5) awX rfl rfl rfl rfl rfl rfl rfl rfl rfl (by decide) (by kernel_rfl) (by kernel_rfl) rfl rfl ?_
  refine Run.go ?_; (conv => whnf); repeat' (first | ((with_reducible refine Know.mk fun _ => ?_); conv => whnf) | ((with_reducible refine Need.mk ?_ ?_); exact nd; conv => whnf) | ((with_reducible refine Both.mk ?_ ?_) <;> conv => whnf) | ((with_reducible refine Any.mk fun b hb => ?_); conv => whnf) | ((with_reducible first | refine AskB.dec (fun hb => ?_) (fun hb => ?_) | refine AskB.ndec (fun hb => ?_) (fun hb => ?_) | refine AskB.mk (fun hb => ?_) (fun hb => ?_)) <;> first | (exfalso; omega) | (conv => whnf)) | ((with_reducible first | refine Run.drawX rfl (by decide +kernel) ?_ | refine Run.drawT rfl (by decide +kernel) ?_ | refine Run.drawW rfl (by decide +kernel) ?_); conv => whnf) | fail)
  refine Run.unsafeString (x := .tmp 14) (y := .tmp 16) (c := ⟨.builtin .unsafeString, #[.tmp 14, .tmp 16], #[106, 3]⟩) awX rfl rfl rfl rfl rfl rfl rfl rfl rfl (e := 5) (n := awX.size) (q := 9) (get := bytesG awX) rfl rfl (by decide) (fun _ _ => rfl) (by kernel_rfl) (by kernel_rfl) ?_
  refine Run.go ?_; (conv => whnf); repeat' (first | ((with_reducible refine Know.mk fun _ => ?_); conv => whnf) | ((with_reducible refine Need.mk ?_ ?_); exact nd; conv => whnf) | ((with_reducible first | refine Both.mk ?_ ?_ | refine Any.mk fun b hb => ?_ | refine AskB.dec (fun hb => ?_) (fun hb => ?_) | refine AskB.ndec (fun hb => ?_) (fun hb => ?_) | refine AskB.mk (fun hb => ?_) (fun hb => ?_)) <;> conv => whnf) | ((with_reducible first | refine Run.drawX rfl (by decide +kernel) ?_ | refine Run.drawT rfl (by decide +kernel) ?_ | refine Run.drawW rfl (by decide +kernel) ?_); conv => whnf) | fail)
  exact Run.leave (ts := [2]) (.inr ⟨_, rfl⟩) rfl Tryz.func114 rfl (Le.refl _)
theorem synt_aw (s : ByteArray) : Fn Tryz.prog 89 [.str s, .str awX] .u := by
  refine Fn.of Tryz.f89 _ Tryz.func89 rfl (by decide) (by show 2 ≤ _; decide) tbOk 11 rfl fun S w0 gl => ?_
  refine Run.go ?_; (conv => whnf); repeat' (first | ((with_reducible refine Know.mk fun _ => ?_); conv => whnf) | ((with_reducible refine Need.mk ?_ ?_); exact nd; conv => whnf) | ((with_reducible first | refine Both.mk ?_ ?_ | refine Any.mk fun b hb => ?_ | refine AskB.dec (fun hb => ?_) (fun hb => ?_) | refine AskB.ndec (fun hb => ?_) (fun hb => ?_) | refine AskB.mk (fun hb => ?_) (fun hb => ?_)) <;> conv => whnf) | ((with_reducible first | refine Run.drawX rfl (by decide +kernel) ?_ | refine Run.drawT rfl (by decide +kernel) ?_ | refine Run.drawW rfl (by decide +kernel) ?_); conv => whnf) | fail)
  refine CallQ.flat clone_aw rfl ⟨Le.refl _, trivial⟩ rfl ?_
  (conv => whnf); repeat' (first | ((with_reducible refine Know.mk fun _ => ?_); conv => whnf) | ((with_reducible refine Need.mk ?_ ?_); exact nd; conv => whnf) | ((with_reducible first | refine Both.mk ?_ ?_ | refine Any.mk fun b hb => ?_ | refine AskB.dec (fun hb => ?_) (fun hb => ?_) | refine AskB.ndec (fun hb => ?_) (fun hb => ?_) | refine AskB.mk (fun hb => ?_) (fun hb => ?_)) <;> conv => whnf) | ((with_reducible first | refine Run.drawX rfl (by decide +kernel) ?_ | refine Run.drawT rfl (by decide +kernel) ?_ | refine Run.drawW rfl (by decide +kernel) ?_); conv => whnf) | fail)
  exact Run.leave (ts := [4]) (.inr ⟨_, rfl⟩) rfl Tryz.func89 rfl (Le.u _)
theorem toErr_aw (s : ByteArray) : Fn Tryz.prog 64 [.str s, .str awX, .int .i64 0, .int .i64 0, awE2] .u := by
  refine Fn.of Tryz.f64 _ Tryz.func64 rfl (by decide) (by show 5 ≤ _; decide) tbOk 43 rfl fun S w0 gl => ?_
  refine Run.go ?_; (conv => whnf); repeat' (first | ((with_reducible refine Know.mk fun _ => ?_); conv => whnf) | ((with_reducible refine Need.mk ?_ ?_); exact nd; conv => whnf) | ((with_reducible first | refine Both.mk ?_ ?_ | refine Any.mk fun b hb => ?_ | refine AskB.dec (fun hb => ?_) (fun hb => ?_) | refine AskB.ndec (fun hb => ?_) (fun hb => ?_) | refine AskB.mk (fun hb => ?_) (fun hb => ?_)) <;> conv => whnf) | ((with_reducible first | refine Run.drawX rfl (by decide +kernel) ?_ | refine Run.drawT rfl (by decide +kernel) ?_ | refine Run.drawW rfl (by decide +kernel) ?_); conv => whnf) | fail)
  refine Run.mkIf (t := 142) (n := 2) rfl rfl rfl (kd' := .i64) (by kernel_rfl) rfl rfl ?_
  refine Run.binIf (b := true) (vx := .iface 142 (.int .i64 2)) (vy := .iface 142 (.int .i64 2)) rfl rfl rfl rfl (fun w => if_eq (by kernel_rfl) (kd := .i64) (by kernel_rfl) rfl (by kernel_rfl) w) rfl rfl ?_
  refine Run.go ?_; (conv => whnf); repeat' (first | ((with_reducible refine Know.mk fun _ => ?_); conv => whnf) | ((with_reducible refine Need.mk ?_ ?_); exact nd; conv => whnf) | ((with_reducible first | refine Both.mk ?_ ?_ | refine Any.mk fun b hb => ?_ | refine AskB.dec (fun hb => ?_) (fun hb => ?_) | refine AskB.ndec (fun hb => ?_) (fun hb => ?_) | refine AskB.mk (fun hb => ?_) (fun hb => ?_)) <;> conv => whnf) | ((with_reducible first | refine Run.drawX rfl (by decide +kernel) ?_ | refine Run.drawT rfl (by decide +kernel) ?_ | refine Run.drawW rfl (by decide +kernel) ?_); conv => whnf) | fail)
  all_goals try (cases hb; done)
  refine Run.callBX (synt_aw s) rfl rfl ⟨Le.refl _, Le.refl _, trivial⟩ rfl rfl rfl ?_
  (conv => whnf); repeat' (first | ((with_reducible refine Know.mk fun _ => ?_); conv => whnf) | ((with_reducible refine Need.mk ?_ ?_); exact nd; conv => whnf) | ((with_reducible first | refine Both.mk ?_ ?_ | refine Any.mk fun b hb => ?_ | refine AskB.dec (fun hb => ?_) (fun hb => ?_) | refine AskB.ndec (fun hb => ?_) (fun hb => ?_) | refine AskB.mk (fun hb => ?_) (fun hb => ?_)) <;> conv => whnf) | ((with_reducible first | refine Run.drawX rfl (by decide +kernel) ?_ | refine Run.drawT rfl (by decide +kernel) ?_ | refine Run.drawW rfl (by decide +kernel) ?_); conv => whnf) | fail)
  refine Run.mkIfU (t := 145) (e := 167) rfl rfl (by kernel_rfl) rfl rfl ?_
  refine Run.go ?_; (conv => whnf); repeat' (first | ((with_reducible refine Know.mk fun _ => ?_); conv => whnf) | ((with_reducible refine Need.mk ?_ ?_); exact nd; conv => whnf) | ((with_reducible first | refine Both.mk ?_ ?_ | refine Any.mk fun b hb => ?_ | refine AskB.dec (fun hb => ?_) (fun hb => ?_) | refine AskB.ndec (fun hb => ?_) (fun hb => ?_) | refine AskB.mk (fun hb => ?_) (fun hb => ?_)) <;> conv => whnf) | ((with_reducible first | refine Run.drawX rfl (by decide +kernel) ?_ | refine Run.drawT rfl (by decide +kernel) ?_ | refine Run.drawW rfl (by decide +kernel) ?_); conv => whnf) | fail)
  exact Run.leave (ts := [10]) (.inr ⟨_, rfl⟩) rfl Tryz.func64 rfl (Le.refl _)
theorem atoi_aw : Fn Tryz.prog 39 [.str awX] (tupL [.int .i64 0, .u]) := by
  refine Fn.of Tryz.f39 _ Tryz.func39 rfl (by decide) (by show 1 ≤ _; decide) tbOk 18 rfl fun S w0 gl => ?_
  refine Run.go ?_; (conv => whnf); repeat' (first | ((with_reducible refine Know.mk fun _ => ?_); conv => whnf) | ((with_reducible refine Need.mk ?_ ?_); exact nd; conv => whnf) | ((with_reducible first | refine Both.mk ?_ ?_ | refine Any.mk fun b hb => ?_ | refine AskB.dec (fun hb => ?_) (fun hb => ?_) | refine AskB.ndec (fun hb => ?_) (fun hb => ?_) | refine AskB.mk (fun hb => ?_) (fun hb => ?_)) <;> conv => whnf) | ((with_reducible first | refine Run.drawX rfl (by decide +kernel) ?_ | refine Run.drawT rfl (by decide +kernel) ?_ | refine Run.drawW rfl (by decide +kernel) ?_); conv => whnf) | fail)
  refine Run.callBX atoiI_fn rfl rfl ⟨Le.refl _, trivial⟩ rfl rfl rfl ?_
  (conv => whnf); repeat' (first | ((with_reducible refine Know.mk fun _ => ?_); conv => whnf) | ((with_reducible refine Need.mk ?_ ?_); exact nd; conv => whnf) | ((with_reducible first | refine Both.mk ?_ ?_ | refine Any.mk fun b hb => ?_ | refine AskB.dec (fun hb => ?_) (fun hb => ?_) | refine AskB.ndec (fun hb => ?_) (fun hb => ?_) | refine AskB.mk (fun hb => ?_) (fun hb => ?_)) <;> conv => whnf) | ((with_reducible first | refine Run.drawX rfl (by decide +kernel) ?_ | refine Run.drawT rfl (by decide +kernel) ?_ | refine Run.drawW rfl (by decide +kernel) ?_); conv => whnf) | fail)
  refine Run.binIf (b := true) (vx := .iface 142 (.int .i64 2)) (vy := .nilIface) rfl rfl rfl rfl (fun w => if_nil (by kernel_rfl) w) rfl rfl ?_
  refine Run.go ?_; (conv => whnf); repeat' (first | ((with_reducible refine Know.mk fun _ => ?_); conv => whnf) | ((with_reducible refine Need.mk ?_ ?_); exact nd; conv => whnf) | ((with_reducible first | refine Both.mk ?_ ?_ | refine Any.mk fun b hb => ?_ | refine AskB.dec (fun hb => ?_) (fun hb => ?_) | refine AskB.ndec (fun hb => ?_) (fun hb => ?_) | refine AskB.mk (fun hb => ?_) (fun hb => ?_)) <;> conv => whnf) | ((with_reducible first | refine Run.drawX rfl (by decide +kernel) ?_ | refine Run.drawT rfl (by decide +kernel) ?_ | refine Run.drawW rfl (by decide +kernel) ?_); conv => whnf) | fail)
  all_goals try (cases hb; done)
  refine Run.callBX (toErr_aw _) rfl rfl ⟨Le.refl _, Le.refl _, Le.refl _, Le.refl _, Le.refl _, trivial⟩ rfl rfl rfl ?_
  (conv => whnf); repeat' (first | ((with_reducible refine Know.mk fun _ => ?_); conv => whnf) | ((with_reducible refine Need.mk ?_ ?_); exact nd; conv => whnf) | ((with_reducible first | refine Both.mk ?_ ?_ | refine Any.mk fun b hb => ?_ | refine AskB.dec (fun hb => ?_) (fun hb => ?_) | refine AskB.ndec (fun hb => ?_) (fun hb => ?_) | refine AskB.mk (fun hb => ?_) (fun hb => ?_)) <;> conv => whnf) | ((with_reducible first | refine Run.drawX rfl (by decide +kernel) ?_ | refine Run.drawT rfl (by decide +kernel) ?_ | refine Run.drawW rfl (by decide +kernel) ?_); conv => whnf) | fail)
  exact Run.leave (ts := [2,3]) (.inr ⟨_, rfl⟩) rfl Tryz.func39 rfl (resT ⟨Le.refl _, Le.refl _, trivial⟩)
theorem unf_aw : Fn Tryz.prog 40 [.str .empty] (tupL [.agg 3 (tRd.enc ⟨false, .empty, []⟩), .tt]) := by
  refine Fn.of Tryz.f40 _ Tryz.func40 rfl (by decide) (by show 1 ≤ _; decide) tbOk 45 rfl fun S w0 gl => ?_
  refine Run.go ?_; (conv => whnf); repeat' (first | ((with_reducible refine Know.mk fun _ => ?_); conv => whnf) | ((with_reducible refine Need.mk ?_ ?_); exact nd; conv => whnf) | ((with_reducible first | refine Both.mk ?_ ?_ | refine Any.mk fun b hb => ?_ | refine AskB.dec (fun hb => ?_) (fun hb => ?_) | refine AskB.ndec (fun hb => ?_) (fun hb => ?_) | refine AskB.mk (fun hb => ?_) (fun hb => ?_)) <;> conv => whnf) | ((with_reducible first | refine Run.drawX rfl (by decide +kernel) ?_ | refine Run.drawT rfl (by decide +kernel) ?_ | refine Run.drawW rfl (by decide +kernel) ?_); conv => whnf) | fail)
  · exact absurd hb (by decide)
  refine Run.loop [2] (fun (i : Nat) => [(0, .str .empty), (4, .nils)]) (fun i => [(2, .box 62 [.ff, .str .empty, .nils])]) (fun i => i = 0) (fun i => 0) 0 rfl ⟨Le.refl _, Le.refl _, trivial⟩ ⟨MOle.refl _, trivial⟩ ?_
  intro i hi IH
  refine Run.go ?_; (conv => whnf); repeat' (first | ((with_reducible refine Know.mk fun _ => ?_); conv => whnf) | ((with_reducible refine Need.mk ?_ ?_); exact nd; conv => whnf) | ((with_reducible first | refine Both.mk ?_ ?_ | refine Any.mk fun b hb => ?_ | refine AskB.dec (fun hb => ?_) (fun hb => ?_) | refine AskB.ndec (fun hb => ?_) (fun hb => ?_) | refine AskB.mk (fun hb => ?_) (fun hb => ?_)) <;> conv => whnf) | ((with_reducible first | refine Run.drawX rfl (by decide +kernel) ?_ | refine Run.drawT rfl (by decide +kernel) ?_ | refine Run.drawW rfl (by decide +kernel) ?_); conv => whnf) | fail)
  all_goals try (exact absurd rfl hb)
  refine Run.holdNil 42 90 5 1 (bytesG .empty) rfl ?_
  refine Run.rowStr (x := .tmp 42) (src := 75) (dst := 9) (e := 5) (q := 90) .empty rfl rfl rfl rfl rfl rfl rfl (fun _ _ => rfl) (by kernel_rfl) (by kernel_rfl) (by kernel_rfl) ?_
  refine Run.go ?_; (conv => whnf); repeat' (first | ((with_reducible refine Know.mk fun _ => ?_); conv => whnf) | ((with_reducible refine Need.mk ?_ ?_); exact nd; conv => whnf) | ((with_reducible first | refine Both.mk ?_ ?_ | refine Any.mk fun b hb => ?_ | refine AskB.dec (fun hb => ?_) (fun hb => ?_) | refine AskB.ndec (fun hb => ?_) (fun hb => ?_) | refine AskB.mk (fun hb => ?_) (fun hb => ?_)) <;> conv => whnf) | ((with_reducible first | refine Run.drawX rfl (by decide +kernel) ?_ | refine Run.drawT rfl (by decide +kernel) ?_ | refine Run.drawW rfl (by decide +kernel) ?_); conv => whnf) | fail)
  exact Run.leaveC2 (.inr ⟨_, rfl⟩) rfl Tryz.func40 rfl rfl rfl (Nat.le_of_ble_eq_true rfl) (rdA_le ⟨false, .empty, []⟩ Le.ff (Le.refl _) tI.nil) (Le.refl _)
end Go.Proofs.YteklnpgiloebcaaGreatDoor.V

namespace Go.Proofs.YteklnpgiloebcaaGreatDoor.V
set_option linter.unusedVariables false
set_option linter.unusedSimpArgs false
open Go Go.Proofs Go.RowKit
set_option maxRecDepth 100000
set_option maxHeartbeats 1000000
def awN1 : List ByteArray := [⟨#[65]⟩]
theorem awN1_ok : nmOk awN1 = true := nm_ok (by decide) (by decide) (one0 ⟨by decide +kernel, fun k hk => absurd hk (Nat.not_lt_zero _)⟩)
theorem entry_aw : Fn Tryz.prog 23 [.str awX, tS.L awN1] (tupL [.agg 2 (tEn.enc ⟨0, []⟩), .ff]) := by
  refine Fn.of Tryz.f23 _ Tryz.func23 rfl (by decide) (by show 2 ≤ _; decide) tbOk 160 rfl fun S w0 gl => ?_
  refine Run.go ?_; (conv => whnf); repeat' (first | ((with_reducible refine Know.mk fun _ => ?_); conv => whnf) | ((with_reducible refine Need.mk ?_ ?_); exact nd; conv => whnf) | ((with_reducible first | refine Both.mk ?_ ?_ | refine Any.mk fun b hb => ?_ | refine AskB.dec (fun hb => ?_) (fun hb => ?_) | refine AskB.ndec (fun hb => ?_) (fun hb => ?_) | refine AskB.mk (fun hb => ?_) (fun hb => ?_)) <;> conv => whnf) | ((with_reducible first | refine Run.drawX rfl (by decide +kernel) ?_ | refine Run.drawT rfl (by decide +kernel) ?_ | refine Run.drawW rfl (by decide +kernel) ?_); conv => whnf) | fail)
  refine Run.callBX (cut_of (.inr rfl) cutSB_fn) rfl rfl ⟨Le.refl _, Le.refl _, trivial⟩ rfl rfl rfl ?_
  (conv => whnf); repeat' (first | ((with_reducible refine Know.mk fun _ => ?_); conv => whnf) | ((with_reducible refine Need.mk ?_ ?_); exact nd; conv => whnf) | ((with_reducible first | refine Both.mk ?_ ?_ | refine Any.mk fun b hb => ?_ | refine AskB.dec (fun hb => ?_) (fun hb => ?_) | refine AskB.ndec (fun hb => ?_) (fun hb => ?_) | refine AskB.mk (fun hb => ?_) (fun hb => ?_)) <;> conv => whnf) | ((with_reducible first | refine Run.drawX rfl (by decide +kernel) ?_ | refine Run.drawT rfl (by decide +kernel) ?_ | refine Run.drawW rfl (by decide +kernel) ?_); conv => whnf) | fail)
  refine Run.callBX (cut_of (.inr rfl) cutSC_fn) rfl rfl ⟨Le.refl _, Le.refl _, trivial⟩ rfl rfl rfl ?_
  (conv => whnf); repeat' (first | ((with_reducible refine Know.mk fun _ => ?_); conv => whnf) | ((with_reducible refine Need.mk ?_ ?_); exact nd; conv => whnf) | ((with_reducible first | refine Both.mk ?_ ?_ | refine Any.mk fun b hb => ?_ | refine AskB.dec (fun hb => ?_) (fun hb => ?_) | refine AskB.ndec (fun hb => ?_) (fun hb => ?_) | refine AskB.mk (fun hb => ?_) (fun hb => ?_)) <;> conv => whnf) | ((with_reducible first | refine Run.drawX rfl (by decide +kernel) ?_ | refine Run.drawT rfl (by decide +kernel) ?_ | refine Run.drawW rfl (by decide +kernel) ?_); conv => whnf) | fail)
  refine Run.callBX atoi_aw rfl rfl ⟨Le.refl _, trivial⟩ rfl rfl rfl ?_
  (conv => whnf); repeat' (first | ((with_reducible refine Know.mk fun _ => ?_); conv => whnf) | ((with_reducible refine Need.mk ?_ ?_); exact nd; conv => whnf) | ((with_reducible first | refine Both.mk ?_ ?_ | refine Any.mk fun b hb => ?_ | refine AskB.dec (fun hb => ?_) (fun hb => ?_) | refine AskB.ndec (fun hb => ?_) (fun hb => ?_) | refine AskB.mk (fun hb => ?_) (fun hb => ?_)) <;> conv => whnf) | ((with_reducible first | refine Run.drawX rfl (by decide +kernel) ?_ | refine Run.drawT rfl (by decide +kernel) ?_ | refine Run.drawW rfl (by decide +kernel) ?_); conv => whnf) | fail)
  refine Run.callBX unf_aw rfl rfl ⟨Le.refl _, trivial⟩ rfl rfl rfl ?_
  (conv => whnf); repeat' (first | ((with_reducible refine Know.mk fun _ => ?_); conv => whnf) | ((with_reducible refine Need.mk ?_ ?_); exact nd; conv => whnf) | ((with_reducible first | refine Both.mk ?_ ?_ | refine Any.mk fun b hb => ?_ | refine AskB.dec (fun hb => ?_) (fun hb => ?_) | refine AskB.ndec (fun hb => ?_) (fun hb => ?_) | refine AskB.mk (fun hb => ?_) (fun hb => ?_)) <;> conv => whnf) | ((with_reducible first | refine Run.drawX rfl (by decide +kernel) ?_ | refine Run.drawT rfl (by decide +kernel) ?_ | refine Run.drawW rfl (by decide +kernel) ?_); conv => whnf) | fail)
  exact Run.leaveC2 (.inr ⟨_, rfl⟩) rfl Tryz.func23 rfl rfl rfl (Nat.le_of_ble_eq_true rfl) (Le.agg fun j hj => by
    match j, hj with
    | 0, _ => exact Le.refl _
    | 1, _ => exact tRd.nil) (Le.refl _)
theorem parse_aw : Fn Tryz.prog 9 [.str ⟨#[120, 10]⟩, tS.L awN1, .int .i64 1] (tupL [tEn.L [], .int .i64 0, .int .i64 170]) := by
  refine Fn.of Tryz.f9 _ Tryz.func9 rfl (by decide) (by show 3 ≤ _; decide) tbOk 73 rfl fun S w0 gl => ?_
  have hz : (ByteArray.mk #[120, 10]).size = 2 := rfl
  refine Run.go ?_; (conv => whnf); repeat' (first | ((with_reducible refine Know.mk fun _ => ?_); conv => whnf) | ((with_reducible refine Need.mk ?_ ?_); exact nd; conv => whnf) | ((with_reducible first | refine Both.mk ?_ ?_ | refine Any.mk fun b hb => ?_ | refine AskB.dec (fun hb => ?_) (fun hb => ?_) | refine AskB.ndec (fun hb => ?_) (fun hb => ?_) | refine AskB.mk (fun hb => ?_) (fun hb => ?_)) <;> conv => whnf) | ((with_reducible first | refine Run.drawX rfl (by decide +kernel) ?_ | refine Run.drawT rfl (by decide +kernel) ?_ | refine Run.drawW rfl (by decide +kernel) ?_); conv => whnf) | fail)
  refine Run.callBX (named17_fn awN1 (by decide) (fun s hs => ?_)) rfl rfl ⟨Le.refl _, trivial⟩ rfl rfl rfl ?_
  · simp only [awN1, List.mem_cons, List.not_mem_nil, or_false] at hs
    rcases hs with rfl
    decide
  rw [awN1_ok]
  (conv => whnf); repeat' (first | ((with_reducible refine Know.mk fun _ => ?_); conv => whnf) | ((with_reducible refine Need.mk ?_ ?_); exact nd; conv => whnf) | ((with_reducible refine Both.mk ?_ ?_) <;> conv => whnf) | ((with_reducible refine Any.mk fun b hb => ?_); conv => whnf) | ((with_reducible first | refine AskB.dec (fun hb => ?_) (fun hb => ?_) | refine AskB.ndec (fun hb => ?_) (fun hb => ?_) | refine AskB.mk (fun hb => ?_) (fun hb => ?_)) <;> first | (exfalso; omega) | (conv => whnf)) | ((with_reducible first | refine Run.drawX rfl (by decide +kernel) ?_ | refine Run.drawT rfl (by decide +kernel) ?_ | refine Run.drawW rfl (by decide +kernel) ?_); conv => whnf) | fail)
  all_goals try (exfalso; omega)
  all_goals try (cases hb; done)
  refine Run.loop [1, 2] (fun (i : Nat) => [(0, .str ⟨#[120, 10]⟩), (9, .nils), (10, .int .i64 (-1))]) (fun i => []) (fun i => i = 0) (fun i => 0) 0 rfl ⟨Le.refl _, Le.refl _, Le.refl _, trivial⟩ trivial ?_
  intro i hi IH
  refine Run.go ?_; (conv => whnf); repeat' (first | ((with_reducible refine Know.mk fun _ => ?_); conv => whnf) | ((with_reducible refine Need.mk ?_ ?_); exact nd; conv => whnf) | ((with_reducible first | refine Both.mk ?_ ?_ | refine Any.mk fun b hb => ?_ | refine AskB.dec (fun hb => ?_) (fun hb => ?_) | refine AskB.ndec (fun hb => ?_) (fun hb => ?_) | refine AskB.mk (fun hb => ?_) (fun hb => ?_)) <;> conv => whnf) | ((with_reducible first | refine Run.drawX rfl (by decide +kernel) ?_ | refine Run.drawT rfl (by decide +kernel) ?_ | refine Run.drawW rfl (by decide +kernel) ?_); conv => whnf) | fail)
  all_goals try (exact absurd hb (by decide))
  refine Run.callBX (cut_of (.inl rfl) cutSA_fn) rfl rfl ⟨Le.refl _, Le.refl _, trivial⟩ rfl rfl rfl ?_
  (conv => whnf); repeat' (first | ((with_reducible refine Know.mk fun _ => ?_); conv => whnf) | ((with_reducible refine Need.mk ?_ ?_); exact nd; conv => whnf) | ((with_reducible first | refine Both.mk ?_ ?_ | refine Any.mk fun b hb => ?_ | refine AskB.dec (fun hb => ?_) (fun hb => ?_) | refine AskB.ndec (fun hb => ?_) (fun hb => ?_) | refine AskB.mk (fun hb => ?_) (fun hb => ?_)) <;> conv => whnf) | ((with_reducible first | refine Run.drawX rfl (by decide +kernel) ?_ | refine Run.drawT rfl (by decide +kernel) ?_ | refine Run.drawW rfl (by decide +kernel) ?_); conv => whnf) | fail)
  refine Run.callBX entry_aw rfl rfl ⟨Le.refl _, Le.refl _, trivial⟩ rfl rfl rfl ?_
  (conv => whnf); repeat' (first | ((with_reducible refine Know.mk fun _ => ?_); conv => whnf) | ((with_reducible refine Need.mk ?_ ?_); exact nd; conv => whnf) | ((with_reducible first | refine Both.mk ?_ ?_ | refine Any.mk fun b hb => ?_ | refine AskB.dec (fun hb => ?_) (fun hb => ?_) | refine AskB.ndec (fun hb => ?_) (fun hb => ?_) | refine AskB.mk (fun hb => ?_) (fun hb => ?_)) <;> conv => whnf) | ((with_reducible first | refine Run.drawX rfl (by decide +kernel) ?_ | refine Run.drawT rfl (by decide +kernel) ?_ | refine Run.drawW rfl (by decide +kernel) ?_); conv => whnf) | fail)
  exact Run.leave (ts := [6,7,8]) (.inr ⟨_, rfl⟩) rfl Tryz.func9 rfl (resT ⟨tEn.nil, Le.refl _, Le.refl _, trivial⟩)
theorem awake17_fn : Fn Tryz.prog 8 [] .tt := by
  refine Fn.of Tryz.f8 _ Tryz.func8 rfl (by decide) (by show 0 ≤ _; decide) tbOk 38 rfl fun S w0 gl => ?_
  refine Run.go ?_; (conv => whnf); repeat' (first | ((with_reducible refine Know.mk fun _ => ?_); conv => whnf) | ((with_reducible refine Need.mk ?_ ?_); exact nd; conv => whnf) | ((with_reducible first | refine Both.mk ?_ ?_ | refine Any.mk fun b hb => ?_ | refine AskB.dec (fun hb => ?_) (fun hb => ?_) | refine AskB.ndec (fun hb => ?_) (fun hb => ?_) | refine AskB.mk (fun hb => ?_) (fun hb => ?_)) <;> conv => whnf) | ((with_reducible first | refine Run.drawX rfl (by decide +kernel) ?_ | refine Run.drawT rfl (by decide +kernel) ?_ | refine Run.drawW rfl (by decide +kernel) ?_); conv => whnf) | fail)
  refine Run.freeze 7 (by rfl) ?_
  refine Run.freeze 9 (by rfl) ?_
  refine Run.go ?_; (conv => whnf); repeat' (first | ((with_reducible refine Know.mk fun _ => ?_); conv => whnf) | ((with_reducible refine Need.mk ?_ ?_); exact nd; conv => whnf) | ((with_reducible first | refine Both.mk ?_ ?_ | refine Any.mk fun b hb => ?_ | refine AskB.dec (fun hb => ?_) (fun hb => ?_) | refine AskB.ndec (fun hb => ?_) (fun hb => ?_) | refine AskB.mk (fun hb => ?_) (fun hb => ?_)) <;> conv => whnf) | ((with_reducible first | refine Run.drawX rfl (by decide +kernel) ?_ | refine Run.drawT rfl (by decide +kernel) ?_ | refine Run.drawW rfl (by decide +kernel) ?_); conv => whnf) | fail)
  refine Run.freeze 11 (by rfl) ?_
  refine Run.go ?_; (conv => whnf); repeat' (first | ((with_reducible refine Know.mk fun _ => ?_); conv => whnf) | ((with_reducible refine Need.mk ?_ ?_); exact nd; conv => whnf) | ((with_reducible first | refine Both.mk ?_ ?_ | refine Any.mk fun b hb => ?_ | refine AskB.dec (fun hb => ?_) (fun hb => ?_) | refine AskB.ndec (fun hb => ?_) (fun hb => ?_) | refine AskB.mk (fun hb => ?_) (fun hb => ?_)) <;> conv => whnf) | ((with_reducible first | refine Run.drawX rfl (by decide +kernel) ?_ | refine Run.drawT rfl (by decide +kernel) ?_ | refine Run.drawW rfl (by decide +kernel) ?_); conv => whnf) | fail)
  refine Run.callAX print_aw rfl rfl ⟨?_, ?_, Le.refl _, trivial⟩ rfl rfl rfl ?_
  · refine Le.sl fun i j hi hj => ?_
    match i, hi, j, hj with
    | 0, _, 0, _ => exact Le.refl _
    | 0, _, 1, _ =>
      refine Le.sl fun i j hi hj => ?_
      match i, hi, j, hj with
      | 0, _, 0, _ => exact Le.refl _
      | 0, _, 1, _ => exact Le.refl _
      | 0, _, 2, _ =>
        refine Le.sl fun i j hi hj => ?_
        match i, hi, j, hj with
        | 0, _, 0, _ => exact Le.refl _
      | 1, _, 0, _ => exact Le.refl _
      | 1, _, 1, _ => exact Le.refl _
      | 1, _, 2, _ =>
        refine Le.sl fun i j hi hj => ?_
        match i, hi, j, hj with
        | 0, _, 0, _ => exact Le.refl _
        | 1, _, 0, _ => exact Le.refl _
  · refine Le.sl fun i j hi hj => ?_
    match i, hi, j, hj with
    | 0, _, 0, _ => exact Le.refl _
    | 1, _, 0, _ => exact Le.refl _
    | 2, _, 0, _ => exact Le.refl _
  (conv => whnf); repeat' (first | ((with_reducible refine Know.mk fun _ => ?_); conv => whnf) | ((with_reducible refine Need.mk ?_ ?_); exact nd; conv => whnf) | ((with_reducible first | refine Both.mk ?_ ?_ | refine Any.mk fun b hb => ?_ | refine AskB.dec (fun hb => ?_) (fun hb => ?_) | refine AskB.ndec (fun hb => ?_) (fun hb => ?_) | refine AskB.mk (fun hb => ?_) (fun hb => ?_)) <;> conv => whnf) | ((with_reducible first | refine Run.drawX rfl (by decide +kernel) ?_ | refine Run.drawT rfl (by decide +kernel) ?_ | refine Run.drawW rfl (by decide +kernel) ?_); conv => whnf) | fail)
  refine Run.freeze 19 (by rfl) ?_
  refine Run.go ?_; (conv => whnf); repeat' (first | ((with_reducible refine Know.mk fun _ => ?_); conv => whnf) | ((with_reducible refine Need.mk ?_ ?_); exact nd; conv => whnf) | ((with_reducible first | refine Both.mk ?_ ?_ | refine Any.mk fun b hb => ?_ | refine AskB.dec (fun hb => ?_) (fun hb => ?_) | refine AskB.ndec (fun hb => ?_) (fun hb => ?_) | refine AskB.mk (fun hb => ?_) (fun hb => ?_)) <;> conv => whnf) | ((with_reducible first | refine Run.drawX rfl (by decide +kernel) ?_ | refine Run.drawT rfl (by decide +kernel) ?_ | refine Run.drawW rfl (by decide +kernel) ?_); conv => whnf) | fail)
  refine Run.callBX parse_aw rfl rfl ⟨Le.refl _, ?_, Le.refl _, trivial⟩ rfl rfl rfl ?_
  · refine Le.sl fun i j hi hj => ?_
    match i, hi, j, hj with
    | 0, _, 0, _ => exact Le.refl _
  (conv => whnf); repeat' (first | ((with_reducible refine Know.mk fun _ => ?_); conv => whnf) | ((with_reducible refine Need.mk ?_ ?_); exact nd; conv => whnf) | ((with_reducible first | refine Both.mk ?_ ?_ | refine Any.mk fun b hb => ?_ | refine AskB.dec (fun hb => ?_) (fun hb => ?_) | refine AskB.ndec (fun hb => ?_) (fun hb => ?_) | refine AskB.mk (fun hb => ?_) (fun hb => ?_)) <;> conv => whnf) | ((with_reducible first | refine Run.drawX rfl (by decide +kernel) ?_ | refine Run.drawT rfl (by decide +kernel) ?_ | refine Run.drawW rfl (by decide +kernel) ?_); conv => whnf) | fail)
  all_goals first
    | exact absurd rfl hb
    | exact Run.leave (ts := [0]) (.inr ⟨_, rfl⟩) rfl Tryz.func8 rfl (Le.tt' (by decide))
end Go.Proofs.YteklnpgiloebcaaGreatDoor.V

namespace Go.Proofs.YteklnpgiloebcaaGreatDoor.V
set_option linter.unusedVariables false
set_option linter.unusedSimpArgs false
open Go

/-- One thing that a reading says: of a witness, at a column, a text; whether there is one. -/
structure Sayn where
  w : Int
  c : Nat
  t : ByteArray
  h : Bool
def sayR (c : Nat) (r : Rd) : List Sayn := r.wits.map fun w => ⟨w, c, r.text, !r.none⟩
def sayE (e : En) : List Sayn := e.rds.flatMap (sayR e.col.toNat)
def says (es : List En) : List Sayn := es.flatMap sayE
end Go.Proofs.YteklnpgiloebcaaGreatDoor.V

namespace Go.Proofs.YteklnpgiloebcaaGreatDoor.V
set_option linter.unusedVariables false
set_option linter.unusedSimpArgs false
open Go Go.Proofs Go.RowKit
set_option maxRecDepth 100000
set_option maxHeartbeats 2000000
open Go Go.Proofs Go.Proofs.YteklnpgiloebcaaGreatDoor.V
theorem wrong37_fn (o : Int) : Fn Tryz.prog 80 [.int .i64 o] (.bool (decide (o < 0 ∨ 31 < o))) := by
  refine Fn.of Tryz.f80 _ Tryz.func80 rfl (by decide) (by show 1 ≤ _; decide) tbOk 9 rfl fun S w0 gl => ?_
  refine Run.go ?_; (conv => whnf); repeat' (first | ((with_reducible refine Know.mk fun _ => ?_); conv => whnf) | ((with_reducible refine Need.mk ?_ ?_); exact nd; conv => whnf) | ((with_reducible first | refine Both.mk ?_ ?_ | refine Any.mk fun b hb => ?_ | refine AskB.dec (fun hb => ?_) (fun hb => ?_) | refine AskB.ndec (fun hb => ?_) (fun hb => ?_) | refine AskB.mk (fun hb => ?_) (fun hb => ?_)) <;> conv => whnf) | ((with_reducible first | refine Run.drawX rfl (by decide +kernel) ?_ | refine Run.drawT rfl (by decide +kernel) ?_ | refine Run.drawW rfl (by decide +kernel) ?_); conv => whnf) | fail)
  · exact Run.leave (ts := [2]) (.inr ⟨_, rfl⟩) rfl Tryz.func80 rfl (Le.tt.trans (Le.bool (decide_eq_true (.inl hb)).symm))
  · refine Run.leave (ts := [2]) (.inr ⟨_, rfl⟩) rfl Tryz.func80 rfl (Le.bool ?_)
    by_cases h : 31 < o
    · rw [decide_eq_true h, decide_eq_true (.inr h)]
    · rw [decide_eq_false h, decide_eq_false (fun h2 => h2.elim hb h)]
def letterV (r : Int) : Int := if r = 118 ∨ r = 86 ∨ r = 106 ∨ r = 74 then r - 1 else r
theorem letter55_fn (r : Int) : Fn Tryz.prog 107 [.int .i32 r] (.int .i32 (letterV r)) := by
  refine Fn.of Tryz.f107 _ Tryz.func107 rfl (by decide) (by show 1 ≤ _; decide) tbOk 12 rfl fun S w0 gl => ?_
  have hw : r = 118 ∨ r = 86 ∨ r = 106 ∨ r = 74 → IntKind.i32.wrap (r - 1) = letterV r := fun h => by
    unfold letterV
    rw [if_pos h]
    exact wrap32 (by omega) (by omega)
  refine Run.go ?_; (conv => whnf); repeat' (first | ((with_reducible refine Know.mk fun _ => ?_); conv => whnf) | ((with_reducible refine Need.mk ?_ ?_); exact nd; conv => whnf) | ((with_reducible first | refine Both.mk ?_ ?_ | refine Any.mk fun b hb => ?_ | refine AskB.dec (fun hb => ?_) (fun hb => ?_) | refine AskB.ndec (fun hb => ?_) (fun hb => ?_) | refine AskB.mk (fun hb => ?_) (fun hb => ?_)) <;> conv => whnf) | ((with_reducible first | refine Run.drawX rfl (by decide +kernel) ?_ | refine Run.drawT rfl (by decide +kernel) ?_ | refine Run.drawW rfl (by decide +kernel) ?_); conv => whnf) | fail)
  iterate 4 (· exact Run.leave (ts := [2]) (.inr ⟨_, rfl⟩) rfl Tryz.func107 rfl (Le.int (hw (by omega))))
  · refine Run.leave (ts := [2]) (.inr ⟨_, rfl⟩) rfl Tryz.func107 rfl (Le.int ?_)
    unfold letterV
    rw [if_neg (by omega)]
theorem ofInt_nat (n : Nat) (h : n < 4294967296) : (BitVec.ofInt IntKind.i32.bits (n : Int)).toNat = n := by
  show (BitVec.ofInt 32 (n : Int)).toNat = n
  rw [BitVec.toNat_ofInt]
  omega
theorem and1_i32 (r : Int) (h1 : 0 ≤ r) (h2 : r < 2147483648) : IntKind.i32.wrap ↑(BitVec.ofInt IntKind.i32.bits r &&& BitVec.ofInt IntKind.i32.bits 1).toNat = r % 2 := by
  obtain ⟨n, rfl⟩ : ∃ n : Nat, r = (n : Int) := ⟨r.toNat, by omega⟩
  have e : (BitVec.ofInt IntKind.i32.bits (n : Int) &&& BitVec.ofInt IntKind.i32.bits 1).toNat = n % 2 := by
    rw [BitVec.toNat_and, ofInt_nat n (by omega), show (BitVec.ofInt IntKind.i32.bits 1).toNat = 1 from rfl, Nat.and_one_is_mod]
  rw [e]
  rw [wrap32 (by omega) (by omega)]; omega
theorem or1_i32 (r : Int) (h1 : 0 ≤ r) (h2 : r < 2147483647) : IntKind.i32.wrap ↑(BitVec.ofInt IntKind.i32.bits r ||| BitVec.ofInt IntKind.i32.bits 1).toNat = r + 1 - r % 2 := by
  obtain ⟨n, rfl⟩ : ∃ n : Nat, r = (n : Int) := ⟨r.toNat, by omega⟩
  have hor : ∀ m : Nat, m % 2 = 0 → m ||| 1 = m + 1 := fun m hm => by
    have := Nat.two_pow_add_eq_or_of_lt (i := 1) (b := 1) (by decide) (m / 2)
    have e1 : 2 ^ 1 * (m / 2) = m := by omega
    rw [e1] at this
    exact this.symm
  have e : (BitVec.ofInt IntKind.i32.bits (n : Int) ||| BitVec.ofInt IntKind.i32.bits 1).toNat = n + 1 - n % 2 := by
    rw [BitVec.toNat_or, ofInt_nat n (by omega), show (BitVec.ofInt IntKind.i32.bits 1).toNat = 1 from rfl]
    rcases Nat.mod_two_eq_zero_or_one n with h | h
    · rw [hor n h]; omega
    · have h3 := hor (n - 1) (by omega)
      have h4 : n - 1 + 1 = n := by omega
      rw [h4] at h3
      rw [← h3, Nat.or_assoc, Nat.or_self, h3]; omega
  rw [e]
  rw [wrap32 (by omega) (by omega)]; omega
/-- A rune's small form. -/
def lowV (r : Int) : Int :=
  if (65 ≤ r ∧ r ≤ 90) ∨ (192 ≤ r ∧ r ≤ 222 ∧ r ≠ 215) ∨ (913 ≤ r ∧ r ≤ 937 ∧ r ≠ 930) ∨ (1040 ≤ r ∧ r ≤ 1071) then r + 32
  else if 1024 ≤ r ∧ r < 1040 then r + 80
  else if r = 376 then 255 else if r = 962 then 963
  else if (313 ≤ r ∧ r ≤ 328) ∨ (377 ≤ r ∧ r ≤ 382) then r + r % 2
  else if (256 ≤ r ∧ r ≤ 311) ∨ (330 ≤ r ∧ r ≤ 375) ∨ (7680 ≤ r ∧ r ≤ 7829) then r + 1 - r % 2
  else r
theorem lower53_fn (r : Int) : Fn Tryz.prog 105 [.int .i32 r] (.int .i32 (lowV r)) := by
  have ha : 0 ≤ r → r < 7830 → IntKind.i32.wrap ↑(BitVec.ofInt IntKind.i32.bits r &&& BitVec.ofInt IntKind.i32.bits 1).toNat = r % 2 ∧ IntKind.i32.wrap ↑(BitVec.ofInt IntKind.i32.bits r ||| BitVec.ofInt IntKind.i32.bits 1).toNat = r + 1 - r % 2 := fun h1 h2 => ⟨and1_i32 r h1 (by omega), or1_i32 r h1 (by omega)⟩
  have h32 : ∀ x : Int, -1000000 ≤ x → x ≤ 1000000 → IntKind.i32.wrap x = x := fun x h1 h2 => wrap32 (by omega) (by omega)
  refine Fn.of Tryz.f105 _ Tryz.func105 rfl (by decide) (by show 1 ≤ _; decide) tbOk 92 rfl fun S w0 gl => ?_
  refine Run.go ?_; (conv => whnf); repeat' (first | ((with_reducible refine Know.mk fun _ => ?_); conv => whnf) | ((with_reducible refine Need.mk ?_ ?_); exact nd; conv => whnf) | ((with_reducible refine Both.mk ?_ ?_) <;> conv => whnf) | ((with_reducible refine Any.mk fun b hb => ?_); conv => whnf) | ((with_reducible first | refine AskB.dec (fun hb => ?_) (fun hb => ?_) | refine AskB.ndec (fun hb => ?_) (fun hb => ?_) | refine AskB.mk (fun hb => ?_) (fun hb => ?_)) <;> first | (exfalso; omega) | (conv => whnf)) | ((with_reducible first | refine Run.drawX rfl (by decide +kernel) ?_ | refine Run.drawT rfl (by decide +kernel) ?_ | refine Run.drawW rfl (by decide +kernel) ?_); conv => whnf) | fail)
  all_goals refine Run.leave (ts := [2]) (.inr ⟨_, rfl⟩) rfl Tryz.func105 rfl (Le.int ?_)
  all_goals unfold lowV
  all_goals first
    | (rw [if_pos (by omega)]; exact h32 _ (by omega) (by omega))
    | (rw [if_neg (by omega), if_pos (by omega)]; exact h32 _ (by omega) (by omega))
    | (rw [if_neg (by omega), if_neg (by omega), if_pos (by omega)])
    | (rw [if_neg (by omega), if_neg (by omega), if_neg (by omega), if_pos (by omega)])
    | (rw [if_neg (by omega), if_neg (by omega), if_neg (by omega), if_neg (by omega), if_pos (by omega), (ha (by omega) (by omega)).1]; exact h32 _ (by omega) (by omega))
    | (rw [if_neg (by omega), if_neg (by omega), if_neg (by omega), if_neg (by omega), if_neg (by omega), if_pos (by omega), (ha (by omega) (by omega)).2])
    | (rw [if_neg (by omega), if_neg (by omega), if_neg (by omega), if_neg (by omega), if_neg (by omega), if_neg (by omega)])
end Go.Proofs.YteklnpgiloebcaaGreatDoor.V

namespace Go.Proofs.YteklnpgiloebcaaGreatDoor.V
set_option linter.unusedVariables false
set_option linter.unusedSimpArgs false
open Go Go.Proofs Go.RowKit
set_option maxRecDepth 100000
set_option maxHeartbeats 2000000
open Go Go.Proofs Go.Proofs.YteklnpgiloebcaaGreatDoor.V
/-- What C0 to FF are without their marks: the program's text, where its runes stand, which they are. -/
def latB : ByteArray := ⟨#[65, 65, 65, 65, 65, 65, 195, 134, 67, 69, 69, 69, 69, 73, 73, 73, 73, 195, 144, 78, 79, 79, 79, 79, 79, 195, 151, 79, 85, 85, 85, 85, 89, 195, 158, 195, 159, 97, 97, 97, 97, 97, 97, 195, 166, 99, 101, 101, 101, 101, 105, 105, 105, 105, 195, 176, 110, 111, 111, 111, 111, 111, 195, 183, 111, 117, 117, 117, 117, 121, 195, 190, 121]⟩
def latP : List Nat := [0, 1, 2, 3, 4, 5, 6, 8, 9, 10, 11, 12, 13, 14, 15, 16, 17, 19, 20, 21, 22, 23, 24, 25, 27, 28, 29, 30, 31, 32, 33, 35, 37, 38, 39, 40, 41, 42, 43, 45, 46, 47, 48, 49, 50, 51, 52, 53, 54, 56, 57, 58, 59, 60, 61, 62, 64, 65, 66, 67, 68, 69, 70, 72, 73]
def latR : List Nat := [65, 65, 65, 65, 65, 65, 198, 67, 69, 69, 69, 69, 73, 73, 73, 73, 208, 78, 79, 79, 79, 79, 79, 215, 79, 85, 85, 85, 85, 89, 222, 223, 97, 97, 97, 97, 97, 97, 230, 99, 101, 101, 101, 101, 105, 105, 105, 105, 240, 110, 111, 111, 111, 111, 111, 247, 111, 117, 117, 117, 117, 121, 254, 121]
theorem lat_dec : ∀ k : Fin 64, Utf8.decode latB (latP.getD k.val 0) = (latR.getD k.val 0, latP.getD (k.val + 1) 0 - latP.getD k.val 0) ∧ latP.getD k.val 0 < latP.getD (k.val + 1) 0 ∧ latP.getD k.val 0 < 73 := by decide +kernel
/-- A rune without its mark. -/
def bareV (r : Int) : Int := if r < 192 ∨ 255 < r then r else latR.getD (r - 192).toNat 0
theorem unmarked54_fn (r : Int) : Fn Tryz.prog 106 [.int .i32 r] (.int .i32 (bareV r)) := by
  refine Fn.of Tryz.f106 _ Tryz.func106 rfl (by decide) (by show 1 ≤ _; decide) tbOk 24 rfl fun S w0 gl => ?_
  refine Run.go ?_; (conv => whnf); repeat' (first | ((with_reducible refine Know.mk fun _ => ?_); conv => whnf) | ((with_reducible refine Need.mk ?_ ?_); exact nd; conv => whnf) | ((with_reducible first | refine Both.mk ?_ ?_ | refine Any.mk fun b hb => ?_ | refine AskB.dec (fun hb => ?_) (fun hb => ?_) | refine AskB.ndec (fun hb => ?_) (fun hb => ?_) | refine AskB.mk (fun hb => ?_) (fun hb => ?_)) <;> conv => whnf) | ((with_reducible first | refine Run.drawX rfl (by decide +kernel) ?_ | refine Run.drawT rfl (by decide +kernel) ?_ | refine Run.drawW rfl (by decide +kernel) ?_); conv => whnf) | fail)
  · exact Run.leave (ts := [2]) (.inr ⟨_, rfl⟩) rfl Tryz.func106 rfl (Le.int (by unfold bareV; rw [if_pos (.inl hb)]))
  · exact Run.leave (ts := [2]) (.inr ⟨_, rfl⟩) rfl Tryz.func106 rfl (Le.int (by unfold bareV; rw [if_pos (.inr hb)]))
  rename_i hb1
  refine Run.loop [0, 13] (fun (k : Nat) => [(3, .int .i32 (192 + (k : Int)))]) (fun k => [(13, .iter latB (latP.getD k 0))]) (fun k => k ≤ 63 ∧ 192 + (k : Int) ≤ r) (fun k => 64 - k) 0 ⟨by omega, by omega⟩ ⟨Le.refl _, trivial⟩ ⟨MOle.refl _, trivial⟩ ?_
  intro k ⟨hk, hkr⟩ IH
  obtain ⟨hd, hlt, h73⟩ := lat_dec ⟨k, by omega⟩
  simp only at hd hlt h73
  show Run _ _ (lst (_ ++ [(3, .int .i32 (192 + (k : Int)))])) (lstH [(13, .iter latB (latP.getD k 0))])
  refine Run.go ?_; (conv => whnf); repeat' (first | ((with_reducible refine Know.mk fun _ => ?_); conv => whnf) | ((with_reducible refine Need.mk ?_ ?_); exact nd; conv => whnf) | ((with_reducible first | refine Both.mk ?_ ?_ | refine Any.mk fun b hb => ?_ | refine AskB.dec (fun hb => ?_) (fun hb => ?_) | refine AskB.ndec (fun hb => ?_) (fun hb => ?_) | refine AskB.mk (fun hb => ?_) (fun hb => ?_)) <;> conv => whnf) | ((with_reducible first | refine Run.drawX rfl (by decide +kernel) ?_ | refine Run.drawT rfl (by decide +kernel) ?_ | refine Run.drawW rfl (by decide +kernel) ?_); conv => whnf) | fail)
  · refine Run.leave (ts := [2]) (.inr ⟨_, rfl⟩) rfl Tryz.func106 rfl (Le.int ?_)
    unfold bareV
    rw [if_neg (by omega), hd, show (r - 192).toNat = k by omega]
  · refine Run.to _ _ ?_ ?_ (IH (k + 1) (by omega) ⟨by omega, by omega⟩)
    · exact ⟨Le.refl _, Le.refl _, Le.int (by rw [wrap32 (by omega) (by omega)]; omega), trivial⟩
    · refine ⟨?_, trivial⟩
      rw [hd, show latP.getD k 0 + (latP.getD (k + 1) 0 - latP.getD k 0) = latP.getD (k + 1) 0 by omega]
      exact MOle.refl _
  · exact absurd h73 hb
end Go.Proofs.YteklnpgiloebcaaGreatDoor.V

namespace Go.Proofs.YteklnpgiloebcaaGreatDoor.V
set_option linter.unusedVariables false
set_option linter.unusedSimpArgs false
open Go Go.Proofs Go.RowKit
set_option maxRecDepth 100000
set_option maxHeartbeats 4000000
open Go Go.Proofs Go.Proofs.YteklnpgiloebcaaGreatDoor.V
def ffB : ByteArray := ⟨#[102, 102, 32, 102, 105, 32, 102, 108, 32, 102, 102, 105, 32, 102, 102, 108, 32, 115, 116, 32, 115, 116]⟩
def ffL : List ByteArray := [⟨#[102, 102]⟩, ⟨#[102, 105]⟩, ⟨#[102, 108]⟩, ⟨#[102, 102, 105]⟩, ⟨#[102, 102, 108]⟩, ⟨#[115, 116]⟩, ⟨#[115, 116]⟩]
def ffN : List Nat := [0, 1, 1, 1, 2, 2, 2, 3, 3, 3, 4, 4, 4, 4, 5, 5, 5, 5, 6, 6, 6, 7, 7]
def ffW : List Nat := [1, 0, 0, 1, 0, 0, 1, 0, 0, 1, 0, 0, 0, 1, 0, 0, 0, 1, 0, 0, 1, 0, 0]
def ffS : List Nat := [0, 102, 102, 102, 102, 111, 111, 111, 111, 111, 111, 111, 111, 111, 111, 111, 111, 111, 127, 127, 127, 127, 127]
def ffA : List Nat := [0, 0, 0, 1, 1, 1, 2, 2, 2, 3, 3, 3, 3, 4, 4, 4, 4, 5, 5, 5, 6, 6, 6]
def ffT : List Nat := [0, 0, 0, 3, 3, 3, 6, 6, 6, 9, 9, 9, 9, 13, 13, 13, 13, 17, 17, 17, 20, 20, 20]
def ffR (j : Nat) : List ByteArray := ffL.take (ffA.getD j 0) ++ List.replicate (7 - ffA.getD j 0) .empty
theorem ffR_len : ∀ j : Fin 23, (ffR j.val).length = 7 := by decide +kernel
theorem ff_idx : ∀ j : Fin 22, ((ascT (idx (bt ffB ((j.val : Nat) : Int).toNat).toNat 1 0) = 0 ∧ ffA.getD (j.val + 1) 0 = ffA.getD j.val 0 ∧ ffT.getD (j.val + 1) 0 = ffT.getD j.val 0) ∨
    (ascT (idx (bt ffB ((j.val : Nat) : Int).toNat).toNat 1 0) = 1 ∧ ffA.getD (j.val + 1) 0 = ffA.getD j.val 0 + 1 ∧ ffT.getD (j.val + 1) 0 = j.val + 1 ∧ j.val + 1 < 22 ∧ ascT (idx (bt ffB (IntKind.i64.wrap (((j.val : Nat) : Int) + 1)).toNat).toNat 1 0) = 0 ∧ ffA.getD j.val 0 < 7)) ∧ ffT.getD j.val 0 ≤ j.val := by decide +kernel
theorem ff_set : ∀ j : Fin 22, ffA.getD (j.val + 1) 0 = ffA.getD j.val 0 + 1 → (ffR j.val).set (ffA.getD j.val 0) (ffB.extract (ffT.getD j.val 0) j.val) = ffR (j.val + 1) := by decide +kernel
theorem fields73_fn : Fn Tryz.prog 137 [.str ffB] (tS.L ffL) := by
  have hsz : ffB.size = 22 := rfl
  have hbt : ∀ i, 0 ≤ bt ffB i ∧ bt ffB i < 256 := fun i => ⟨Int.natCast_nonneg _, by unfold bt; have := (ffB.data.toList.getD i 0).toNat_lt; omega⟩
  refine Fn.of Tryz.f137 _ Tryz.func137 rfl (by decide) (by show 1 ≤ _; decide) tbOk 106 rfl fun S w0 gl => ?_
  refine Run.go ?_; (conv => whnf); repeat' (first | ((with_reducible refine Know.mk fun _ => ?_); conv => whnf) | ((with_reducible refine Need.mk ?_ ?_); exact nd; conv => whnf) | ((with_reducible first | refine Both.mk ?_ ?_ | refine Any.mk fun b hb => ?_ | refine AskB.dec (fun hb => ?_) (fun hb => ?_) | refine AskB.ndec (fun hb => ?_) (fun hb => ?_) | refine AskB.mk (fun hb => ?_) (fun hb => ?_)) <;> conv => whnf) | ((with_reducible first | refine Run.drawX rfl (by decide +kernel) ?_ | refine Run.drawT rfl (by decide +kernel) ?_ | refine Run.drawW rfl (by decide +kernel) ?_); conv => whnf) | fail)
  refine Run.loop [0] (fun (j : Nat) => [(3, .int .i64 (ffN.getD j 0)), (4, .int .i64 (ffW.getD j 0)), (5, .int .u8 (ffS.getD j 0)), (6, .int .i64 j)]) (fun _ => []) (fun j => j ≤ 22) (fun j => 22 - j) 0 (by omega) ⟨Le.refl _, Le.refl _, Le.refl _, Le.refl _, trivial⟩ trivial ?_
  intro j hj IH
  show Run _ _ (lst (_ ++ [(3, .int .i64 (ffN.getD j 0)), (4, .int .i64 (ffW.getD j 0)), (5, .int .u8 (ffS.getD j 0)), (6, .int .i64 j)])) (lstH [])
  have hb8 := hbt (j : Int).toNat
  by_cases hj22 : j = 22
  · subst hj22
    show Run _ _ (lst [(0, .str ffB), (3, .int .i64 7), (4, .int .i64 0), (5, .int .u8 127), (6, .int .i64 22)]) (lstH [])
    refine Run.go ?_; (conv => whnf); repeat' (first | ((with_reducible refine Know.mk fun _ => ?_); conv => whnf) | ((with_reducible refine Need.mk ?_ ?_); exact nd; conv => whnf) | ((with_reducible first | refine Both.mk ?_ ?_ | refine Any.mk fun b hb => ?_ | refine AskB.dec (fun hb => ?_) (fun hb => ?_) | refine AskB.ndec (fun hb => ?_) (fun hb => ?_) | refine AskB.mk (fun hb => ?_) (fun hb => ?_)) <;> conv => whnf) | ((with_reducible first | refine Run.drawX rfl (by decide +kernel) ?_ | refine Run.drawT rfl (by decide +kernel) ?_ | refine Run.drawW rfl (by decide +kernel) ?_); conv => whnf) | fail)
    all_goals try exact absurd hb (by decide)
    refine Run.go ?_; (conv => whnf); repeat' (first | ((with_reducible refine Know.mk fun _ => ?_); conv => whnf) | ((with_reducible refine Need.mk ?_ ?_); exact nd; conv => whnf) | ((with_reducible first | refine Both.mk ?_ ?_ | refine Any.mk fun b hb => ?_ | refine AskB.dec (fun hb => ?_) (fun hb => ?_) | refine AskB.ndec (fun hb => ?_) (fun hb => ?_) | refine AskB.mk (fun hb => ?_) (fun hb => ?_)) <;> conv => whnf) | ((with_reducible first | refine Run.drawX rfl (by decide +kernel) ?_ | refine Run.drawT rfl (by decide +kernel) ?_ | refine Run.drawW rfl (by decide +kernel) ?_); conv => whnf) | fail)
    case _ =>
      refine Run.loop [0, 9] (fun (j : Nat) => [(10, .int .i64 (ffA.getD j 0)), (11, .int .i64 (ffT.getD j 0)), (12, .int .i64 j)]) (fun j => [(41, tS.R 9 (ffR j))]) (fun j => j ≤ 22) (fun j => 22 - j) 0 (by omega) ⟨Le.refl _, Le.refl _, Le.refl _, trivial⟩ ⟨⟨rfl, rfl, rfl, fun i j hi hj => ?_⟩, trivial⟩ ?_
      · have hj0 : j = 0 := by have : j < 1 := hj; omega
        subst hj0
        have hi7 : i < 7 := hi
        obtain ⟨i, rfl⟩ : ∃ k : Fin 7, k.val = i := ⟨⟨i, hi7⟩, rfl⟩
        have : (ffR 0).getD i.val .empty = .empty := by clear hi hi7 hj hbt hb8 hb; revert i; decide +kernel
        exact Le.str this.symm
      intro j hj IH
      show Run _ _ (lst (_ ++ [(10, .int .i64 (ffA.getD j 0)), (11, .int .i64 (ffT.getD j 0)), (12, .int .i64 j)])) (lstH [(41, tS.R 9 (ffR j))])
      by_cases hj22 : j = 22
      · subst hj22
        show Run _ _ (lst [(0, .str ffB), (9, .row 41), (10, .int .i64 6), (11, .int .i64 20), (12, .int .i64 22)]) (lstH [(41, tS.R 9 (ffR 22))])
        have h8 : ((ffR 22).length : Int) = 7 := rfl
        refine Run.go ?_; (conv => whnf); repeat' (first | ((with_reducible refine Know.mk fun _ => ?_); conv => whnf) | ((with_reducible refine Need.mk ?_ ?_); exact nd; conv => whnf) | ((with_reducible first | refine Both.mk ?_ ?_ | refine Any.mk fun b hb => ?_ | refine AskB.dec (fun hb => ?_) (fun hb => ?_) | refine AskB.ndec (fun hb => ?_) (fun hb => ?_) | refine AskB.mk (fun hb => ?_) (fun hb => ?_)) <;> conv => whnf) | ((with_reducible first | refine Run.drawX rfl (by decide +kernel) ?_ | refine Run.drawT rfl (by decide +kernel) ?_ | refine Run.drawW rfl (by decide +kernel) ?_); conv => whnf) | fail)
        all_goals try (exfalso; omega)
        refine Run.leave (ts := [2]) (.inr ⟨_, rfl⟩) rfl Tryz.func137 rfl ?_
        show Le (.sl 7 1 _) (.sl 7 1 (tS.G ffL))
        refine Le.sl (fun i k hi hk => ?_)
        obtain rfl : k = 0 := by omega
        match i, hi with
        | 0, _ => exact Le.refl _
        | 1, _ => exact Le.refl _
        | 2, _ => exact Le.refl _
        | 3, _ => exact Le.refl _
        | 4, _ => exact Le.refl _
        | 5, _ => exact Le.refl _
        | 6, _ => exact Le.refl _
      have hb9 := hbt (j : Int).toNat
      have hb10 := hbt (IntKind.i64.wrap ((j : Int) + 1)).toNat
      obtain ⟨hf1, hf2⟩ := ff_idx ⟨j, by omega⟩
      simp only [] at hf1 hf2
      have hwj : IntKind.i64.wrap ((j : Int) + 1) = ((j + 1 : Nat) : Int) := by rw [wrap64 (by omega) (by omega)]; omega
      have hla : (ffR j).length = 7 := (ffR_len ⟨j, by omega⟩)
      refine Run.go ?_; (conv => whnf); repeat' (first | ((with_reducible refine Know.mk fun _ => ?_); conv => whnf) | ((with_reducible refine Need.mk ?_ ?_); exact nd; conv => whnf) | ((with_reducible first | refine Both.mk ?_ ?_ | refine Any.mk fun b hb => ?_ | refine AskB.dec (fun hb => ?_) (fun hb => ?_) | refine AskB.ndec (fun hb => ?_) (fun hb => ?_) | refine AskB.mk (fun hb => ?_) (fun hb => ?_)) <;> conv => whnf) | ((with_reducible first | refine Run.drawX rfl (by decide +kernel) ?_ | refine Run.drawT rfl (by decide +kernel) ?_ | refine Run.drawW rfl (by decide +kernel) ?_); conv => whnf) | fail)
      all_goals try (exfalso; omega)
      case _ =>
        refine Run.to _ _ ?_ ?_ (IH (j + 1) (by omega) (by omega))
        · exact ⟨Le.refl _, Le.refl _, Le.int (by omega), Le.int (by omega), Le.int hwj, trivial⟩
        · refine ⟨?_, trivial⟩
          rw [show ffR (j + 1) = ffR j by unfold ffR; rw [show ffA.getD (j + 1) 0 = ffA.getD j 0 by omega]]
          exact MOle.refl _
      have hcut := ff_set ⟨j, by omega⟩ (by simp only []; omega)
      simp only [] at hcut
      refine Run.go ?_; (conv => whnf); repeat' (first | ((with_reducible refine Know.mk fun _ => ?_); conv => whnf) | ((with_reducible refine Need.mk ?_ ?_); exact nd; conv => whnf) | ((with_reducible first | refine Both.mk ?_ ?_ | refine Any.mk fun b hb => ?_ | refine AskB.dec (fun hb => ?_) (fun hb => ?_) | refine AskB.ndec (fun hb => ?_) (fun hb => ?_) | refine AskB.mk (fun hb => ?_) (fun hb => ?_)) <;> conv => whnf) | ((with_reducible first | refine Run.drawX rfl (by decide +kernel) ?_ | refine Run.drawT rfl (by decide +kernel) ?_ | refine Run.drawW rfl (by decide +kernel) ?_); conv => whnf) | fail)
      all_goals try (exfalso; omega)
      refine Run.to _ _ ?_ ?_ (IH (j + 1) (by omega) (by omega))
      · exact ⟨Le.refl _, Le.refl _, Le.int (by rw [wrap64 (by omega) (by omega)]; omega), Le.int (by omega), Le.int hwj, trivial⟩
      · refine ⟨?_, trivial⟩
        rw [← hcut]
        exact tS.set 9 (ffR j) _ _ (by rw [hla]; omega) _ rfl (fun k y hk => by
          match k, hk with
          | 0, hk => cases hk; exact Le.refl _)
    case _ => exact absurd hb (by decide)
    all_goals exact absurd hb (by decide)
  refine Run.go ?_; (conv => whnf); repeat' (first | ((with_reducible refine Know.mk fun _ => ?_); conv => whnf) | ((with_reducible refine Need.mk ?_ ?_); exact nd; conv => whnf) | ((with_reducible first | refine Both.mk ?_ ?_ | refine Any.mk fun b hb => ?_ | refine AskB.dec (fun hb => ?_) (fun hb => ?_) | refine AskB.ndec (fun hb => ?_) (fun hb => ?_) | refine AskB.mk (fun hb => ?_) (fun hb => ?_)) <;> conv => whnf) | ((with_reducible first | refine Run.drawX rfl (by decide +kernel) ?_ | refine Run.drawT rfl (by decide +kernel) ?_ | refine Run.drawW rfl (by decide +kernel) ?_); conv => whnf) | fail)
  all_goals try (exfalso; omega)
  refine Run.to _ _ ?_ ?_ (IH (j + 1) (by omega) (by omega))
  · obtain ⟨j, rfl⟩ : ∃ k : Fin 22, k.val = j := ⟨⟨j, by omega⟩, rfl⟩
    clear IH hb8 hj hbt hsz hb
    refine ⟨Le.refl _, Le.int ?_, Le.int ?_, Le.int ?_, Le.int ?_, trivial⟩
    · revert j; decide +kernel
    · revert j; decide +kernel
    · revert j; decide +kernel
    · revert j; decide +kernel
  · trivial
/-- What a rune stands for. -/
def isLig (r : Int) : Bool := decide (r = 198 ∨ r = 230 ∨ r = 338 ∨ r = 339 ∨ r = 223 ∨ r = 383 ∨ r = 306 ∨ r = 307 ∨ (64256 ≤ r ∧ r ≤ 64262))
def ligB (r : Int) : ByteArray := if r = 198 then ⟨#[65, 69]⟩ else if r = 230 then ⟨#[97, 101]⟩ else if r = 338 then ⟨#[79, 69]⟩ else if r = 339 then ⟨#[111, 101]⟩ else if r = 223 then ⟨#[115, 115]⟩ else if r = 383 then ⟨#[115]⟩
  else if r = 306 then ⟨#[73, 74]⟩ else if r = 307 then ⟨#[105, 106]⟩ else if 64256 ≤ r ∧ r ≤ 64262 then ffL.getD (r - 64256).toNat .empty else .empty
theorem ligature59_fn (r : Int) : Fn Tryz.prog 111 [.int .i32 r] (tupL [.str (ligB r), .bool (isLig r)]) := by
  have h32 : 64256 ≤ r → r ≤ 64262 → IntKind.i32.wrap (r - 64256) = r - 64256 := fun h1 h2 => wrap32 (by omega) (by omega)
  have hyes : (r = 198 ∨ r = 230 ∨ r = 338 ∨ r = 339 ∨ r = 223 ∨ r = 383 ∨ r = 306 ∨ r = 307 ∨ (64256 ≤ r ∧ r ≤ 64262)) → isLig r = true := fun h => decide_eq_true h
  have hno : ¬ (r = 198 ∨ r = 230 ∨ r = 338 ∨ r = 339 ∨ r = 223 ∨ r = 383 ∨ r = 306 ∨ r = 307 ∨ (64256 ≤ r ∧ r ≤ 64262)) → isLig r = false := fun h => decide_eq_false h
  refine Fn.of Tryz.f111 _ Tryz.func111 rfl (by decide) (by show 1 ≤ _; decide) tbOk 32 rfl fun S w0 gl => ?_
  refine Run.go ?_; (conv => whnf); repeat' (first | ((with_reducible refine Know.mk fun _ => ?_); conv => whnf) | ((with_reducible refine Need.mk ?_ ?_); exact nd; conv => whnf) | ((with_reducible refine Both.mk ?_ ?_) <;> conv => whnf) | ((with_reducible refine Any.mk fun b hb => ?_); conv => whnf) | ((with_reducible first | refine AskB.dec (fun hb => ?_) (fun hb => ?_) | refine AskB.ndec (fun hb => ?_) (fun hb => ?_) | refine AskB.mk (fun hb => ?_) (fun hb => ?_)) <;> first | (exfalso; omega) | (conv => whnf)) | ((with_reducible first | refine Run.drawX rfl (by decide +kernel) ?_ | refine Run.drawT rfl (by decide +kernel) ?_ | refine Run.drawW rfl (by decide +kernel) ?_); conv => whnf) | fail)
  iterate 8 (· exact Run.leave (ts := [2,3]) (.inr ⟨_, rfl⟩) rfl Tryz.func111 rfl (resT ⟨Le.str (by subst hb; rfl), Le.tt.trans (Le.bool (hyes (by omega)).symm), trivial⟩))
  · rename_i hb1
    refine Run.callBX fields73_fn rfl rfl ⟨Le.refl _, trivial⟩ rfl rfl rfl ?_
    have hw := h32 hb1 hb
    have hl : (ffL.length : Int) = 7 := rfl
    (conv => whnf); repeat' (first | ((with_reducible refine Know.mk fun _ => ?_); conv => whnf) | ((with_reducible refine Need.mk ?_ ?_); exact nd; conv => whnf) | ((with_reducible first | refine Both.mk ?_ ?_ | refine Any.mk fun b hb => ?_ | refine AskB.dec (fun hb => ?_) (fun hb => ?_) | refine AskB.ndec (fun hb => ?_) (fun hb => ?_) | refine AskB.mk (fun hb => ?_) (fun hb => ?_)) <;> conv => whnf) | ((with_reducible first | refine Run.drawX rfl (by decide +kernel) ?_ | refine Run.drawT rfl (by decide +kernel) ?_ | refine Run.drawW rfl (by decide +kernel) ?_); conv => whnf) | fail)
    refine Run.leave (ts := [2,3]) (.inr ⟨_, rfl⟩) rfl Tryz.func111 rfl (resT ⟨Le.str ?_, Le.tt.trans (Le.bool (hyes (by omega)).symm), trivial⟩)
    rw [hw]
    unfold ligB
    rw [if_neg (by omega), if_neg (by omega), if_neg (by omega), if_neg (by omega), if_neg (by omega), if_neg (by omega), if_neg (by omega), if_neg (by omega), if_pos ⟨hb1, hb⟩]
    rfl
  all_goals refine Run.leave (ts := [2,3]) (.inr ⟨_, rfl⟩) rfl Tryz.func111 rfl (resT ⟨Le.str ?_, Le.ff.trans (Le.bool (hno (by omega)).symm), trivial⟩)
  all_goals
    unfold ligB
    rw [if_neg (by omega), if_neg (by omega), if_neg (by omega), if_neg (by omega), if_neg (by omega), if_neg (by omega), if_neg (by omega), if_neg (by omega), if_neg (by omega)]
    rfl
end Go.Proofs.YteklnpgiloebcaaGreatDoor.V

namespace Go.Proofs.YteklnpgiloebcaaGreatDoor.V
set_option linter.unusedVariables false
set_option linter.unusedSimpArgs false
open Go Go.Proofs Go.RowKit
set_option maxRecDepth 100000
set_option maxHeartbeats 2000000
open Go Go.Proofs Go.Proofs.YteklnpgiloebcaaGreatDoor.V
def tF : Ty Nat := ⟨1, fun f _ => .fn f, 105⟩
def stepsF (opt : Int) : List Nat := (if opt % 2 = 1 then [105] else []) ++ (if opt / 2 % 2 = 1 then [106] else []) ++ (if opt / 8 % 2 = 1 then [107] else [])
theorem bits32 : ∀ o : Fin 32, IntKind.i64.wrap ↑(BitVec.ofInt IntKind.i64.bits (o.val : Int) &&& BitVec.ofInt IntKind.i64.bits 1).toNat = (o.val : Int) % 2 ∧
    IntKind.i64.wrap ↑(BitVec.ofInt IntKind.i64.bits (o.val : Int) &&& BitVec.ofInt IntKind.i64.bits 2).toNat = 2 * ((o.val : Int) / 2 % 2) ∧
    IntKind.i64.wrap ↑(BitVec.ofInt IntKind.i64.bits (o.val : Int) &&& BitVec.ofInt IntKind.i64.bits 4).toNat = 4 * ((o.val : Int) / 4 % 2) ∧
    IntKind.i64.wrap ↑(BitVec.ofInt IntKind.i64.bits (o.val : Int) &&& BitVec.ofInt IntKind.i64.bits 8).toNat = 8 * ((o.val : Int) / 8 % 2) ∧
    IntKind.i64.wrap ↑(BitVec.ofInt IntKind.i64.bits (o.val : Int) &&& BitVec.ofInt IntKind.i64.bits 16).toNat = 16 * ((o.val : Int) / 16 % 2) := by decide +kernel
theorem steps38_fn (o : Int) (h0 : 0 ≤ o) (h1 : o ≤ 31) : Fn Tryz.prog 81 [.int .i64 o] (tF.L (stepsF o)) := by
  obtain ⟨k, rfl⟩ : ∃ k : Fin 32, (k.val : Int) = o := ⟨⟨o.toNat, by omega⟩, by simp only []; omega⟩
  obtain ⟨e1, e2, e4, e8, e16⟩ := bits32 k
  refine Fn.of Tryz.f81 _ Tryz.func81 rfl (by decide) (by show 1 ≤ _; decide) tbOk 13 rfl fun S w0 gl => ?_
  refine Run.go ?_; (conv => whnf); repeat' (first | ((with_reducible refine Know.mk fun _ => ?_); conv => whnf) | ((with_reducible refine Need.mk ?_ ?_); exact nd; conv => whnf) | ((with_reducible first | refine Both.mk ?_ ?_ | refine Any.mk fun b hb => ?_ | refine AskB.dec (fun hb => ?_) (fun hb => ?_) | refine AskB.ndec (fun hb => ?_) (fun hb => ?_) | refine AskB.mk (fun hb => ?_) (fun hb => ?_)) <;> conv => whnf) | ((with_reducible first | refine Run.drawX rfl (by decide +kernel) ?_ | refine Run.drawT rfl (by decide +kernel) ?_ | refine Run.drawW rfl (by decide +kernel) ?_); conv => whnf) | fail)
  refine Run.makeFunc rfl rfl rfl rfl rfl ?_
  refine Run.holdBoxNil 3 0 90 154 1 (fun _ _ => .u) (by rfl) (by rfl) rfl rfl ?_
  refine Run.tidy [3, 4, 5] [1, 3, 5, 90] ?_; (conv => whnf)
  refine Run.go ?_; (conv => whnf); repeat' (first | ((with_reducible refine Know.mk fun _ => ?_); conv => whnf) | ((with_reducible refine Need.mk ?_ ?_); exact nd; conv => whnf) | ((with_reducible first | refine Both.mk ?_ ?_ | refine Any.mk fun b hb => ?_ | refine AskB.dec (fun hb => ?_) (fun hb => ?_) | refine AskB.ndec (fun hb => ?_) (fun hb => ?_) | refine AskB.mk (fun hb => ?_) (fun hb => ?_)) <;> conv => whnf) | ((with_reducible first | refine Run.drawX rfl (by decide +kernel) ?_ | refine Run.drawT rfl (by decide +kernel) ?_ | refine Run.drawW rfl (by decide +kernel) ?_); conv => whnf) | fail)
  all_goals
    refine Run.inlineC 700 Tryz.f104 _ 14 rfl rfl rfl rfl rfl (by decide) Tryz.func104 rfl (by decide) rfl (by show 4 ≤ 14; decide) rfl rfl (fun a hsz hdf => ?_)
    refine Run.go ?_; (conv => whnf); repeat' (first | ((with_reducible refine Know.mk fun _ => ?_); conv => whnf) | ((with_reducible refine Need.mk ?_ ?_); exact nd; conv => whnf) | ((with_reducible first | refine Both.mk ?_ ?_ | refine Any.mk fun b hb => ?_ | refine AskB.dec (fun hb => ?_) (fun hb => ?_) | refine AskB.ndec (fun hb => ?_) (fun hb => ?_) | refine AskB.mk (fun hb => ?_) (fun hb => ?_)) <;> conv => whnf) | ((with_reducible first | refine Run.drawX rfl (by decide +kernel) ?_ | refine Run.drawT rfl (by decide +kernel) ?_ | refine Run.drawW rfl (by decide +kernel) ?_); conv => whnf) | fail)
    all_goals
      refine Run.back 700 (ts := []) hsz hdf (.inl rfl) (by rfl) Tryz.func104 rfl ?_
      try refine Run.holdBoxRow 3 0 90 13 (by rfl) (by rfl) (by rfl) rfl rfl rfl ?_
      refine Run.tidy [3, 4] [1, 3, 5, 90] ?_; (conv => whnf)
      refine Run.go ?_; (conv => whnf); repeat' (first | ((with_reducible refine Know.mk fun _ => ?_); conv => whnf) | ((with_reducible refine Need.mk ?_ ?_); exact nd; conv => whnf) | ((with_reducible first | refine Both.mk ?_ ?_ | refine Any.mk fun b hb => ?_ | refine AskB.dec (fun hb => ?_) (fun hb => ?_) | refine AskB.ndec (fun hb => ?_) (fun hb => ?_) | refine AskB.mk (fun hb => ?_) (fun hb => ?_)) <;> conv => whnf) | ((with_reducible first | refine Run.drawX rfl (by decide +kernel) ?_ | refine Run.drawT rfl (by decide +kernel) ?_ | refine Run.drawW rfl (by decide +kernel) ?_); conv => whnf) | fail)
  all_goals
    refine Run.inlineC 700 Tryz.f104 _ 14 rfl rfl rfl rfl rfl (by decide) Tryz.func104 rfl (by decide) rfl (by show 4 ≤ 14; decide) rfl rfl (fun a hsz hdf => ?_)
    refine Run.go ?_; (conv => whnf); repeat' (first | ((with_reducible refine Know.mk fun _ => ?_); conv => whnf) | ((with_reducible refine Need.mk ?_ ?_); exact nd; conv => whnf) | ((with_reducible first | refine Both.mk ?_ ?_ | refine Any.mk fun b hb => ?_ | refine AskB.dec (fun hb => ?_) (fun hb => ?_) | refine AskB.ndec (fun hb => ?_) (fun hb => ?_) | refine AskB.mk (fun hb => ?_) (fun hb => ?_)) <;> conv => whnf) | ((with_reducible first | refine Run.drawX rfl (by decide +kernel) ?_ | refine Run.drawT rfl (by decide +kernel) ?_ | refine Run.drawW rfl (by decide +kernel) ?_); conv => whnf) | fail)
    all_goals
      refine Run.back 700 (ts := []) hsz hdf (.inl rfl) (by rfl) Tryz.func104 rfl ?_
      try refine Run.holdBoxRow 3 0 90 13 (by rfl) (by rfl) (by rfl) rfl rfl rfl ?_
      refine Run.tidy [3, 4] [1, 3, 5, 90] ?_; (conv => whnf)
      refine Run.go ?_; (conv => whnf); repeat' (first | ((with_reducible refine Know.mk fun _ => ?_); conv => whnf) | ((with_reducible refine Need.mk ?_ ?_); exact nd; conv => whnf) | ((with_reducible first | refine Both.mk ?_ ?_ | refine Any.mk fun b hb => ?_ | refine AskB.dec (fun hb => ?_) (fun hb => ?_) | refine AskB.ndec (fun hb => ?_) (fun hb => ?_) | refine AskB.mk (fun hb => ?_) (fun hb => ?_)) <;> conv => whnf) | ((with_reducible first | refine Run.drawX rfl (by decide +kernel) ?_ | refine Run.drawT rfl (by decide +kernel) ?_ | refine Run.drawW rfl (by decide +kernel) ?_); conv => whnf) | fail)
  all_goals
    refine Run.inlineC 700 Tryz.f104 _ 14 rfl rfl rfl rfl rfl (by decide) Tryz.func104 rfl (by decide) rfl (by show 4 ≤ 14; decide) rfl rfl (fun a hsz hdf => ?_)
    refine Run.go ?_; (conv => whnf); repeat' (first | ((with_reducible refine Know.mk fun _ => ?_); conv => whnf) | ((with_reducible refine Need.mk ?_ ?_); exact nd; conv => whnf) | ((with_reducible first | refine Both.mk ?_ ?_ | refine Any.mk fun b hb => ?_ | refine AskB.dec (fun hb => ?_) (fun hb => ?_) | refine AskB.ndec (fun hb => ?_) (fun hb => ?_) | refine AskB.mk (fun hb => ?_) (fun hb => ?_)) <;> conv => whnf) | ((with_reducible first | refine Run.drawX rfl (by decide +kernel) ?_ | refine Run.drawT rfl (by decide +kernel) ?_ | refine Run.drawW rfl (by decide +kernel) ?_); conv => whnf) | fail)
    all_goals
      refine Run.back 700 (ts := []) hsz hdf (.inl rfl) (by rfl) Tryz.func104 rfl ?_
      try refine Run.holdBoxRow 3 0 90 13 (by rfl) (by rfl) (by rfl) rfl rfl rfl ?_
      refine Run.tidy [3, 4] [1, 3, 5, 90] ?_; (conv => whnf)
      refine Run.go ?_; (conv => whnf); repeat' (first | ((with_reducible refine Know.mk fun _ => ?_); conv => whnf) | ((with_reducible refine Need.mk ?_ ?_); exact nd; conv => whnf) | ((with_reducible first | refine Both.mk ?_ ?_ | refine Any.mk fun b hb => ?_ | refine AskB.dec (fun hb => ?_) (fun hb => ?_) | refine AskB.ndec (fun hb => ?_) (fun hb => ?_) | refine AskB.mk (fun hb => ?_) (fun hb => ?_)) <;> conv => whnf) | ((with_reducible first | refine Run.drawX rfl (by decide +kernel) ?_ | refine Run.drawT rfl (by decide +kernel) ?_ | refine Run.drawW rfl (by decide +kernel) ?_); conv => whnf) | fail)
  all_goals refine Run.leave (ts := [2]) (.inr ⟨_, rfl⟩) rfl Tryz.func81 rfl ?_
  all_goals unfold stepsF
  all_goals first | rw [if_pos (show (k.val : Int) % 2 = 1 by omega)] | rw [if_neg (show ¬ (k.val : Int) % 2 = 1 by omega)]
  all_goals first | rw [if_pos (show (k.val : Int) / 2 % 2 = 1 by omega)] | rw [if_neg (show ¬ (k.val : Int) / 2 % 2 = 1 by omega)]
  all_goals first | rw [if_pos (show (k.val : Int) / 8 % 2 = 1 by omega)] | rw [if_neg (show ¬ (k.val : Int) / 8 % 2 = 1 by omega)]
  all_goals
    refine Le.sl (fun i j hi hj => ?_)
    obtain rfl : j = 0 := by have : j < 1 := hj; omega
    first
    | (exact absurd (show i < 0 from hi) (Nat.not_lt_zero _))
    | (have h3 : i = 0 := by have : i < 1 := hi; omega
       subst h3; exact Le.refl _)
    | (have h3 : i = 0 ∨ i = 1 := by have : i < 2 := hi; omega
       rcases h3 with rfl | rfl <;> exact Le.refl _)
    | (have h3 : i = 0 ∨ i = 1 ∨ i = 2 := by have : i < 3 := hi; omega
       rcases h3 with rfl | rfl | rfl <;> exact Le.refl _)
end Go.Proofs.YteklnpgiloebcaaGreatDoor.V

namespace Go.Proofs.YteklnpgiloebcaaGreatDoor.V
set_option linter.unusedVariables false
set_option linter.unusedSimpArgs false
open Go Go.Proofs Go.RowKit
set_option maxRecDepth 100000
set_option maxHeartbeats 4000000
open Go Go.Proofs Go.Proofs.YteklnpgiloebcaaGreatDoor.V
theorem ws6 {N : Nat} {w0 : World} {S : Nat → Prop} {gl : GlobOk S w0} {f : FuncId} {R : Ending → World → Prop} {ops : Array Oper} {i : Nat} {rest : List Nat} {k : List Item} {env : Env} {h : Heap} {o : Oper} {x y : Operand}
    (p : AV) (t s : ByteArray) (ho : ops.toList[i]? = some o) (hc : calls? o = some (30, [x, y])) (hd : okD N o.dst = true) (hr : ready env ops o = true) (hx : ev (scrubE 900 env) x = .box 6 0) (hy : ev (scrubE 900 env) y = .str s)
    (hs : t.size + s.size ≤ 140737488355328) (hp : p = .nilp ∨ p = .box 6 0)
    (next : Run ⟨Tryz.prog, TB, tbOk, N, w0, S, gl, f, R⟩ (.inRegion ops rest :: k) (putE (envW 90 env) o.dst .u) (bldr 77 5 6 90 (heapW 90 h) (.box 6 0) (t ++ s))) :
    Run ⟨Tryz.prog, TB, tbOk, N, w0, S, gl, f, R⟩ (.inRegion ops (i :: rest) :: k) env (bldr 77 5 6 90 h p t) := by
  refine Run.inline 900 Tryz.f30 _ 19 ho hc Tryz.func30 rfl (by decide) rfl (by show 2 ≤ 19; decide) hd hr (fun a hsz hdf => ?_)
  simp only [List.map, hx, hy]
  have fin : ∀ (E : Env) (H : Heap) (X : AV), (∀ i, E i = scrub 14 (scrub 901 (scrub 900 (env i)))) → (∀ id, Nat.beq id 6 = false → Nat.beq id 90 = false → Nat.beq id 14 = false → Nat.beq id 901 = false → Nat.beq id 900 = false → H id = scrubM 90 (scrubM 14 (scrubM 901 (scrubM 900 (h id))))) →
      MOle (H 6) (.box 77 [.box 6 0, .row 90]) → MOle (H 90) (.row 5 1 (t ++ s).size (bytesG (t ++ s))) → Run ⟨Tryz.prog, TB, tbOk, N, w0, S, gl, f, R⟩ (.inRegion ops rest :: k) (scrubE 90 (putE E o.dst X)) H := by
    intro E H X hE hH h5 h90
    refine Run.weaken (fun i => ?_) (fun id => ?_) next
    · cases hdst : o.dst with
      | none => show Le (scrub 90 (E i)) _; rw [hE]; exact Le.refl _
      | some d =>
        show Le (scrub 90 (upd E d X i)) (upd (envW 90 env) d .u i)
        by_cases e : i = d
        · subst e; rw [upd_same, upd_same]; exact Le.u _
        · rw [upd_other _ _ e, upd_other _ _ e, hE]; exact Le.refl _
    · unfold bldr heapW
      cases e5 : Nat.beq id 6 with
      | true => have := Nat.eq_of_beq_eq_true e5; subst this; exact h5
      | false =>
      cases e90 : Nat.beq id 90 with
      | true => have := Nat.eq_of_beq_eq_true e90; subst this; exact h90
      | false =>
      cases e900 : Nat.beq id 900 with
      | true => simp only [upd, e5, e90, e900, cond_true, cond_false]; exact mole_dead _
      | false =>
      cases e901 : Nat.beq id 901 with
      | true => simp only [upd, e5, e90, e900, e901, cond_true, cond_false]; exact mole_dead _
      | false =>
      cases e14 : Nat.beq id 14 with
      | true => simp only [upd, e5, e90, e900, e901, e14, cond_true, cond_false]; exact mole_dead _
      | false =>
        rw [hH id e5 e90 e14 e901 e900]
        simp only [upd, e5, e90, e900, e901, e14, cond_true, cond_false]
        exact MOle.refl _
  rcases hp with rfl | rfl
  · refine Run.go ?_; (conv => whnf); repeat' (first | ((with_reducible refine Know.mk fun _ => ?_); conv => whnf) | ((with_reducible refine Need.mk ?_ ?_); exact nd; conv => whnf) | ((with_reducible first | refine Both.mk ?_ ?_ | refine Any.mk fun b hb => ?_ | refine AskB.dec (fun hb => ?_) (fun hb => ?_) | refine AskB.ndec (fun hb => ?_) (fun hb => ?_) | refine AskB.mk (fun hb => ?_) (fun hb => ?_)) <;> conv => whnf) | ((with_reducible first | refine Run.drawX rfl (by decide +kernel) ?_ | refine Run.drawT rfl (by decide +kernel) ?_ | refine Run.drawW rfl (by decide +kernel) ?_); conv => whnf) | fail)
    refine Run.inline 901 Tryz.f56 _ 20 rfl rfl Tryz.func56 rfl (by decide) rfl (by decide) rfl rfl (fun a2 hsz2 hdf2 => ?_)
    refine Run.go ?_; (conv => whnf); repeat' (first | ((with_reducible refine Know.mk fun _ => ?_); conv => whnf) | ((with_reducible refine Need.mk ?_ ?_); exact nd; conv => whnf) | ((with_reducible first | refine Both.mk ?_ ?_ | refine Any.mk fun b hb => ?_ | refine AskB.dec (fun hb => ?_) (fun hb => ?_) | refine AskB.ndec (fun hb => ?_) (fun hb => ?_) | refine AskB.mk (fun hb => ?_) (fun hb => ?_)) <;> conv => whnf) | ((with_reducible first | refine Run.drawX rfl (by decide +kernel) ?_ | refine Run.drawT rfl (by decide +kernel) ?_ | refine Run.drawW rfl (by decide +kernel) ?_); conv => whnf) | fail)
    refine Run.toUnsafe (id := 6) (l := [.nilp, .row 90]) (e := 77) (t := 77) (src := 74) (dst := 127) (x := .tmp 8) rfl rfl rfl rfl rfl rfl (by decide) (by kernel_rfl) (by kernel_rfl) (j := (Tryz.prog.info? 77).get (by kernel_rfl)) (by kernel_rfl) (by decide +kernel) ?_
    refine Run.noEscape (f := 75) (x := .tmp 9) rfl rfl rfl rfl Tryz.func75 (by kernel_rfl) (by kernel_rfl) (by kernel_rfl) (by kernel_rfl) ?_
    refine Run.fromUnsafe (id := 6) (l := [.nilp, .row 90]) (e := 77) (u := 77) (src := 127) (dst := 74) (x := .tmp 10) rfl rfl rfl rfl rfl rfl (by kernel_rfl) (by kernel_rfl) (j := (Tryz.prog.info? 77).get (by kernel_rfl)) (by kernel_rfl) (by kernel_rfl) ?_
    refine Run.go ?_; (conv => whnf); repeat' (first | ((with_reducible refine Know.mk fun _ => ?_); conv => whnf) | ((with_reducible refine Need.mk ?_ ?_); exact nd; conv => whnf) | ((with_reducible first | refine Both.mk ?_ ?_ | refine Any.mk fun b hb => ?_ | refine AskB.dec (fun hb => ?_) (fun hb => ?_) | refine AskB.ndec (fun hb => ?_) (fun hb => ?_) | refine AskB.mk (fun hb => ?_) (fun hb => ?_)) <;> conv => whnf) | ((with_reducible first | refine Run.drawX rfl (by decide +kernel) ?_ | refine Run.drawT rfl (by decide +kernel) ?_ | refine Run.drawW rfl (by decide +kernel) ?_); conv => whnf) | fail)
    refine Run.back 901 (ts := []) hsz2 hdf2 (.inl rfl) (by rfl) Tryz.func56 rfl ?_
    refine Run.go ?_; (conv => whnf); repeat' (first | ((with_reducible refine Know.mk fun _ => ?_); conv => whnf) | ((with_reducible refine Need.mk ?_ ?_); exact nd; conv => whnf) | ((with_reducible first | refine Both.mk ?_ ?_ | refine Any.mk fun b hb => ?_ | refine AskB.dec (fun hb => ?_) (fun hb => ?_) | refine AskB.ndec (fun hb => ?_) (fun hb => ?_) | refine AskB.mk (fun hb => ?_) (fun hb => ?_)) <;> conv => whnf) | ((with_reducible first | refine Run.drawX rfl (by decide +kernel) ?_ | refine Run.drawT rfl (by decide +kernel) ?_ | refine Run.drawW rfl (by decide +kernel) ?_); conv => whnf) | fail)
    refine Run.back 900 (ts := [4, 5]) hsz hdf (.inr ⟨_, rfl⟩) (by rfl) Tryz.func30 rfl ?_
    refine Run.holdBoxRow 6 1 90 14 (by rfl) (by rfl) (by rfl) rfl rfl rfl ?_
    refine fin _ _ _ (fun i => rfl) (fun id e5 e90 e14 e901 e900 => ?_) (MOle.refl _) (bytesG_join 5 t s)
    simp only [upd, scrubH, scrubM, bldr, e5, e90, e14, e901, e900, cond_false]
  · refine Run.go ?_; (conv => whnf); repeat' (first | ((with_reducible refine Know.mk fun _ => ?_); conv => whnf) | ((with_reducible refine Need.mk ?_ ?_); exact nd; conv => whnf) | ((with_reducible first | refine Both.mk ?_ ?_ | refine Any.mk fun b hb => ?_ | refine AskB.dec (fun hb => ?_) (fun hb => ?_) | refine AskB.ndec (fun hb => ?_) (fun hb => ?_) | refine AskB.mk (fun hb => ?_) (fun hb => ?_)) <;> conv => whnf) | ((with_reducible first | refine Run.drawX rfl (by decide +kernel) ?_ | refine Run.drawT rfl (by decide +kernel) ?_ | refine Run.drawW rfl (by decide +kernel) ?_); conv => whnf) | fail)
    refine Run.inline 901 Tryz.f56 _ 20 rfl rfl Tryz.func56 rfl (by decide) rfl (by decide) rfl rfl (fun a2 hsz2 hdf2 => ?_)
    refine Run.go ?_; (conv => whnf); repeat' (first | ((with_reducible refine Know.mk fun _ => ?_); conv => whnf) | ((with_reducible refine Need.mk ?_ ?_); exact nd; conv => whnf) | ((with_reducible first | refine Both.mk ?_ ?_ | refine Any.mk fun b hb => ?_ | refine AskB.dec (fun hb => ?_) (fun hb => ?_) | refine AskB.ndec (fun hb => ?_) (fun hb => ?_) | refine AskB.mk (fun hb => ?_) (fun hb => ?_)) <;> conv => whnf) | ((with_reducible first | refine Run.drawX rfl (by decide +kernel) ?_ | refine Run.drawT rfl (by decide +kernel) ?_ | refine Run.drawW rfl (by decide +kernel) ?_); conv => whnf) | fail)
    refine Run.back 901 (ts := []) hsz2 hdf2 (.inl rfl) (by rfl) Tryz.func56 rfl ?_
    refine Run.go ?_; (conv => whnf); repeat' (first | ((with_reducible refine Know.mk fun _ => ?_); conv => whnf) | ((with_reducible refine Need.mk ?_ ?_); exact nd; conv => whnf) | ((with_reducible first | refine Both.mk ?_ ?_ | refine Any.mk fun b hb => ?_ | refine AskB.dec (fun hb => ?_) (fun hb => ?_) | refine AskB.ndec (fun hb => ?_) (fun hb => ?_) | refine AskB.mk (fun hb => ?_) (fun hb => ?_)) <;> conv => whnf) | ((with_reducible first | refine Run.drawX rfl (by decide +kernel) ?_ | refine Run.drawT rfl (by decide +kernel) ?_ | refine Run.drawW rfl (by decide +kernel) ?_); conv => whnf) | fail)
    refine Run.back 900 (ts := [4, 5]) hsz hdf (.inr ⟨_, rfl⟩) (by rfl) Tryz.func30 rfl ?_
    refine Run.holdBoxRow 6 1 90 14 (by rfl) (by rfl) (by rfl) rfl rfl rfl ?_
    refine fin _ _ _ (fun i => rfl) (fun id e5 e90 e14 e901 e900 => ?_) (MOle.refl _) (bytesG_join 5 t s)
    simp only [upd, scrubH, scrubM, bldr, e5, e90, e14, e901, e900, cond_false]

def appF (f : Nat) (x : Int) : Int := if f = 105 then lowV x else if f = 106 then bareV x else letterV x
def appL (l : List Nat) (x : Int) : Int := l.foldl (fun x f => appF f x) x
def stepV (o x : Int) : Int := appL (stepsF o) x
theorem stepFn {f : Nat} (x : Int) (h : f = 105 ∨ f = 106 ∨ f = 107) : Fn Tryz.prog f [.int .i32 x] (.int .i32 (appF f x)) := by
  rcases h with rfl | rfl | rfl
  · exact lower53_fn x
  · exact unmarked54_fn x
  · exact letter55_fn x
theorem stepsF_mem {o : Int} {f : Nat} (h : f ∈ stepsF o) : f = 105 ∨ f = 106 ∨ f = 107 := by
  unfold stepsF at h
  simp only [List.mem_append] at h
  rcases h with (h | h) | h
  · split at h
    · exact .inl (by simpa using h)
    · cases h
  · split at h
    · exact .inr (.inl (by simpa using h))
    · cases h
  · split at h
    · exact .inr (.inr (by simpa using h))
    · cases h
theorem stepsF_len (o : Int) : (stepsF o).length ≤ 3 := by
  unfold stepsF
  repeat' split
  all_goals decide
theorem appL_take (l : List Nat) (x : Int) (m : Nat) (h : m < l.length) : appL (l.take (m + 1)) x = appF (l.getD m 105) (appL (l.take m) x) := by
  unfold appL
  rw [List.take_succ_eq_append_getElem h, List.foldl_append, List.getD, List.getElem?_eq_getElem h]; rfl
/-- Runes written one behind the other, each as the steps leave it. -/
def catE (o : Int) : List Int → ByteArray
  | [] => .empty
  | x :: r => Utf8.encode (stepV o x) ++ catE o r
theorem catE_app (o : Int) : ∀ a b : List Int, catE o (a ++ b) = catE o a ++ catE o b
  | [], b => by simp [catE]
  | x :: a, b => by simp only [List.cons_append, catE]; rw [catE_app o a b, ByteArray.append_assoc]
theorem catE_take (o : Int) (l : List Int) (j : Nat) (h : j < l.length) : catE o (l.take (j + 1)) = catE o (l.take j) ++ Utf8.encode (stepV o (l.getD j 0)) := by
  rw [List.take_succ_eq_append_getElem h, catE_app, List.getD, List.getElem?_eq_getElem h]; simp [catE]
theorem catE_size (o : Int) : ∀ l : List Int, (catE o l).size ≤ 4 * l.length
  | [] => by simp [catE]
  | x :: r => by
    have h1 := catE_size o r
    have h2 := encode_small (stepV o x)
    simp only [catE, ByteArray.size_append, List.length_cons]; omega
/-- Is a rune left out? -/
def dropV (r o : Int) : Bool := decide ((o / 16 % 2 = 1 ∧ kOf r = 4) ∨ (o / 2 % 2 = 1 ∧ kOf r = 2))
def runesV (r o : Int) : List Int := if isLig r = true ∧ o / 4 % 2 = 1 then runesE (ligB r) 0 else [r]
/-- What a rune becomes. -/
def foldR (r o : Int) : ByteArray := if dropV r o = true then .empty else catE o (runesV r o)
theorem ligB_size (r : Int) : (ligB r).size ≤ 3 := by
  unfold ligB
  repeat' split
  all_goals first | (exact Nat.le_of_ble_eq_true rfl) | skip
  rename_i h
  obtain ⟨k, hk⟩ : ∃ k : Fin 7, k.val = (r - 64256).toNat := ⟨⟨(r - 64256).toNat, by omega⟩, rfl⟩
  rw [← hk]
  clear hk h
  revert k; decide +kernel
theorem runesV_len (r o : Int) : (runesV r o).length ≤ 3 := by
  unfold runesV
  split
  · have := runesE_len (ligB r) 0
    have := ligB_size r
    omega
  · simp
theorem foldR_size (r o : Int) : (foldR r o).size ≤ 12 := by
  unfold foldR
  split
  · exact Nat.zero_le _
  · have := catE_size o (runesV r o)
    have := runesV_len r o
    omega
def clean6 (x : AV) : Prop := scrub 902 x = x ∧ scrub 35 x = x ∧ scrW 90 x = x ∧ ∀ X Y, repl 35 X Y x = x
def cleanL : List (Nat × AV) → Prop
  | [] => True
  | p :: r => clean6 p.2 ∧ cleanL r
theorem cleanL_at : ∀ {l : List (Nat × AV)}, cleanL l → ∀ i, clean6 (lst l i)
  | [], _, i => ⟨rfl, rfl, rfl, fun _ _ => rfl⟩
  | p :: r, h, i => by
    show clean6 (cond (Nat.beq i p.1) p.2 (lst r i))
    cases Nat.beq i p.1 with
    | true => exact h.1
    | false => exact cleanL_at h.2 i
theorem to_next {C : Ctx} {l : List (Nat × AV)} {lh : List (Nat × MO)} {k : List Item} {dst : Option Nat} {E : Env} {X : AV} {H : Heap} (hE : ∀ i, E i = lst l i) (hH : fitsH H lh) (next : Run C k (putE (lst l) dst .u) (lstH lh)) : Run C k (putE E dst X) H := by
  refine Run.weaken (fun i => ?_) (fun id => fitsH_le hH id) next
  cases dst with
  | none => show Le (E i) (lst l i); rw [hE]; exact Le.refl _
  | some d =>
    show Le (upd E d X i) (upd (lst l) d .u i)
    by_cases e : i = d
    · subst e; rw [upd_same, upd_same]; exact Le.u _
    · rw [upd_other _ _ e, upd_other _ _ e, hE]; exact Le.refl _
theorem fold41 {N : Nat} {w0 : World} {S : Nat → Prop} {gl : GlobOk S w0} {f : FuncId} {R : Ending → World → Prop} {ops : Array Oper} {i : Nat} {rest : List Nat} {k : List Item} {o : Oper} {x0 x1 x2 x3 : Operand}
    (l : List (Nat × AV)) (p : AV) (t : ByteArray) (r opt : Int) (ho : ops.toList[i]? = some o) (hc : calls? o = some (83, [x0, x1, x2, x3])) (hd : okD N o.dst = true) (hr : ready (lst l) ops o = true)
    (hx0 : ev (lst l) x0 = .box 6 0) (hx1 : ev (lst l) x1 = .int .i32 r) (hx2 : ev (lst l) x2 = .int .i64 opt) (hx3 : ev (lst l) x3 = tF.L (stepsF opt)) (hl : cleanL l) (hs : t.size ≤ 100000000000) (hp : p = .nilp ∨ p = .box 6 0) (h0 : 0 ≤ opt) (h1 : opt ≤ 31)
    (next : ∀ p', (p' = .nilp ∨ p' = .box 6 0) → Run ⟨Tryz.prog, TB, tbOk, N, w0, S, gl, f, R⟩ (.inRegion ops rest :: k) (putE (lst l) o.dst .u) (lstH [(6, .box 77 [p', .row 90]), (90, .row 5 1 (t ++ foldR r opt).size (bytesG (t ++ foldR r opt)))])) :
    Run ⟨Tryz.prog, TB, tbOk, N, w0, S, gl, f, R⟩ (.inRegion ops (i :: rest) :: k) (lst l) (lstH [(6, .box 77 [p, .row 90]), (90, .row 5 1 t.size (bytesG t))]) := by
  have hE : scrubE 902 (lst l) = lst l := funext fun i => (cleanL_at hl i).1
  obtain ⟨kk, rfl⟩ : ∃ k : Fin 32, (k.val : Int) = opt := ⟨⟨opt.toNat, by omega⟩, by simp only []; omega⟩
  obtain ⟨e1, e2, e4, e8, e16⟩ := bits32 kk
  refine Run.inline 902 Tryz.f83 _ 70 ho hc Tryz.func83 rfl (by decide) rfl (by show 4 ≤ 70; decide) hd hr (fun a hsz hdf => ?_)
  rw [hE]
  simp only [List.map, hx0, hx1, hx2, hx3]
  refine Run.to [(0, .box 6 0), (1, .int .i32 r), (2, .int .i64 kk.val), (3, tF.L (stepsF kk.val))] [(6, .box 77 [p, .row 90]), (90, .row 5 1 t.size (bytesG t)), (902, .frame a.tmps (lst l))] ⟨Le.refl _, Le.refl _, Le.refl _, Le.refl _, trivial⟩ ⟨by rcases hp with rfl | rfl <;> exact MOle.refl _, MOle.refl _, MOle.refl _, trivial⟩ ?_
  have hfr : MOle (.frame a.tmps (fun i => scrub 35 (lst l i))) (.frame a.tmps (lst l)) := ⟨rfl, fun i => by show Le (scrub 35 (lst l i)) _; rw [(cleanL_at hl i).2.1]; exact Le.refl _⟩
  have hbx : ∀ X Y, MOle (.box 77 [repl 35 X Y p, .row 90]) (.box 77 [p, .row 90]) := fun X Y => by rcases hp with rfl | rfl <;> exact MOle.refl _
  have hrp : ∀ X Y, MOle (.frame a.tmps (fun i => repl 35 X Y (lst l i))) (.frame a.tmps (lst l)) := fun X Y => ⟨rfl, fun i => by show Le (repl 35 X Y (lst l i)) _; rw [(cleanL_at hl i).2.2.2]; exact Le.refl _⟩
  have hp35 : scrub 35 p = p := by rcases hp with rfl | rfl <;> rfl
  apply Run.cutAt (A := fun CC kk' => dropV r kk.val = false → Run CC kk' (lst [(0, .box 6 0), (2, .int .i64 kk.val), (3, tF.L (stepsF kk.val)), (9, .row 35), (37, .int .i32 r)]) (lstH [(6, .box 77 [p, .row 90]), (90, .row 5 1 t.size (bytesG t)), (902, .frame a.tmps (lst l)), (35, tRn.R 21 [r])]))
  · intro HA
    refine Run.go ?_; (conv => whnf); repeat' (first | ((with_reducible refine Know.mk fun _ => ?_); conv => whnf) | ((with_reducible refine Need.mk ?_ ?_); exact nd; conv => whnf) | ((with_reducible first | refine Both.mk ?_ ?_ | refine Any.mk fun b hb => ?_ | refine AskB.dec (fun hb => ?_) (fun hb => ?_) | refine AskB.ndec (fun hb => ?_) (fun hb => ?_) | refine AskB.mk (fun hb => ?_) (fun hb => ?_)) <;> conv => whnf) | ((with_reducible first | refine Run.drawX rfl (by decide +kernel) ?_ | refine Run.drawT rfl (by decide +kernel) ?_ | refine Run.drawW rfl (by decide +kernel) ?_); conv => whnf) | fail)
    refine Run.callBX (of_fn r) rfl rfl ⟨Le.refl _, trivial⟩ rfl rfl rfl ?_
    (conv => whnf); repeat' (first | ((with_reducible refine Know.mk fun _ => ?_); conv => whnf) | ((with_reducible refine Need.mk ?_ ?_); exact nd; conv => whnf) | ((with_reducible first | refine Both.mk ?_ ?_ | refine Any.mk fun b hb => ?_ | refine AskB.dec (fun hb => ?_) (fun hb => ?_) | refine AskB.ndec (fun hb => ?_) (fun hb => ?_) | refine AskB.mk (fun hb => ?_) (fun hb => ?_)) <;> conv => whnf) | ((with_reducible first | refine Run.drawX rfl (by decide +kernel) ?_ | refine Run.drawT rfl (by decide +kernel) ?_ | refine Run.drawW rfl (by decide +kernel) ?_); conv => whnf) | fail)
    all_goals first
      | (refine Run.back 902 (ts := []) hsz hdf (.inr ⟨_, rfl⟩) (by rfl) Tryz.func83 rfl ?_
         have hemp : t ++ foldR r kk.val = t := by
           unfold foldR
           rw [if_pos (show dropV r kk.val = true from decide_eq_true (by omega))]
           exact ByteArray.append_empty
         rw [hemp] at next
         refine to_next (fun i => rfl) ?_ (next p hp)
         exact ⟨MOle.refl _, MOle.refl _, trivial⟩)
      | (refine Run.to _ _ ?_ ?_ (HA (decide_eq_false (by omega)))
         · exact ⟨Le.refl _, Le.refl _, Le.refl _, Le.refl _, Le.refl _, trivial⟩
         · refine ⟨?_, MOle.refl _, hfr, ⟨rfl, rfl, rfl, fun i j hi hj => ?_⟩, trivial⟩
           · show MOle (.box 77 [scrub 35 p, .row 90]) _
             rw [hp35]; exact MOle.refl _
           · obtain rfl : i = 0 := by have : i < 1 := hi; omega
             obtain rfl : j = 0 := by have : j < 1 := hj; omega
             exact Le.refl _)
  intro hdrop
  apply Run.cutAt (A := fun CC kk' => Run CC kk' (lst [(0, .box 6 0), (3, tF.L (stepsF kk.val)), (49, tRn.L (runesV r kk.val)), (50, .int .i64 (runesV r kk.val).length), (51, .int .i64 0)]) (lstH [(6, .box 77 [p, .row 90]), (90, .row 5 1 t.size (bytesG t)), (902, .frame a.tmps (lst l))]))
  · intro HB
    refine Run.callBX (ligature59_fn r) rfl rfl ⟨Le.refl _, trivial⟩ rfl rfl rfl ?_
    (conv => whnf); repeat' (first | ((with_reducible refine Know.mk fun _ => ?_); conv => whnf) | ((with_reducible refine Need.mk ?_ ?_); exact nd; conv => whnf) | ((with_reducible first | refine Both.mk ?_ ?_ | refine Any.mk fun b hb => ?_ | refine AskB.dec (fun hb => ?_) (fun hb => ?_) | refine AskB.ndec (fun hb => ?_) (fun hb => ?_) | refine AskB.mk (fun hb => ?_) (fun hb => ?_)) <;> conv => whnf) | ((with_reducible first | refine Run.drawX rfl (by decide +kernel) ?_ | refine Run.drawT rfl (by decide +kernel) ?_ | refine Run.drawW rfl (by decide +kernel) ?_); conv => whnf) | fail)
    case _ =>
      have hrv : runesV r kk.val = [r] := if_neg (fun h => by omega)
      rw [hrv] at HB
      refine Run.freeze 35 rfl ?_
      refine Run.to _ _ ?_ ?_ HB
      · exact ⟨Le.refl _, Le.refl _, Le.refl _, Le.refl _, Le.refl _, trivial⟩
      · exact ⟨hbx _ _, MOle.refl _, hrp _ _, trivial⟩
    case _ =>
      have hrv : runesV r kk.val = runesE (ligB r) 0 := if_pos (by constructor <;> first | assumption | omega)
      rw [hrv] at HB
      refine Run.toRunes (e := 21) (ligB r) rfl rfl rfl rfl rfl (by have := ligB_size r; omega) (by kernel_rfl) (by kernel_rfl) (by kernel_rfl) ?_
      refine Run.go ?_; (conv => whnf); repeat' (first | ((with_reducible refine Know.mk fun _ => ?_); conv => whnf) | ((with_reducible refine Need.mk ?_ ?_); exact nd; conv => whnf) | ((with_reducible first | refine Both.mk ?_ ?_ | refine Any.mk fun b hb => ?_ | refine AskB.dec (fun hb => ?_) (fun hb => ?_) | refine AskB.ndec (fun hb => ?_) (fun hb => ?_) | refine AskB.mk (fun hb => ?_) (fun hb => ?_)) <;> conv => whnf) | ((with_reducible first | refine Run.drawX rfl (by decide +kernel) ?_ | refine Run.drawT rfl (by decide +kernel) ?_ | refine Run.drawW rfl (by decide +kernel) ?_); conv => whnf) | fail)
      refine Run.to _ _ ?_ ?_ HB
      · exact ⟨Le.refl _, Le.refl _, Le.refl _, Le.refl _, Le.refl _, trivial⟩
      · exact ⟨MOle.refl _, MOle.refl _, MOle.refl _, trivial⟩
    case _ =>
      have hrv : runesV r kk.val = [r] := if_neg (fun h => by rw [hb] at h; exact Bool.noConfusion h.1)
      rw [hrv] at HB
      refine Run.freeze 35 rfl ?_
      refine Run.to _ _ ?_ ?_ HB
      · exact ⟨Le.refl _, Le.refl _, Le.refl _, Le.refl _, Le.refl _, trivial⟩
      · exact ⟨hbx _ _, MOle.refl _, hrp _ _, trivial⟩
  have hlen := runesV_len r kk.val
  have hfold : foldR r kk.val = catE kk.val (runesV r kk.val) := by unfold foldR; rw [hdrop]; rfl
  rw [hfold] at next
  generalize runesV r kk.val = rs at hlen next ⊢
  have hT : ∀ j, (t ++ catE kk.val (rs.take j)).size ≤ 100000000012 := fun j => by
    have h1 := catE_size kk.val (rs.take j)
    have h2 : (rs.take j).length ≤ 3 := by rw [List.length_take]; omega
    rw [ByteArray.size_append]; omega
  refine Run.loop [0, 3, 49, 50] (fun (a : Nat × AV) => [(51, .int .i64 (a.1 : Int))]) (fun b => [(6, .box 77 [b.2, .row 90]), (90, .row 5 1 (t ++ catE kk.val (rs.take b.1)).size (bytesG (t ++ catE kk.val (rs.take b.1)))), (902, .frame a.tmps (lst l))]) (fun a => a.1 ≤ rs.length ∧ (a.2 = .nilp ∨ a.2 = .box 6 0)) (fun a => rs.length - a.1) (0, p) ⟨Nat.zero_le _, hp⟩ ⟨Le.refl _, trivial⟩ ⟨MOle.refl _, ?_, MOle.refl _, trivial⟩ ?_
  · simp only [List.take_zero, catE]
    rw [ByteArray.append_empty]; exact MOle.refl _
  have hwf : MOle (.frame a.tmps (fun i => scrW 90 (lst l i))) (.frame a.tmps (lst l)) := ⟨rfl, fun i => by show Le (scrW 90 (lst l i)) _; rw [(cleanL_at hl i).2.2.1]; exact Le.refl _⟩
  have hfl := stepsF_len kk.val
  have hfm : ∀ m, m < (stepsF kk.val).length → (stepsF kk.val).getD m 105 = 105 ∨ (stepsF kk.val).getD m 105 = 106 ∨ (stepsF kk.val).getD m 105 = 107 := fun m hm => stepsF_mem (by rw [List.getD, List.getElem?_eq_getElem hm]; exact List.getElem_mem hm)
  have hsv : ∀ x, stepV kk.val x = appL ((stepsF kk.val).take (stepsF kk.val).length) x := fun x => by rw [List.take_length]; rfl
  intro ⟨j, p2⟩ ⟨hj, hp2⟩ IH
  simp only [] at hj hp2 ⊢
  have hwj : IntKind.i64.wrap ((j : Int) + 1) = ((j + 1 : Nat) : Int) := wrap64 (by omega) (by omega)
  have hTj := hT j
  refine Run.go ?_; (conv => whnf); repeat' (first | ((with_reducible refine Know.mk fun _ => ?_); conv => whnf) | ((with_reducible refine Need.mk ?_ ?_); exact nd; conv => whnf) | ((with_reducible first | refine Both.mk ?_ ?_ | refine Any.mk fun b hb => ?_ | refine AskB.dec (fun hb => ?_) (fun hb => ?_) | refine AskB.ndec (fun hb => ?_) (fun hb => ?_) | refine AskB.mk (fun hb => ?_) (fun hb => ?_)) <;> conv => whnf) | ((with_reducible first | refine Run.drawX rfl (by decide +kernel) ?_ | refine Run.drawT rfl (by decide +kernel) ?_ | refine Run.drawW rfl (by decide +kernel) ?_); conv => whnf) | fail)
  · have hjl : j < rs.length := by omega
    refine Run.loop [0, 3, 49, 50, 51, 55, 56] (fun (m : Nat) => [(13, .int .i32 (appL ((stepsF kk.val).take m) (rs.getD j 0))), (57, .int .i64 m)]) (fun _ => [(6, .box 77 [p2, .row 90]), (90, .row 5 1 (t ++ catE kk.val (rs.take j)).size (bytesG (t ++ catE kk.val (rs.take j)))), (902, .frame a.tmps (lst l))]) (fun m => m ≤ (stepsF kk.val).length) (fun m => (stepsF kk.val).length - m) 0 (Nat.zero_le _) ⟨Le.refl _, Le.refl _, trivial⟩ ⟨MOle.refl _, MOle.refl _, MOle.refl _, trivial⟩ ?_
    intro m hm IHm
    have hwm : IntKind.i64.wrap ((m : Int) + 1) = ((m + 1 : Nat) : Int) := wrap64 (by omega) (by omega)
    refine Run.go ?_; (conv => whnf); repeat' (first | ((with_reducible refine Know.mk fun _ => ?_); conv => whnf) | ((with_reducible refine Need.mk ?_ ?_); exact nd; conv => whnf) | ((with_reducible first | refine Both.mk ?_ ?_ | refine Any.mk fun b hb => ?_ | refine AskB.dec (fun hb => ?_) (fun hb => ?_) | refine AskB.ndec (fun hb => ?_) (fun hb => ?_) | refine AskB.mk (fun hb => ?_) (fun hb => ?_)) <;> conv => whnf) | ((with_reducible first | refine Run.drawX rfl (by decide +kernel) ?_ | refine Run.drawT rfl (by decide +kernel) ?_ | refine Run.drawW rfl (by decide +kernel) ?_); conv => whnf) | fail)
    · have hml : m < (stepsF kk.val).length := by omega
      refine Run.callV (stepFn (appL ((stepsF kk.val).take m) (rs.getD j 0)) (hfm m hml)) rfl rfl rfl rfl ⟨Le.refl _, trivial⟩ rfl rfl rfl ?_
      refine Run.go ?_; (conv => whnf); repeat' (first | ((with_reducible refine Know.mk fun _ => ?_); conv => whnf) | ((with_reducible refine Need.mk ?_ ?_); exact nd; conv => whnf) | ((with_reducible first | refine Both.mk ?_ ?_ | refine Any.mk fun b hb => ?_ | refine AskB.dec (fun hb => ?_) (fun hb => ?_) | refine AskB.ndec (fun hb => ?_) (fun hb => ?_) | refine AskB.mk (fun hb => ?_) (fun hb => ?_)) <;> conv => whnf) | ((with_reducible first | refine Run.drawX rfl (by decide +kernel) ?_ | refine Run.drawT rfl (by decide +kernel) ?_ | refine Run.drawW rfl (by decide +kernel) ?_); conv => whnf) | fail)
      refine Run.to _ _ ?_ ?_ (IHm (m + 1) (by omega) (by omega))
      · exact ⟨Le.refl _, Le.refl _, Le.refl _, Le.refl _, Le.refl _, Le.refl _, Le.refl _, Le.int (appL_take _ _ m hml).symm, Le.int hwm, trivial⟩
      · exact ⟨MOle.refl _, MOle.refl _, MOle.refl _, trivial⟩
    · obtain rfl : m = (stepsF kk.val).length := by omega
      refine Run.bldr 77 5 6 90 p2 (t ++ catE kk.val (rs.take j)) (MOle.refl _) (MOle.refl _) ?_
      refine ws6 p2 _ (Utf8.encode (stepV kk.val (rs.getD j 0))) rfl rfl rfl rfl rfl ?_ ?_ hp2 ?_
      · rw [hsv]; rfl
      · have := encode_small (stepV kk.val (rs.getD j 0)); omega
      refine Run.go ?_; (conv => whnf); repeat' (first | ((with_reducible refine Know.mk fun _ => ?_); conv => whnf) | ((with_reducible refine Need.mk ?_ ?_); exact nd; conv => whnf) | ((with_reducible first | refine Both.mk ?_ ?_ | refine Any.mk fun b hb => ?_ | refine AskB.dec (fun hb => ?_) (fun hb => ?_) | refine AskB.ndec (fun hb => ?_) (fun hb => ?_) | refine AskB.mk (fun hb => ?_) (fun hb => ?_)) <;> conv => whnf) | ((with_reducible first | refine Run.drawX rfl (by decide +kernel) ?_ | refine Run.drawT rfl (by decide +kernel) ?_ | refine Run.drawW rfl (by decide +kernel) ?_); conv => whnf) | fail)
      refine Run.to _ _ ?_ ?_ (IH (j + 1, .box 6 0) (by simp only []; omega) ⟨by simp only []; omega, .inr rfl⟩)
      · exact ⟨Le.refl _, Le.refl _, Le.refl _, Le.refl _, Le.int hwj, trivial⟩
      · refine ⟨MOle.refl _, ?_, hwf, trivial⟩
        simp only []
        rw [catE_take _ _ _ hjl, ← ByteArray.append_assoc]
        exact MOle.refl _
  · obtain rfl : j = rs.length := by omega
    rw [List.take_length]
    refine Run.back 902 (ts := []) hsz hdf (.inl rfl) (by rfl) Tryz.func83 rfl ?_
    refine to_next (fun i => rfl) ?_ (next p2 hp2)
    exact ⟨MOle.refl _, MOle.refl _, trivial⟩
end Go.Proofs.YteklnpgiloebcaaGreatDoor.V

namespace Go.Proofs.YteklnpgiloebcaaGreatDoor.V
set_option linter.unusedVariables false
set_option linter.unusedSimpArgs false
open Go Go.Proofs Go.RowKit
set_option maxRecDepth 100000
set_option maxHeartbeats 4000000
open Go Go.Proofs Go.Proofs.YteklnpgiloebcaaGreatDoor.V
theorem wb6 {N : Nat} {w0 : World} {S : Nat → Prop} {gl : GlobOk S w0} {f : FuncId} {R : Ending → World → Prop} {ops : Array Oper} {i : Nat} {rest : List Nat} {k : List Item} {env : Env} {h : Heap} {o : Oper} {x y : Operand}
    (p : AV) (t : ByteArray) (u : UInt8) (ho : ops.toList[i]? = some o) (hc : calls? o = some (77, [x, y])) (hd : okD N o.dst = true) (hr : ready env ops o = true) (hx : ev (scrubE 900 env) x = .box 6 0) (hy : ev (scrubE 900 env) y = .int .u8 (u.toNat : Int))
    (hs : t.size + 1 ≤ 34359738368) (hp : p = .nilp ∨ p = .box 6 0)
    (next : Run ⟨Tryz.prog, TB, tbOk, N, w0, S, gl, f, R⟩ (.inRegion ops rest :: k) (putE (envB 90 env) o.dst .u) (bldr 77 5 6 90 (heapB 90 h) (.box 6 0) (t ++ ⟨#[u]⟩))) :
    Run ⟨Tryz.prog, TB, tbOk, N, w0, S, gl, f, R⟩ (.inRegion ops (i :: rest) :: k) env (bldr 77 5 6 90 h p t) := by
  refine Run.inline 900 Tryz.f77 _ 17 ho hc Tryz.func77 rfl (by decide) rfl (by show 2 ≤ 17; decide) hd hr (fun a hsz hdf => ?_)
  simp only [List.map, hx, hy]
  have fin : ∀ (E : Env) (H : Heap) (X : AV), (∀ i, E i = scrub 14 (scrub 13 (scrub 901 (scrub 900 (env i))))) → (∀ id, Nat.beq id 6 = false → Nat.beq id 90 = false → Nat.beq id 14 = false → Nat.beq id 13 = false → Nat.beq id 901 = false → Nat.beq id 900 = false → H id = scrubM 90 (scrubM 14 (scrubM 13 (scrubM 901 (scrubM 900 (h id)))))) →
      MOle (H 6) (.box 77 [.box 6 0, .row 90]) → MOle (H 90) (.row 5 1 (t ++ ⟨#[u]⟩).size (bytesG (t ++ ⟨#[u]⟩))) → Run ⟨Tryz.prog, TB, tbOk, N, w0, S, gl, f, R⟩ (.inRegion ops rest :: k) (scrubE 90 (putE E o.dst X)) H := by
    intro E H X hE hH h5 h90
    refine Run.weaken (fun i => ?_) (fun id => ?_) next
    · cases hdst : o.dst with
      | none => show Le (scrub 90 (E i)) _; rw [hE]; exact Le.refl _
      | some d =>
        show Le (scrub 90 (upd E d X i)) (upd (envB 90 env) d .u i)
        by_cases e : i = d
        · subst e; rw [upd_same, upd_same]; exact Le.u _
        · rw [upd_other _ _ e, upd_other _ _ e, hE]; exact Le.refl _
    · unfold bldr heapB
      cases e5 : Nat.beq id 6 with
      | true => have := Nat.eq_of_beq_eq_true e5; subst this; exact h5
      | false =>
      cases e90 : Nat.beq id 90 with
      | true => have := Nat.eq_of_beq_eq_true e90; subst this; exact h90
      | false =>
      cases e900 : Nat.beq id 900 with
      | true => simp only [upd, e5, e90, e900, cond_true, cond_false]; exact mole_dead _
      | false =>
      cases e901 : Nat.beq id 901 with
      | true => simp only [upd, e5, e90, e900, e901, cond_true, cond_false]; exact mole_dead _
      | false =>
      cases e13 : Nat.beq id 13 with
      | true => simp only [upd, e5, e90, e900, e901, e13, cond_true, cond_false]; exact mole_dead _
      | false =>
      cases e14 : Nat.beq id 14 with
      | true => simp only [upd, e5, e90, e900, e901, e13, e14, cond_true, cond_false]; exact mole_dead _
      | false =>
        rw [hH id e5 e90 e14 e13 e901 e900]
        simp only [upd, e5, e90, e900, e901, e13, e14, cond_true, cond_false]
        exact MOle.refl _
  rcases hp with rfl | rfl
  · refine Run.go ?_; (conv => whnf); repeat' (first | ((with_reducible refine Know.mk fun _ => ?_); conv => whnf) | ((with_reducible refine Need.mk ?_ ?_); exact nd; conv => whnf) | ((with_reducible first | refine Both.mk ?_ ?_ | refine Any.mk fun b hb => ?_ | refine AskB.dec (fun hb => ?_) (fun hb => ?_) | refine AskB.ndec (fun hb => ?_) (fun hb => ?_) | refine AskB.mk (fun hb => ?_) (fun hb => ?_)) <;> conv => whnf) | ((with_reducible first | refine Run.drawX rfl (by decide +kernel) ?_ | refine Run.drawT rfl (by decide +kernel) ?_ | refine Run.drawW rfl (by decide +kernel) ?_); conv => whnf) | fail)
    refine Run.inline 901 Tryz.f56 _ 20 rfl rfl Tryz.func56 rfl (by decide) rfl (by decide) rfl rfl (fun a2 hsz2 hdf2 => ?_)
    refine Run.go ?_; (conv => whnf); repeat' (first | ((with_reducible refine Know.mk fun _ => ?_); conv => whnf) | ((with_reducible refine Need.mk ?_ ?_); exact nd; conv => whnf) | ((with_reducible first | refine Both.mk ?_ ?_ | refine Any.mk fun b hb => ?_ | refine AskB.dec (fun hb => ?_) (fun hb => ?_) | refine AskB.ndec (fun hb => ?_) (fun hb => ?_) | refine AskB.mk (fun hb => ?_) (fun hb => ?_)) <;> conv => whnf) | ((with_reducible first | refine Run.drawX rfl (by decide +kernel) ?_ | refine Run.drawT rfl (by decide +kernel) ?_ | refine Run.drawW rfl (by decide +kernel) ?_); conv => whnf) | fail)
    refine Run.toUnsafe (id := 6) (l := [.nilp, .row 90]) (e := 77) (t := 77) (src := 74) (dst := 127) (x := .tmp 8) rfl rfl rfl rfl rfl rfl (by decide) (by kernel_rfl) (by kernel_rfl) (j := (Tryz.prog.info? 77).get (by kernel_rfl)) (by kernel_rfl) (by decide +kernel) ?_
    refine Run.noEscape (f := 75) (x := .tmp 9) rfl rfl rfl rfl Tryz.func75 (by kernel_rfl) (by kernel_rfl) (by kernel_rfl) (by kernel_rfl) ?_
    refine Run.fromUnsafe (id := 6) (l := [.nilp, .row 90]) (e := 77) (u := 77) (src := 127) (dst := 74) (x := .tmp 10) rfl rfl rfl rfl rfl rfl (by kernel_rfl) (by kernel_rfl) (j := (Tryz.prog.info? 77).get (by kernel_rfl)) (by kernel_rfl) (by kernel_rfl) ?_
    refine Run.go ?_; (conv => whnf); repeat' (first | ((with_reducible refine Know.mk fun _ => ?_); conv => whnf) | ((with_reducible refine Need.mk ?_ ?_); exact nd; conv => whnf) | ((with_reducible first | refine Both.mk ?_ ?_ | refine Any.mk fun b hb => ?_ | refine AskB.dec (fun hb => ?_) (fun hb => ?_) | refine AskB.ndec (fun hb => ?_) (fun hb => ?_) | refine AskB.mk (fun hb => ?_) (fun hb => ?_)) <;> conv => whnf) | ((with_reducible first | refine Run.drawX rfl (by decide +kernel) ?_ | refine Run.drawT rfl (by decide +kernel) ?_ | refine Run.drawW rfl (by decide +kernel) ?_); conv => whnf) | fail)
    refine Run.back 901 (ts := []) hsz2 hdf2 (.inl rfl) (by rfl) Tryz.func56 rfl ?_
    refine Run.go ?_; (conv => whnf); repeat' (first | ((with_reducible refine Know.mk fun _ => ?_); conv => whnf) | ((with_reducible refine Need.mk ?_ ?_); exact nd; conv => whnf) | ((with_reducible first | refine Both.mk ?_ ?_ | refine Any.mk fun b hb => ?_ | refine AskB.dec (fun hb => ?_) (fun hb => ?_) | refine AskB.ndec (fun hb => ?_) (fun hb => ?_) | refine AskB.mk (fun hb => ?_) (fun hb => ?_)) <;> conv => whnf) | ((with_reducible first | refine Run.drawX rfl (by decide +kernel) ?_ | refine Run.drawT rfl (by decide +kernel) ?_ | refine Run.drawW rfl (by decide +kernel) ?_); conv => whnf) | fail)
    refine Run.back 900 (ts := [4]) hsz hdf (.inr ⟨_, rfl⟩) (by rfl) Tryz.func77 rfl ?_
    refine Run.holdBoxRow 6 1 90 14 (by rfl) (by rfl) (by rfl) rfl rfl rfl ?_
    refine fin _ _ _ (fun i => rfl) (fun id e5 e90 e14 e13 e901 e900 => ?_) (MOle.refl _) (bytesG_push 5 t u _ rfl)
    simp only [upd, scrubH, scrubM, bldr, e5, e90, e14, e13, e901, e900, cond_false]
  · refine Run.go ?_; (conv => whnf); repeat' (first | ((with_reducible refine Know.mk fun _ => ?_); conv => whnf) | ((with_reducible refine Need.mk ?_ ?_); exact nd; conv => whnf) | ((with_reducible first | refine Both.mk ?_ ?_ | refine Any.mk fun b hb => ?_ | refine AskB.dec (fun hb => ?_) (fun hb => ?_) | refine AskB.ndec (fun hb => ?_) (fun hb => ?_) | refine AskB.mk (fun hb => ?_) (fun hb => ?_)) <;> conv => whnf) | ((with_reducible first | refine Run.drawX rfl (by decide +kernel) ?_ | refine Run.drawT rfl (by decide +kernel) ?_ | refine Run.drawW rfl (by decide +kernel) ?_); conv => whnf) | fail)
    refine Run.inline 901 Tryz.f56 _ 20 rfl rfl Tryz.func56 rfl (by decide) rfl (by decide) rfl rfl (fun a2 hsz2 hdf2 => ?_)
    refine Run.go ?_; (conv => whnf); repeat' (first | ((with_reducible refine Know.mk fun _ => ?_); conv => whnf) | ((with_reducible refine Need.mk ?_ ?_); exact nd; conv => whnf) | ((with_reducible first | refine Both.mk ?_ ?_ | refine Any.mk fun b hb => ?_ | refine AskB.dec (fun hb => ?_) (fun hb => ?_) | refine AskB.ndec (fun hb => ?_) (fun hb => ?_) | refine AskB.mk (fun hb => ?_) (fun hb => ?_)) <;> conv => whnf) | ((with_reducible first | refine Run.drawX rfl (by decide +kernel) ?_ | refine Run.drawT rfl (by decide +kernel) ?_ | refine Run.drawW rfl (by decide +kernel) ?_); conv => whnf) | fail)
    refine Run.back 901 (ts := []) hsz2 hdf2 (.inl rfl) (by rfl) Tryz.func56 rfl ?_
    refine Run.go ?_; (conv => whnf); repeat' (first | ((with_reducible refine Know.mk fun _ => ?_); conv => whnf) | ((with_reducible refine Need.mk ?_ ?_); exact nd; conv => whnf) | ((with_reducible first | refine Both.mk ?_ ?_ | refine Any.mk fun b hb => ?_ | refine AskB.dec (fun hb => ?_) (fun hb => ?_) | refine AskB.ndec (fun hb => ?_) (fun hb => ?_) | refine AskB.mk (fun hb => ?_) (fun hb => ?_)) <;> conv => whnf) | ((with_reducible first | refine Run.drawX rfl (by decide +kernel) ?_ | refine Run.drawT rfl (by decide +kernel) ?_ | refine Run.drawW rfl (by decide +kernel) ?_); conv => whnf) | fail)
    refine Run.back 900 (ts := [4]) hsz hdf (.inr ⟨_, rfl⟩) (by rfl) Tryz.func77 rfl ?_
    refine Run.holdBoxRow 6 1 90 14 (by rfl) (by rfl) (by rfl) rfl rfl rfl ?_
    refine fin _ _ _ (fun i => rfl) (fun id e5 e90 e14 e13 e901 e900 => ?_) (MOle.refl _) (bytesG_push 5 t u _ rfl)
    simp only [upd, scrubH, scrubM, bldr, e5, e90, e14, e13, e901, e900, cond_false]

theorem bs6 {N : Nat} {w0 : World} {S : Nat → Prop} {gl : GlobOk S w0} {f : FuncId} {R : Ending → World → Prop} {ops : Array Oper} {i : Nat} {rest : List Nat} {k : List Item} {env : Env} {h : Heap} {o : Oper} {x : Operand}
    (p : AV) (t : ByteArray) (ho : ops.toList[i]? = some o) (hc : calls? o = some (33, [x])) (hd : okD N o.dst = true) (hr : ready env ops o = true) (hx : ev (scrubE 900 env) x = .box 6 0)
    (next : Run ⟨Tryz.prog, TB, tbOk, N, w0, S, gl, f, R⟩ (.inRegion ops rest :: k) (putE (scrubE 900 env) o.dst (.str t)) (upd (upd (upd (scrubH 900 h) 900 .dead) 6 .dead) 90 .dead)) :
    Run ⟨Tryz.prog, TB, tbOk, N, w0, S, gl, f, R⟩ (.inRegion ops (i :: rest) :: k) env (bldr 77 5 6 90 h p t) := by
  refine Run.inline 900 Tryz.f33 _ 14 ho hc Tryz.func33 rfl (by decide) rfl (by show 1 ≤ 14; decide) hd hr (fun a hsz hdf => ?_)
  simp only [List.map, hx]
  have fin : ∀ (H : Heap), (∀ id, Nat.beq id 6 = false → Nat.beq id 90 = false → Nat.beq id 900 = false → H id = scrubM 900 (h id)) →
      Run ⟨Tryz.prog, TB, tbOk, N, w0, S, gl, f, R⟩ (.inRegion ops rest :: k) (putE (scrubE 900 env) o.dst (.str t)) H := by
    intro H hH
    refine Run.weaken (fun i => Le.refl _) (fun id => ?_) next
    cases e5 : Nat.beq id 6 with
    | true => simp only [upd, e5, cond_true, cond_false]; cases Nat.beq id 90 <;> exact mole_dead _
    | false =>
    cases e90 : Nat.beq id 90 with
    | true => simp only [upd, e5, e90, cond_true, cond_false]; exact mole_dead _
    | false =>
    cases e900 : Nat.beq id 900 with
    | true => simp only [upd, e5, e90, e900, cond_true, cond_false]; exact mole_dead _
    | false =>
      rw [hH id e5 e90 e900]
      simp only [upd, e5, e90, e900, cond_true, cond_false]
      exact MOle.refl _
  refine Run.go ?_; (conv => whnf); repeat' (first | ((with_reducible refine Know.mk fun _ => ?_); conv => whnf) | ((with_reducible refine Need.mk ?_ ?_); exact nd; conv => whnf) | ((with_reducible first | refine Both.mk ?_ ?_ | refine Any.mk fun b hb => ?_ | refine AskB.dec (fun hb => ?_) (fun hb => ?_) | refine AskB.ndec (fun hb => ?_) (fun hb => ?_) | refine AskB.mk (fun hb => ?_) (fun hb => ?_)) <;> conv => whnf) | ((with_reducible first | refine Run.drawX rfl (by decide +kernel) ?_ | refine Run.drawT rfl (by decide +kernel) ?_ | refine Run.drawW rfl (by decide +kernel) ?_); conv => whnf) | fail)
  · refine Run.unsafeString0 (i := 10) (rest := [11]) (k := [.code .ret]) (x := .tmp 7) (y := .tmp 12) (c := ⟨.builtin .unsafeString, #[.tmp 7, .tmp 12], #[106, 3]⟩) rfl rfl rfl rfl rfl rfl rfl (.inl rfl) (by show AV.int .i64 (t.size : Int) = _; rw [hb]; rfl) ?_
    have ht : t = .empty := by simpa using hb
    refine Run.go ?_; (conv => whnf); repeat' (first | ((with_reducible refine Know.mk fun _ => ?_); conv => whnf) | ((with_reducible refine Need.mk ?_ ?_); exact nd; conv => whnf) | ((with_reducible first | refine Both.mk ?_ ?_ | refine Any.mk fun b hb => ?_ | refine AskB.dec (fun hb => ?_) (fun hb => ?_) | refine AskB.ndec (fun hb => ?_) (fun hb => ?_) | refine AskB.mk (fun hb => ?_) (fun hb => ?_)) <;> conv => whnf) | ((with_reducible first | refine Run.drawX rfl (by decide +kernel) ?_ | refine Run.drawT rfl (by decide +kernel) ?_ | refine Run.drawW rfl (by decide +kernel) ?_); conv => whnf) | fail)
    refine Run.back 900 (ts := [2]) hsz hdf (.inr ⟨_, rfl⟩) (by rfl) Tryz.func33 rfl ?_
    rw [ht] at fin next ⊢
    exact fin _ (fun id e5 e90 e900 => by simp only [upd, scrubH, bldr, e5, e90, e900, cond_false])
  · refine Run.unsafeString (i := 10) (rest := [11]) (k := [.code .ret]) (x := .tmp 7) (y := .tmp 12) (c := ⟨.builtin .unsafeString, #[.tmp 7, .tmp 12], #[106, 3]⟩) t rfl rfl rfl rfl rfl rfl rfl rfl rfl (e := 5) (n := t.size) (q := 90) (get := bytesG t) rfl rfl hb (fun _ _ => rfl) (by kernel_rfl) (by kernel_rfl) ?_
    refine Run.go ?_; (conv => whnf); repeat' (first | ((with_reducible refine Know.mk fun _ => ?_); conv => whnf) | ((with_reducible refine Need.mk ?_ ?_); exact nd; conv => whnf) | ((with_reducible first | refine Both.mk ?_ ?_ | refine Any.mk fun b hb => ?_ | refine AskB.dec (fun hb => ?_) (fun hb => ?_) | refine AskB.ndec (fun hb => ?_) (fun hb => ?_) | refine AskB.mk (fun hb => ?_) (fun hb => ?_)) <;> conv => whnf) | ((with_reducible first | refine Run.drawX rfl (by decide +kernel) ?_ | refine Run.drawT rfl (by decide +kernel) ?_ | refine Run.drawW rfl (by decide +kernel) ?_); conv => whnf) | fail)
    refine Run.back 900 (ts := [2]) hsz hdf (.inr ⟨_, rfl⟩) (by rfl) Tryz.func33 rfl ?_
    exact fin _ (fun id e5 e90 e900 => by simp only [upd, scrubH, bldr, e5, e90, e900, cond_false])

/-- What a cell becomes. -/
def cellF (o : Int) (c : Cel) : ByteArray := if c.bad = true then ⟨#[UInt8.ofNat c.byte.toNat]⟩ else foldR c.r o
def catC (o : Int) : List Cel → ByteArray
  | [] => .empty
  | c :: r => cellF o c ++ catC o r
theorem catC_app (o : Int) : ∀ a b : List Cel, catC o (a ++ b) = catC o a ++ catC o b
  | [], b => by simp [catC]
  | x :: a, b => by simp only [List.cons_append, catC]; rw [catC_app o a b, ByteArray.append_assoc]
theorem catC_take (o : Int) (l : List Cel) (j : Nat) (h : j < l.length) : catC o (l.take (j + 1)) = catC o (l.take j) ++ cellF o (l.getD j tCel.z) := by
  rw [List.take_succ_eq_append_getElem h, catC_app, List.getD, List.getElem?_eq_getElem h]; simp [catC]
theorem cellF_size (o : Int) (c : Cel) : (cellF o c).size ≤ 12 := by
  unfold cellF
  split
  · exact Nat.le_of_ble_eq_true rfl
  · exact foldR_size _ _
theorem catC_size (o : Int) : ∀ l : List Cel, (catC o l).size ≤ 12 * l.length
  | [] => by simp [catC]
  | x :: r => by
    have h1 := catC_size o r
    have h2 := cellF_size o x
    simp only [catC, ByteArray.size_append, List.length_cons]; omega
/-- What a text becomes. -/
def textF (s : ByteArray) (o : Int) : ByteArray := catC o (cells s 0)
def badO (o : Int) : Prop := o < 0 ∨ 31 < o
instance (o : Int) : Decidable (badO o) := by unfold badO; infer_instance
def textL (s : ByteArray) (o : Int) : AV := tupL [.str (if badO o then .empty else textF s o), .int .i64 (if badO o then 2 else 0)]
theorem cell_byte (s : ByteArray) (p : Nat) : ∀ c ∈ cells s p, ((UInt8.ofNat c.byte.toNat).toNat : Int) = c.byte := by
  intro c hc
  by_cases h : p < s.size
  · have hw := Lib.width_pos s p
    rw [cells_in h] at hc
    rcases List.mem_cons.mp hc with rfl | hc
    · unfold cellAt
      split
      · have := bt_lt s p
        simp only [UInt8.toNat_ofNat']
        omega
      · rfl
    · exact cell_byte s (p + (Utf8.decode s p).2) c hc
  · rw [cells_out h] at hc; cases hc
termination_by s.size - p
theorem text26_fn (s : ByteArray) (o : Int) (hs : s.size ≤ 134217728) : Fn Tryz.prog 60 [.str s, .int .i64 o] (textL s o) := by
  refine Fn.of Tryz.f60 _ Tryz.func60 rfl (by decide) (by show 2 ≤ _; decide) tbOk 33 rfl fun S w0 gl => ?_
  refine Run.go ?_; (conv => whnf); repeat' (first | ((with_reducible refine Know.mk fun _ => ?_); conv => whnf) | ((with_reducible refine Need.mk ?_ ?_); exact nd; conv => whnf) | ((with_reducible first | refine Both.mk ?_ ?_ | refine Any.mk fun b hb => ?_ | refine AskB.dec (fun hb => ?_) (fun hb => ?_) | refine AskB.ndec (fun hb => ?_) (fun hb => ?_) | refine AskB.mk (fun hb => ?_) (fun hb => ?_)) <;> conv => whnf) | ((with_reducible first | refine Run.drawX rfl (by decide +kernel) ?_ | refine Run.drawT rfl (by decide +kernel) ?_ | refine Run.drawW rfl (by decide +kernel) ?_); conv => whnf) | fail)
  refine Run.callBX (wrong37_fn o) rfl rfl ⟨Le.refl _, trivial⟩ rfl rfl rfl ?_
  (conv => whnf); repeat' (first | ((with_reducible refine Know.mk fun _ => ?_); conv => whnf) | ((with_reducible refine Need.mk ?_ ?_); exact nd; conv => whnf) | ((with_reducible first | refine Both.mk ?_ ?_ | refine Any.mk fun b hb => ?_ | refine AskB.dec (fun hb => ?_) (fun hb => ?_) | refine AskB.ndec (fun hb => ?_) (fun hb => ?_) | refine AskB.mk (fun hb => ?_) (fun hb => ?_)) <;> conv => whnf) | ((with_reducible first | refine Run.drawX rfl (by decide +kernel) ?_ | refine Run.drawT rfl (by decide +kernel) ?_ | refine Run.drawW rfl (by decide +kernel) ?_); conv => whnf) | fail)
  · have hbad : badO o := hb
    unfold textL
    rw [if_pos hbad, if_pos hbad]
    exact Run.leave (ts := [4,5]) (.inr ⟨_, rfl⟩) rfl Tryz.func60 rfl (resT ⟨Le.refl _, Le.refl _, trivial⟩)
  have hok : ¬ badO o := hb
  unfold textL
  rw [if_neg hok, if_neg hok]
  have ho : 0 ≤ o ∧ o ≤ 31 := by unfold badO at hok; omega
  refine Run.callBX (steps38_fn o ho.1 ho.2) rfl rfl ⟨Le.refl _, trivial⟩ rfl rfl rfl ?_
  (conv => whnf); repeat' (first | ((with_reducible refine Know.mk fun _ => ?_); conv => whnf) | ((with_reducible refine Need.mk ?_ ?_); exact nd; conv => whnf) | ((with_reducible first | refine Both.mk ?_ ?_ | refine Any.mk fun b hb => ?_ | refine AskB.dec (fun hb => ?_) (fun hb => ?_) | refine AskB.ndec (fun hb => ?_) (fun hb => ?_) | refine AskB.mk (fun hb => ?_) (fun hb => ?_)) <;> conv => whnf) | ((with_reducible first | refine Run.drawX rfl (by decide +kernel) ?_ | refine Run.drawT rfl (by decide +kernel) ?_ | refine Run.drawW rfl (by decide +kernel) ?_); conv => whnf) | fail)
  refine Run.callBX (cells_fn s hs) rfl rfl ⟨Le.refl _, trivial⟩ rfl rfl rfl ?_
  (conv => whnf); repeat' (first | ((with_reducible refine Know.mk fun _ => ?_); conv => whnf) | ((with_reducible refine Need.mk ?_ ?_); exact nd; conv => whnf) | ((with_reducible first | refine Both.mk ?_ ?_ | refine Any.mk fun b hb => ?_ | refine AskB.dec (fun hb => ?_) (fun hb => ?_) | refine AskB.ndec (fun hb => ?_) (fun hb => ?_) | refine AskB.mk (fun hb => ?_) (fun hb => ?_)) <;> conv => whnf) | ((with_reducible first | refine Run.drawX rfl (by decide +kernel) ?_ | refine Run.drawT rfl (by decide +kernel) ?_ | refine Run.drawW rfl (by decide +kernel) ?_); conv => whnf) | fail)
  refine Run.holdBoxNil 6 1 90 5 1 (bytesG .empty) rfl rfl rfl rfl ?_
  have hcl := cells_len s 0
  have hT : ∀ j, (catC o ((cells s 0).take j)).size ≤ 2000000000 := fun j => by
    have h1 := catC_size o ((cells s 0).take j)
    have h2 : ((cells s 0).take j).length ≤ (cells s 0).length := by rw [List.length_take]; omega
    omega
  have hby := cell_byte s 0
  unfold textF
  generalize cells s 0 = L at hcl hT hby ⊢
  refine Run.loop [1, 6, 7, 15, 16] (fun (a : Nat × AV) => [(17, .int .i64 (a.1 : Int))]) (fun b => [(6, .box 77 [b.2, .row 90]), (90, .row 5 1 (catC o (L.take b.1)).size (bytesG (catC o (L.take b.1))))]) (fun a => a.1 ≤ L.length ∧ (a.2 = .nilp ∨ a.2 = .box 6 0)) (fun a => L.length - a.1) (0, .nilp) ⟨Nat.zero_le _, .inl rfl⟩ ⟨Le.refl _, trivial⟩ ⟨MOle.refl _, MOle.refl _, trivial⟩ ?_
  intro ⟨j, p⟩ ⟨hj, hp⟩ IH
  simp only [] at hj hp ⊢
  have hwj : IntKind.i64.wrap ((j : Int) + 1) = ((j + 1 : Nat) : Int) := wrap64 (by omega) (by omega)
  have hTj := hT j
  refine Run.go ?_; (conv => whnf); repeat' (first | ((with_reducible refine Know.mk fun _ => ?_); conv => whnf) | ((with_reducible refine Need.mk ?_ ?_); exact nd; conv => whnf) | ((with_reducible first | refine Both.mk ?_ ?_ | refine Any.mk fun b hb => ?_ | refine AskB.dec (fun hb => ?_) (fun hb => ?_) | refine AskB.ndec (fun hb => ?_) (fun hb => ?_) | refine AskB.mk (fun hb => ?_) (fun hb => ?_)) <;> conv => whnf) | ((with_reducible first | refine Run.drawX rfl (by decide +kernel) ?_ | refine Run.drawT rfl (by decide +kernel) ?_ | refine Run.drawW rfl (by decide +kernel) ?_); conv => whnf) | fail)
  case _ =>
    have hjl : j < L.length := by omega
    have hb2 : (L.getD j tCel.z).bad = true := hb
    have hcf : cellF o (L.getD j tCel.z) = ⟨#[UInt8.ofNat (L.getD j tCel.z).byte.toNat]⟩ := if_pos hb2
    refine Run.bldr 77 5 6 90 p (catC o (L.take j)) (by rcases hp with rfl | rfl <;> exact MOle.refl _) (MOle.refl _) ?_
    refine wb6 p _ (UInt8.ofNat (L.getD j tCel.z).byte.toNat) rfl rfl rfl rfl rfl ?_ (by omega) hp ?_
    · rw [hby _ (by rw [List.getD, List.getElem?_eq_getElem hjl]; exact List.getElem_mem hjl)]; rfl
    refine Run.go ?_; (conv => whnf); repeat' (first | ((with_reducible refine Know.mk fun _ => ?_); conv => whnf) | ((with_reducible refine Need.mk ?_ ?_); exact nd; conv => whnf) | ((with_reducible first | refine Both.mk ?_ ?_ | refine Any.mk fun b hb => ?_ | refine AskB.dec (fun hb => ?_) (fun hb => ?_) | refine AskB.ndec (fun hb => ?_) (fun hb => ?_) | refine AskB.mk (fun hb => ?_) (fun hb => ?_)) <;> conv => whnf) | ((with_reducible first | refine Run.drawX rfl (by decide +kernel) ?_ | refine Run.drawT rfl (by decide +kernel) ?_ | refine Run.drawW rfl (by decide +kernel) ?_); conv => whnf) | fail)
    refine Run.to _ _ ?_ ?_ (IH (j + 1, .box 6 0) (by simp only []; omega) ⟨by simp only []; omega, .inr rfl⟩)
    · exact ⟨Le.refl _, Le.refl _, Le.refl _, Le.refl _, Le.refl _, Le.int hwj, trivial⟩
    · refine ⟨MOle.refl _, ?_, trivial⟩
      simp only []
      rw [catC_take _ _ _ hjl, hcf]
      exact MOle.refl _
  case _ =>
    have hjl : j < L.length := by omega
    have hb2 : (L.getD j tCel.z).bad = false := hb
    have hcf : cellF o (L.getD j tCel.z) = foldR (L.getD j tCel.z).r o := if_neg (by rw [hb2]; exact Bool.noConfusion)
    refine Run.to [(1, .int .i64 o), (6, .box 6 0), (7, tF.L (stepsF o)), (15, tCel.L L), (16, .int .i64 L.length), (17, .int .i64 j), (27, .int .i32 (L.getD j tCel.z).r), (28, .int .i64 o), (29, tF.L (stepsF o))] [(6, .box 77 [p, .row 90]), (90, .row 5 1 (catC o (L.take j)).size (bytesG (catC o (L.take j))))]
      ⟨Le.refl _, Le.refl _, Le.refl _, Le.refl _, Le.refl _, Le.refl _, Le.refl _, Le.refl _, Le.refl _, trivial⟩ ⟨by rcases hp with rfl | rfl <;> exact MOle.refl _, MOle.refl _, trivial⟩ ?_
    refine fold41 _ p _ (L.getD j tCel.z).r o rfl rfl rfl rfl rfl rfl rfl rfl ?_ (by omega) hp ho.1 ho.2 ?_
    · exact ⟨⟨rfl, rfl, rfl, fun _ _ => rfl⟩, ⟨rfl, rfl, rfl, fun _ _ => rfl⟩, ⟨rfl, rfl, rfl, fun _ _ => rfl⟩, ⟨rfl, rfl, rfl, fun _ _ => rfl⟩, ⟨rfl, rfl, rfl, fun _ _ => rfl⟩, ⟨rfl, rfl, rfl, fun _ _ => rfl⟩, ⟨rfl, rfl, rfl, fun _ _ => rfl⟩, ⟨rfl, rfl, rfl, fun _ _ => rfl⟩, ⟨rfl, rfl, rfl, fun _ _ => rfl⟩, trivial⟩
    intro p' hp'
    refine Run.go ?_; (conv => whnf); repeat' (first | ((with_reducible refine Know.mk fun _ => ?_); conv => whnf) | ((with_reducible refine Need.mk ?_ ?_); exact nd; conv => whnf) | ((with_reducible first | refine Both.mk ?_ ?_ | refine Any.mk fun b hb => ?_ | refine AskB.dec (fun hb => ?_) (fun hb => ?_) | refine AskB.ndec (fun hb => ?_) (fun hb => ?_) | refine AskB.mk (fun hb => ?_) (fun hb => ?_)) <;> conv => whnf) | ((with_reducible first | refine Run.drawX rfl (by decide +kernel) ?_ | refine Run.drawT rfl (by decide +kernel) ?_ | refine Run.drawW rfl (by decide +kernel) ?_); conv => whnf) | fail)
    refine Run.to _ _ ?_ ?_ (IH (j + 1, p') (by simp only []; omega) ⟨by simp only []; omega, hp'⟩)
    · exact ⟨Le.refl _, Le.refl _, Le.refl _, Le.refl _, Le.refl _, Le.int hwj, trivial⟩
    · refine ⟨MOle.refl _, ?_, trivial⟩
      simp only []
      rw [catC_take _ _ _ hjl, hcf]
      exact MOle.refl _
  case _ =>
    obtain rfl : j = L.length := by omega
    refine Run.bldr 77 5 6 90 p (catC o (L.take L.length)) (MOle.refl _) (MOle.refl _) ?_
    refine bs6 p _ rfl rfl rfl rfl rfl ?_
    rw [List.take_length]
    refine Run.go ?_; (conv => whnf); repeat' (first | ((with_reducible refine Know.mk fun _ => ?_); conv => whnf) | ((with_reducible refine Need.mk ?_ ?_); exact nd; conv => whnf) | ((with_reducible first | refine Both.mk ?_ ?_ | refine Any.mk fun b hb => ?_ | refine AskB.dec (fun hb => ?_) (fun hb => ?_) | refine AskB.ndec (fun hb => ?_) (fun hb => ?_) | refine AskB.mk (fun hb => ?_) (fun hb => ?_)) <;> conv => whnf) | ((with_reducible first | refine Run.drawX rfl (by decide +kernel) ?_ | refine Run.drawT rfl (by decide +kernel) ?_ | refine Run.drawW rfl (by decide +kernel) ?_); conv => whnf) | fail)
    exact Run.leave (ts := [4,5]) (.inr ⟨_, rfl⟩) rfl Tryz.func60 rfl (resT ⟨Le.refl _, Le.refl _, trivial⟩)
/-- What a number becomes. -/
def runeL (r o : Int) : AV := tupL [.str (if badO o then .empty else foldR r o), .int .i64 (if badO o then 2 else 0)]
end Go.Proofs.YteklnpgiloebcaaGreatDoor.V

namespace Go.Proofs.YteklnpgiloebcaaGreatDoor.V
set_option linter.unusedVariables false
set_option linter.unusedSimpArgs false
open Go Go.Proofs Go.RowKit
set_option maxRecDepth 100000
set_option maxHeartbeats 4000000
open Go Go.Proofs Go.Proofs.YteklnpgiloebcaaGreatDoor.V
theorem runes_ascii (s : ByteArray) (h : ∀ i, bt s i < 128) (p : Nat) : runesE s p = (s.data.toList.drop p).map fun b => (b.toNat : Int) := by
  by_cases hp : p < s.size
  · have hp' : p < s.data.toList.length := by simpa using hp
    rw [runesE_in hp, dec_ascii (h p), runes_ascii s h (p + 1), List.drop_eq_getElem_cons hp', List.map_cons]
    congr 1
    unfold bt
    rw [List.getD, List.getElem?_eq_getElem hp']
    simp
  · have hp' : s.data.toList.length ≤ p := by simpa using hp
    rw [runesE_out hp, List.drop_eq_nil_of_le hp']; rfl
termination_by s.size - p
def bytesI (s : ByteArray) : List Int := s.data.toList.map fun b => (b.toNat : Int)
theorem ligB_ascii (r : Int) (i : Nat) : bt (ligB r) i < 128 := by
  have key : ∀ s : ByteArray, (s.data.toList.all fun b => b.toNat < 128) = true → bt s i < 128 := fun s hs => by
    unfold bt
    by_cases hi : i < s.data.toList.length
    · rw [List.getD, List.getElem?_eq_getElem hi]
      have := List.all_eq_true.mp hs _ (List.getElem_mem hi)
      have := of_decide_eq_true this
      simp only [Option.getD_some]; omega
    · rw [List.getD, List.getElem?_eq_none (by omega)]; decide
  apply key
  unfold ligB
  repeat' split
  all_goals first | rfl | skip
  rename_i h
  obtain ⟨k, hk⟩ : ∃ k : Fin 7, k.val = (r - 64256).toNat := ⟨⟨(r - 64256).toNat, by omega⟩, rfl⟩
  rw [← hk]
  clear hk h
  revert k; decide +kernel
theorem runes_lig (r : Int) : runesE (ligB r) 0 = bytesI (ligB r) := runes_ascii _ (ligB_ascii r) 0
theorem runesV_eq (r o : Int) : runesV r o = if isLig r = true ∧ o / 4 % 2 = 1 then bytesI (ligB r) else [r] := by
  unfold runesV
  rw [runes_lig]
end Go.Proofs.YteklnpgiloebcaaGreatDoor.V

namespace Go.Proofs.YteklnpgiloebcaaGreatDoor.V
set_option linter.unusedVariables false
set_option linter.unusedSimpArgs false
open Go
set_option maxRecDepth 100000
/-- A text of these bytes. -/
def bl (l : List UInt8) : ByteArray := ⟨l.toArray⟩
theorem bl_list (l : List UInt8) : (bl l).data.toList = l := by simp [bl]
theorem bl_app (a b : List UInt8) : bl (a ++ b) = bl a ++ bl b := by
  apply ByteArray.ext; apply Array.ext'; simp [bl]
theorem enc_eq (r : Int) : Utf8.encode r = bl (Lib.encodeRune r) := by
  unfold bl Utf8.encode Lib.encodeRune Lib.encodeRuneZ
  by_cases hv : Utf8.valid r = true
  · have h : (0 ≤ r ∧ r < 55296) ∨ (57344 ≤ r ∧ r ≤ 1114111) := by simpa [Utf8.valid] using hv
    obtain ⟨n, rfl⟩ : ∃ n : Nat, r = n := ⟨r.toNat, by omega⟩
    simp only [hv, if_true, Int.toNat_natCast]
    have t : ∀ (a b : Nat), (((a : Int) + (b : Int)).toNat.toUInt8) = UInt8.ofNat (a + b) := fun a b => by
      rw [show ((a : Int) + (b : Int)).toNat = a + b by omega]
    by_cases h1 : n < 128
    · rw [if_pos h1, if_pos (by omega)]
      simp [Nat.toUInt8]
    by_cases h2 : n < 2048
    · rw [if_neg h1, if_pos h2, if_neg (by omega), if_pos (by omega)]
      simp only [List.map_cons, List.map_nil]
      have e1 : (192 + (n : Int) / 64).toNat = 192 + n / 64 := by omega
      have e2 : (128 + (n : Int) % 64).toNat = 128 + n % 64 := by omega
      rw [e1, e2]
    by_cases h3 : n < 65536
    · rw [if_neg h1, if_neg h2, if_pos h3, if_neg (by omega), if_neg (by omega), if_pos (by omega)]
      simp only [List.map_cons, List.map_nil]
      have e1 : (224 + (n : Int) / 4096).toNat = 224 + n / 4096 := by omega
      have e2 : (128 + (n : Int) / 64 % 64).toNat = 128 + n / 64 % 64 := by omega
      have e3 : (128 + (n : Int) % 64).toNat = 128 + n % 64 := by omega
      rw [e1, e2, e3]
    · rw [if_neg h1, if_neg h2, if_neg h3, if_neg (by omega), if_neg (by omega), if_neg (by omega), if_pos (by omega)]
      simp only [List.map_cons, List.map_nil]
      have e0 : (240 + (n : Int) / 262144).toNat = 240 + n / 262144 := by omega
      have e1 : (128 + (n : Int) / 4096 % 64).toNat = 128 + n / 4096 % 64 := by omega
      have e2 : (128 + (n : Int) / 64 % 64).toNat = 128 + n / 64 % 64 := by omega
      have e3 : (128 + (n : Int) % 64).toNat = 128 + n % 64 := by omega
      rw [e0, e1, e2, e3]
  · have h : ¬ ((0 ≤ r ∧ r < 55296) ∨ (57344 ≤ r ∧ r ≤ 1114111)) := by simpa [Utf8.valid] using hv
    have hv' : Utf8.valid r = false := by simpa using hv
    simp only [hv', Bool.false_eq_true, if_false]
    rw [if_neg (show ¬ (0 ≤ r ∧ r ≤ 127) by omega), if_neg (show ¬ (128 ≤ r ∧ r ≤ 2047) by omega), if_neg (show ¬ ((2048 ≤ r ∧ r < 55296) ∨ (57343 < r ∧ r ≤ 65535)) by omega), if_neg (show ¬ (65536 ≤ r ∧ r ≤ 1114111) by omega)]
    rfl
theorem toU (x : Int) (h0 : 0 ≤ x) (h1 : x < 256) : (x.toNat.toUInt8).toNat = x.toNat := by
  rw [Nat.toUInt8, UInt8.toNat_ofNat']
  omega
def encs (rs : List Int) : List UInt8 := rs.flatMap Lib.encodeRune
theorem encs_app (a b : List Int) : encs (a ++ b) = encs a ++ encs b := by unfold encs; rw [List.flatMap_append]
theorem encs_cons (r : Int) (b : List Int) : encs (r :: b) = Lib.encodeRune r ++ encs b := rfl

/-- The steps, by their bits. -/
def stepB (c k l : Bool) (x : Int) : Int := cond l (letterV (cond k (bareV (cond c (lowV x) x)) (cond c (lowV x) x))) (cond k (bareV (cond c (lowV x) x)) (cond c (lowV x) x))
theorem stepV_eq (o x : Int) : stepV o x = stepB (decide (o % 2 = 1)) (decide (o / 2 % 2 = 1)) (decide (o / 8 % 2 = 1)) x := by
  unfold stepV appL stepsF stepB
  by_cases h1 : o % 2 = 1 <;> by_cases h2 : o / 2 % 2 = 1 <;> by_cases h3 : o / 8 % 2 = 1 <;> simp [h1, h2, h3, appF]
theorem catE_eq (o : Int) : ∀ l : List Int, catE o l = bl (encs (l.map (stepV o)))
  | [] => rfl
  | x :: r => by
    rw [catE, catE_eq o r, enc_eq, ← bl_app]; rfl
end Go.Proofs.YteklnpgiloebcaaGreatDoor.V

namespace Go.Proofs.YteklnpgiloebcaaGreatDoor.V
set_option linter.unusedVariables false
set_option linter.unusedSimpArgs false
open Go Go.Proofs Go.RowKit
set_option maxRecDepth 100000
set_option maxHeartbeats 4000000
open Go Go.Proofs Go.Proofs.YteklnpgiloebcaaGreatDoor.V
theorem lat_rune : ∀ k : Fin 64, latR.getD k.val 0 ≠ 65533 := by decide +kernel
theorem lat_cells : ∀ (d k : Nat), 64 - k = d → k ≤ 64 → (cells latB (latP.getD k 0)).length = 64 - k ∧ ∀ i, i < 64 - k → ((cells latB (latP.getD k 0)).getD i tCel.z).r = (latR.getD (k + i) 0 : Nat)
  | 0, k, hd, hk => by
    obtain rfl : k = 64 := by omega
    rw [cells_out (by decide)]
    exact ⟨rfl, fun i hi => by omega⟩
  | d + 1, k, hd, hk => by
    obtain ⟨h1, h2, h3⟩ := lat_dec ⟨k, by omega⟩
    have hr := lat_rune ⟨k, by omega⟩
    simp only at h1 h2 h3 hr
    obtain ⟨i1, i2⟩ := lat_cells d (k + 1) (by omega) (by omega)
    rw [cells_in (show latP.getD k 0 < latB.size from h3), h1]
    simp only []
    rw [show latP.getD k 0 + (latP.getD (k + 1) 0 - latP.getD k 0) = latP.getD (k + 1) 0 by omega]
    refine ⟨by rw [List.length_cons, i1]; omega, fun i hi => ?_⟩
    cases i with
    | zero =>
      rw [List.getD_cons_zero]
      unfold cellAt
      rw [h1, if_neg (fun h => hr h.1)]; rfl
    | succ i =>
      rw [List.getD_cons_succ, i2 i (by omega)]
      congr 2; omega
theorem bare45_fn (r : Int) : Fn Tryz.prog 125 [.int .i32 r] (.int .i32 (bareV r)) := by
  refine Fn.of Tryz.f125 _ Tryz.func125 rfl (by decide) (by show 1 ≤ _; decide) tbOk 18 rfl fun S w0 gl => ?_
  obtain ⟨hl, hr⟩ := lat_cells 64 0 rfl (by omega)
  have hw : 192 ≤ r → r ≤ 255 → IntKind.i32.wrap (r - 192) = r - 192 := fun h1 h2 => wrap32 (by omega) (by omega)
  refine Run.go ?_; (conv => whnf); repeat' (first | ((with_reducible refine Know.mk fun _ => ?_); conv => whnf) | ((with_reducible refine Need.mk ?_ ?_); exact nd; conv => whnf) | ((with_reducible first | refine Both.mk ?_ ?_ | refine Any.mk fun b hb => ?_ | refine AskB.dec (fun hb => ?_) (fun hb => ?_) | refine AskB.ndec (fun hb => ?_) (fun hb => ?_) | refine AskB.mk (fun hb => ?_) (fun hb => ?_)) <;> conv => whnf) | ((with_reducible first | refine Run.drawX rfl (by decide +kernel) ?_ | refine Run.drawT rfl (by decide +kernel) ?_ | refine Run.drawW rfl (by decide +kernel) ?_); conv => whnf) | fail)
  · exact Run.leave (ts := [2]) (.inr ⟨_, rfl⟩) rfl Tryz.func125 rfl (Le.int (by unfold bareV; rw [if_pos (.inl hb)]))
  · exact Run.leave (ts := [2]) (.inr ⟨_, rfl⟩) rfl Tryz.func125 rfl (Le.int (by unfold bareV; rw [if_pos (.inr hb)]))
  rename_i hb1
  have hw := hw (by omega) (by omega)
  refine Run.callBX (cells36_fn latB (by decide)) rfl rfl ⟨Le.refl _, trivial⟩ rfl rfl rfl ?_
  have e0 : latP.getD 0 0 = 0 := rfl
  rw [e0] at hl hr
  generalize cells latB 0 = L at hl hr ⊢
  (conv => whnf); repeat' (first | ((with_reducible refine Know.mk fun _ => ?_); conv => whnf) | ((with_reducible refine Need.mk ?_ ?_); exact nd; conv => whnf) | ((with_reducible first | refine Both.mk ?_ ?_ | refine Any.mk fun b hb => ?_ | refine AskB.dec (fun hb => ?_) (fun hb => ?_) | refine AskB.ndec (fun hb => ?_) (fun hb => ?_) | refine AskB.mk (fun hb => ?_) (fun hb => ?_)) <;> conv => whnf) | ((with_reducible first | refine Run.drawX rfl (by decide +kernel) ?_ | refine Run.drawT rfl (by decide +kernel) ?_ | refine Run.drawW rfl (by decide +kernel) ?_); conv => whnf) | fail)
  refine Run.leave (ts := [2]) (.inr ⟨_, rfl⟩) rfl Tryz.func125 rfl (Le.int ?_)
  unfold bareV
  rw [if_neg (by omega), hw]
  have := hr (r - 192).toNat (by omega)
  rw [Nat.zero_add] at this
  exact this
theorem lig61_fn (r : Int) : Fn Tryz.prog 144 [.int .i32 r] (.str (if isLig r = true then ligB r else .empty)) := by
  have hno : ¬ (r = 198 ∨ r = 230 ∨ r = 338 ∨ r = 339 ∨ r = 223 ∨ r = 383 ∨ r = 306 ∨ r = 307 ∨ (64256 ≤ r ∧ r ≤ 64262)) → isLig r = false := fun h => decide_eq_false h
  refine Fn.of Tryz.f144 _ Tryz.func144 rfl (by decide) (by show 1 ≤ _; decide) tbOk 33 rfl fun S w0 gl => ?_
  refine Run.go ?_; (conv => whnf); repeat' (first | ((with_reducible refine Know.mk fun _ => ?_); conv => whnf) | ((with_reducible refine Need.mk ?_ ?_); exact nd; conv => whnf) | ((with_reducible refine Both.mk ?_ ?_) <;> conv => whnf) | ((with_reducible refine Any.mk fun b hb => ?_); conv => whnf) | ((with_reducible first | refine AskB.dec (fun hb => ?_) (fun hb => ?_) | refine AskB.ndec (fun hb => ?_) (fun hb => ?_) | refine AskB.mk (fun hb => ?_) (fun hb => ?_)) <;> first | (exfalso; omega) | (conv => whnf)) | ((with_reducible first | refine Run.drawX rfl (by decide +kernel) ?_ | refine Run.drawT rfl (by decide +kernel) ?_ | refine Run.drawW rfl (by decide +kernel) ?_); conv => whnf) | fail)
  all_goals first
    | (subst hb; exact Run.leave (ts := [2]) (.inr ⟨_, rfl⟩) rfl Tryz.func144 rfl (Le.str (by decide +kernel)))
    | (refine Run.leave (ts := [2]) (.inr ⟨_, rfl⟩) rfl Tryz.func144 rfl (Le.str ?_)
       rw [hno (by omega)]; rfl)
theorem plain46_fn (r : Int) : Fn Tryz.prog 126 [.int .i32 r] (.int .i32 (letterV r)) := by
  refine Fn.of Tryz.f126 _ Tryz.func126 rfl (by decide) (by show 1 ≤ _; decide) tbOk 13 rfl fun S w0 gl => ?_
  refine Run.go ?_; (conv => whnf); repeat' (first | ((with_reducible refine Know.mk fun _ => ?_); conv => whnf) | ((with_reducible refine Need.mk ?_ ?_); exact nd; conv => whnf) | ((with_reducible first | refine Both.mk ?_ ?_ | refine Any.mk fun b hb => ?_ | refine AskB.dec (fun hb => ?_) (fun hb => ?_) | refine AskB.ndec (fun hb => ?_) (fun hb => ?_) | refine AskB.mk (fun hb => ?_) (fun hb => ?_)) <;> conv => whnf) | ((with_reducible first | refine Run.drawX rfl (by decide +kernel) ?_ | refine Run.drawT rfl (by decide +kernel) ?_ | refine Run.drawW rfl (by decide +kernel) ?_); conv => whnf) | fail)
  iterate 4 (· exact Run.leave (ts := [2]) (.inr ⟨_, rfl⟩) rfl Tryz.func126 rfl (Le.int (by subst hb; rfl)))
  · refine Run.leave (ts := [2]) (.inr ⟨_, rfl⟩) rfl Tryz.func126 rfl (Le.int ?_)
    unfold letterV
    rw [if_neg (by omega)]
theorem small44_fn (r : Int) : Fn Tryz.prog 124 [.int .i32 r] (.int .i32 (lowV r)) := by
  have h32 : ∀ x : Int, -1000000 ≤ x → x ≤ 1000000 → IntKind.i32.wrap x = x := fun x h1 h2 => wrap32 (by omega) (by omega)
  have htm : 0 ≤ r → Int.tmod r 2 = r % 2 := fun h => Int.tmod_eq_emod_of_nonneg h
  refine Fn.of Tryz.f124 _ Tryz.func124 rfl (by decide) (by show 1 ≤ _; decide) tbOk 107 rfl fun S w0 gl => ?_
  refine Run.go ?_; (conv => whnf); repeat' (first | ((with_reducible refine Know.mk fun _ => ?_); conv => whnf) | ((with_reducible refine Need.mk ?_ ?_); exact nd; conv => whnf) | ((with_reducible refine Both.mk ?_ ?_) <;> conv => whnf) | ((with_reducible refine Any.mk fun b hb => ?_); conv => whnf) | ((with_reducible first | refine AskB.dec (fun hb => ?_) (fun hb => ?_) | refine AskB.ndec (fun hb => ?_) (fun hb => ?_) | refine AskB.mk (fun hb => ?_) (fun hb => ?_)) <;> first | (exfalso; omega) | (conv => whnf)) | ((with_reducible first | refine Run.drawX rfl (by decide +kernel) ?_ | refine Run.drawT rfl (by decide +kernel) ?_ | refine Run.drawW rfl (by decide +kernel) ?_); conv => whnf) | fail)
  all_goals refine Run.leave (ts := [2]) (.inr ⟨_, rfl⟩) rfl Tryz.func124 rfl (Le.int ?_)
  all_goals unfold lowV
  all_goals first
    | (rw [if_pos (by omega)]; exact h32 _ (by omega) (by omega))
    | (rw [if_neg (by omega), if_pos (by omega)]; exact h32 _ (by omega) (by omega))
    | (rw [if_neg (by omega), if_neg (by omega), if_neg (by omega), if_neg (by omega), if_neg (by omega), if_neg (by omega)])
    | (try rw [h32 _ (by omega) (by omega)]
       (repeat' split) <;> first | omega | (have ht := htm (by omega); omega))
/-- A text's bytes as a slice. -/
def bL (s : ByteArray) : AV := .sl s.size 1 (bytesG s)
theorem bt_bl (l : List Int) (h : ∀ x ∈ l, 0 ≤ x ∧ x < 256) (i : Nat) : bt (bl (l.map fun x => x.toNat.toUInt8)) i = l.getD i 0 := by
  unfold bt
  rw [bl_list]
  by_cases hi : i < l.length
  · rw [List.getD, List.getD, List.getElem?_map, List.getElem?_eq_getElem hi]
    have := h _ (List.getElem_mem hi)
    simp only [Option.map_some, Option.getD_some]
    rw [toU _ this.1 this.2]; omega
  · rw [List.getD, List.getD, List.getElem?_eq_none (by simpa using hi), List.getElem?_eq_none (by simpa using hi)]; rfl
theorem bytes_out {s : ByteArray} (l : List Int) (hs : s = bl (l.map fun x => x.toNat.toUInt8)) (h : ∀ x ∈ l, 0 ≤ x ∧ x < 256) {n : Nat} {g : Nat → Nat → AV} (hn : n = l.length) (hg : ∀ i, i < n → Le (g i 0) (.int .u8 (l.getD i 0))) : Le (.sl n 1 g) (bL s) := by
  subst hs; subst hn
  have hz : (bl (l.map fun x => x.toNat.toUInt8)).size = l.length := by simp [bl, ByteArray.size]
  unfold bL
  rw [hz]
  refine Le.sl (fun i j hi hj => ?_)
  obtain rfl : j = 0 := by omega
  have := hg i hi
  rw [← bt_bl l h i] at this
  exact this
theorem and63_i32 (r : Int) (h1 : 0 ≤ r) (h2 : r < 2147483648) : IntKind.i32.wrap ↑(BitVec.ofInt IntKind.i32.bits r &&& BitVec.ofInt IntKind.i32.bits 63).toNat = r % 64 := by
  obtain ⟨n, rfl⟩ : ∃ n : Nat, r = n := ⟨r.toNat, by omega⟩
  have e : (BitVec.ofInt IntKind.i32.bits (n : Int) &&& BitVec.ofInt IntKind.i32.bits 63).toNat = n % 64 := by
    rw [BitVec.toNat_and, ofInt_nat n (by omega), show (BitVec.ofInt IntKind.i32.bits 63).toNat = 2 ^ 6 - 1 from rfl, Nat.and_two_pow_sub_one_eq_mod]
  rw [e]
  rw [wrap32 (by omega) (by omega)]; omega
theorem u8_in (x : Int) (h0 : 0 ≤ x) (h1 : x < 256) : IntKind.u8.wrap x = x := IntWalk.u8_in x ⟨h0, by show x ≤ _; omega⟩
theorem or_u8_192 : ∀ n : Fin 64, IntKind.u8.wrap ↑(BitVec.ofInt IntKind.u8.bits 192 ||| BitVec.ofInt IntKind.u8.bits (n.val : Int)).toNat = 192 + (n.val : Int) := by decide +kernel
theorem or_u8_128 : ∀ n : Fin 64, IntKind.u8.wrap ↑(BitVec.ofInt IntKind.u8.bits 128 ||| BitVec.ofInt IntKind.u8.bits (n.val : Int)).toNat = 128 + (n.val : Int) := by decide +kernel
theorem or_u8_224 : ∀ n : Fin 16, IntKind.u8.wrap ↑(BitVec.ofInt IntKind.u8.bits 224 ||| BitVec.ofInt IntKind.u8.bits (n.val : Int)).toNat = 224 + (n.val : Int) := by decide +kernel
theorem or_u8_240 : ∀ n : Fin 8, IntKind.u8.wrap ↑(BitVec.ofInt IntKind.u8.bits 240 ||| BitVec.ofInt IntKind.u8.bits (n.val : Int)).toNat = 240 + (n.val : Int) := by decide +kernel
theorem ob192 (x : Int) (h0 : 0 ≤ x) (h1 : x < 64) : IntKind.u8.wrap ↑(BitVec.ofInt IntKind.u8.bits 192 ||| BitVec.ofInt IntKind.u8.bits (IntKind.u8.wrap x)).toNat = 192 + x := by
  rw [u8_in x h0 (by omega)]
  have := or_u8_192 ⟨x.toNat, by omega⟩
  simp only [Int.toNat_of_nonneg h0] at this; exact this
theorem ob128 (x : Int) (h0 : 0 ≤ x) (h1 : x < 64) : IntKind.u8.wrap ↑(BitVec.ofInt IntKind.u8.bits 128 ||| BitVec.ofInt IntKind.u8.bits (IntKind.u8.wrap x)).toNat = 128 + x := by
  rw [u8_in x h0 (by omega)]
  have := or_u8_128 ⟨x.toNat, by omega⟩
  simp only [Int.toNat_of_nonneg h0] at this; exact this
theorem ob224 (x : Int) (h0 : 0 ≤ x) (h1 : x < 16) : IntKind.u8.wrap ↑(BitVec.ofInt IntKind.u8.bits 224 ||| BitVec.ofInt IntKind.u8.bits (IntKind.u8.wrap x)).toNat = 224 + x := by
  rw [u8_in x h0 (by omega)]
  have := or_u8_224 ⟨x.toNat, by omega⟩
  simp only [Int.toNat_of_nonneg h0] at this; exact this
theorem ob240 (x : Int) (h0 : 0 ≤ x) (h1 : x < 8) : IntKind.u8.wrap ↑(BitVec.ofInt IntKind.u8.bits 240 ||| BitVec.ofInt IntKind.u8.bits (IntKind.u8.wrap x)).toNat = 240 + x := by
  rw [u8_in x h0 (by omega)]
  have := or_u8_240 ⟨x.toNat, by omega⟩
  simp only [Int.toNat_of_nonneg h0] at this; exact this
theorem fd6 (r : Int) : Int.fdiv r (2 ^ min (Int.toNat 6) IntKind.i32.bits) = r / 64 := by show Int.fdiv r 64 = _; rw [Int.fdiv_eq_ediv_of_nonneg _ (by decide)]
theorem fd12 (r : Int) : Int.fdiv r (2 ^ min (Int.toNat 12) IntKind.i32.bits) = r / 4096 := by show Int.fdiv r 4096 = _; rw [Int.fdiv_eq_ediv_of_nonneg _ (by decide)]
theorem fd18 (r : Int) : Int.fdiv r (2 ^ min (Int.toNat 18) IntKind.i32.bits) = r / 262144 := by show Int.fdiv r 262144 = _; rw [Int.fdiv_eq_ediv_of_nonneg _ (by decide)]
theorem encZ (r : Int) : Utf8.encode r = bl ((Lib.encodeRuneZ r).map fun x => x.toNat.toUInt8) := enc_eq r
theorem wr1 (r : Int) (h0 : 0 ≤ r) (h1 : r < 4096) : IntKind.u8.wrap ↑(BitVec.ofInt IntKind.u8.bits 192 ||| BitVec.ofInt IntKind.u8.bits (IntKind.u8.wrap (Int.fdiv r (2 ^ min (Int.toNat 6) IntKind.i32.bits)))).toNat = 192 + r / 64 := by
  rw [fd6]; exact ob192 _ (by omega) (by omega)
theorem wr2 (r : Int) (h0 : 0 ≤ r) (h1 : r < 1114112) : IntKind.u8.wrap ↑(BitVec.ofInt IntKind.u8.bits 128 ||| BitVec.ofInt IntKind.u8.bits (IntKind.u8.wrap (IntKind.i32.wrap ↑(BitVec.ofInt IntKind.i32.bits r &&& BitVec.ofInt IntKind.i32.bits 63).toNat))).toNat = 128 + r % 64 := by
  rw [and63_i32 r h0 (by omega)]; exact ob128 _ (by omega) (by omega)
theorem wr3 (r : Int) (h0 : 0 ≤ r) (h1 : r < 1114112) : IntKind.u8.wrap ↑(BitVec.ofInt IntKind.u8.bits 128 ||| BitVec.ofInt IntKind.u8.bits (IntKind.u8.wrap (IntKind.i32.wrap ↑(BitVec.ofInt IntKind.i32.bits (Int.fdiv r (2 ^ min (Int.toNat 6) IntKind.i32.bits)) &&& BitVec.ofInt IntKind.i32.bits 63).toNat))).toNat = 128 + r / 64 % 64 := by
  rw [fd6, and63_i32 _ (by omega) (by omega)]; exact ob128 _ (by omega) (by omega)
theorem wr4 (r : Int) (h0 : 0 ≤ r) (h1 : r < 65536) : IntKind.u8.wrap ↑(BitVec.ofInt IntKind.u8.bits 224 ||| BitVec.ofInt IntKind.u8.bits (IntKind.u8.wrap (Int.fdiv r (2 ^ min (Int.toNat 12) IntKind.i32.bits)))).toNat = 224 + r / 4096 := by
  rw [fd12]; exact ob224 _ (by omega) (by omega)
theorem wr5 (r : Int) (h0 : 0 ≤ r) (h1 : r < 1114112) : IntKind.u8.wrap ↑(BitVec.ofInt IntKind.u8.bits 128 ||| BitVec.ofInt IntKind.u8.bits (IntKind.u8.wrap (IntKind.i32.wrap ↑(BitVec.ofInt IntKind.i32.bits (Int.fdiv r (2 ^ min (Int.toNat 12) IntKind.i32.bits)) &&& BitVec.ofInt IntKind.i32.bits 63).toNat))).toNat = 128 + r / 4096 % 64 := by
  rw [fd12, and63_i32 _ (by omega) (by omega)]; exact ob128 _ (by omega) (by omega)
theorem wr6 (r : Int) (h0 : 0 ≤ r) (h1 : r < 1114112) : IntKind.u8.wrap ↑(BitVec.ofInt IntKind.u8.bits 240 ||| BitVec.ofInt IntKind.u8.bits (IntKind.u8.wrap (Int.fdiv r (2 ^ min (Int.toNat 18) IntKind.i32.bits)))).toNat = 240 + r / 262144 := by
  rw [fd18]; exact ob240 _ (by omega) (by omega)
theorem written62_fn (r : Int) : Fn Tryz.prog 145 [.int .i32 r] (bL (Utf8.encode r)) := by
  refine Fn.of Tryz.f145 _ Tryz.func145 rfl (by decide) (by show 1 ≤ _; decide) tbOk 71 rfl fun S w0 gl => ?_
  refine Run.go ?_; (conv => whnf); repeat' (first | ((with_reducible refine Know.mk fun _ => ?_); conv => whnf) | ((with_reducible refine Need.mk ?_ ?_); exact nd; conv => whnf) | ((with_reducible refine Both.mk ?_ ?_) <;> conv => whnf) | ((with_reducible refine Any.mk fun b hb => ?_); conv => whnf) | ((with_reducible first | refine AskB.dec (fun hb => ?_) (fun hb => ?_) | refine AskB.ndec (fun hb => ?_) (fun hb => ?_) | refine AskB.mk (fun hb => ?_) (fun hb => ?_)) <;> first | (exfalso; omega) | (conv => whnf)) | ((with_reducible first | refine Run.drawX rfl (by decide +kernel) ?_ | refine Run.drawT rfl (by decide +kernel) ?_ | refine Run.drawW rfl (by decide +kernel) ?_); conv => whnf) | fail)
  all_goals refine Run.leave (ts := [2]) (.inr ⟨_, rfl⟩) rfl Tryz.func145 rfl (bytes_out (Lib.encodeRuneZ r) (encZ r) ?_ ?_ ?_)
  all_goals first
    | (rw [Lib.encodeRuneZ_bad (by omega)])
    | (rw [Lib.encodeRuneZ_one (by omega) (by omega)])
    | (rw [Lib.encodeRuneZ_two (by omega) (by omega)])
    | (rw [Lib.encodeRuneZ_three (by omega)])
    | (rw [Lib.encodeRuneZ_four (by omega) (by omega)])
  all_goals first
    | rfl
    | (intro x hx
       simp only [List.mem_cons, List.not_mem_nil, or_false] at hx
       rcases hx with rfl | rfl | rfl | rfl <;> omega)
    | (intro x hx
       simp only [List.mem_cons, List.not_mem_nil, or_false] at hx
       rcases hx with rfl | rfl | rfl <;> omega)
    | (intro x hx
       simp only [List.mem_cons, List.not_mem_nil, or_false] at hx
       rcases hx with rfl | rfl <;> omega)
    | (intro x hx
       simp only [List.mem_cons, List.not_mem_nil, or_false] at hx
       subst hx; omega)
    | skip
  all_goals
    intro i hi
    match i, hi with
    | 0, hi => first | exact Le.int (u8_in r (by omega) (by omega)) | exact Le.int (wr1 r (by omega) (by omega)) | exact Le.int (wr4 r (by omega) (by omega)) | exact Le.int (wr6 r (by omega) (by omega)) | exact Le.int (wr4 65533 (by omega) (by omega))
    | 1, hi => first | exact absurd hi (by decide) | exact Le.int (wr2 r (by omega) (by omega)) | exact Le.int (wr3 r (by omega) (by omega)) | exact Le.int (wr5 r (by omega) (by omega)) | exact Le.int (wr3 65533 (by omega) (by omega))
    | 2, hi => first | exact absurd hi (by decide) | exact Le.int (wr2 r (by omega) (by omega)) | exact Le.int (wr3 r (by omega) (by omega)) | exact Le.int (wr2 65533 (by omega) (by omega))
    | 3, hi => first | exact absurd hi (by decide) | exact Le.int (wr2 r (by omega) (by omega))
    | i + 4, hi => exact absurd hi (by show ¬ i + 4 < _; omega)
end Go.Proofs.YteklnpgiloebcaaGreatDoor.V

namespace Go.Proofs.YteklnpgiloebcaaGreatDoor.V
set_option linter.unusedVariables false
set_option linter.unusedSimpArgs false
open Go Go.Proofs Go.RowKit
set_option maxRecDepth 100000
set_option maxHeartbeats 4000000
open Go Go.Proofs Go.Proofs.YteklnpgiloebcaaGreatDoor.V
def dropE (k : Int) (l : List Int) : List Int := l.filter (fun r => !decide (kOf r = k))
theorem dropE_no {k x : Int} {l : List Int} (h : kOf x = k) : dropE k (x :: l) = dropE k l := by unfold dropE; rw [List.filter_cons_of_neg (by simp [h])]
theorem dropE_yes {k x : Int} {l : List Int} (h : ¬ kOf x = k) : dropE k (x :: l) = x :: dropE k l := by unfold dropE; rw [List.filter_cons_of_pos (by simp [h])]
theorem drop42_fn (l : List Int) (k : Int) (hl : l.length ≤ 1000000) : FnF Tryz.prog 122 [tRn.L l, .int .i64 k] (.row 0) [tRn.R 21 (dropE k l)] := by
  refine FnF.of Tryz.f122 _ Tryz.func122 rfl (by decide) (by show 2 ≤ _; decide) tbOk 28 rfl fun S w0 gl => ?_
  refine Run.go ?_; (conv => whnf); repeat' (first | ((with_reducible refine Know.mk fun _ => ?_); conv => whnf) | ((with_reducible refine Need.mk ?_ ?_); exact nd; conv => whnf) | ((with_reducible first | refine Both.mk ?_ ?_ | refine Any.mk fun b hb => ?_ | refine AskB.dec (fun hb => ?_) (fun hb => ?_) | refine AskB.ndec (fun hb => ?_) (fun hb => ?_) | refine AskB.mk (fun hb => ?_) (fun hb => ?_)) <;> conv => whnf) | ((with_reducible first | refine Run.drawX rfl (by decide +kernel) ?_ | refine Run.drawT rfl (by decide +kernel) ?_ | refine Run.drawW rfl (by decide +kernel) ?_); conv => whnf) | fail)
  refine Run.holdNil 5 1000 21 1 (fun _ _ => .u) rfl ?_
  refine Run.loop [0, 1] (fun (a : Nat × List Int) => [(5, .row 1000), (6, .int .i64 (a.1 : Int))]) (fun a => [(1000, tRn.R 21 a.2)]) (fun a => a.1 ≤ l.length ∧ a.2.length ≤ a.1 ∧ a.2 ++ dropE k (l.drop a.1) = dropE k l) (fun a => l.length - a.1) (0, []) ⟨Nat.zero_le _, Nat.zero_le _, rfl⟩ ⟨Le.refl _, Le.refl _, trivial⟩ ⟨⟨rfl, rfl, rfl, fun i j hi => absurd hi (Nat.not_lt_zero _)⟩, trivial⟩ ?_
  intro ⟨j, m⟩ ⟨hj, hm, hc⟩ IH
  simp only at hj hm hc
  have hwj : IntKind.i64.wrap ((j : Int) + 1) = ((j + 1 : Nat) : Int) := wrap64 (by omega) (by omega)
  show Run _ _ (lst (_ ++ [(5, .row 1000), (6, .int .i64 (j : Int))])) (lstH [(1000, tRn.R 21 m)])
  refine Run.go ?_; (conv => whnf); repeat' (first | ((with_reducible refine Know.mk fun _ => ?_); conv => whnf) | ((with_reducible refine Need.mk ?_ ?_); exact nd; conv => whnf) | ((with_reducible first | refine Both.mk ?_ ?_ | refine Any.mk fun b hb => ?_ | refine AskB.dec (fun hb => ?_) (fun hb => ?_) | refine AskB.ndec (fun hb => ?_) (fun hb => ?_) | refine AskB.mk (fun hb => ?_) (fun hb => ?_)) <;> conv => whnf) | ((with_reducible first | refine Run.drawX rfl (by decide +kernel) ?_ | refine Run.drawT rfl (by decide +kernel) ?_ | refine Run.drawW rfl (by decide +kernel) ?_); conv => whnf) | fail)
  · have hjl : j < l.length := by omega
    rw [drop_at l j tRn.z hjl] at hc
    refine Run.callBX (of60_fn (l.getD j tRn.z)) rfl rfl ⟨Le.refl _, trivial⟩ rfl rfl rfl ?_
    (conv => whnf); repeat' (first | ((with_reducible refine Know.mk fun _ => ?_); conv => whnf) | ((with_reducible refine Need.mk ?_ ?_); exact nd; conv => whnf) | ((with_reducible first | refine Both.mk ?_ ?_ | refine Any.mk fun b hb => ?_ | refine AskB.dec (fun hb => ?_) (fun hb => ?_) | refine AskB.ndec (fun hb => ?_) (fun hb => ?_) | refine AskB.mk (fun hb => ?_) (fun hb => ?_)) <;> conv => whnf) | ((with_reducible first | refine Run.drawX rfl (by decide +kernel) ?_ | refine Run.drawT rfl (by decide +kernel) ?_ | refine Run.drawW rfl (by decide +kernel) ?_); conv => whnf) | fail)
    · have hk : kOf (l.getD j tRn.z) = k := hb
      refine Run.to _ _ ?_ ?_ (IH (j + 1, m) (by simp only []; omega) ⟨by simp only []; omega, by simp only []; omega, ?_⟩)
      · exact ⟨Le.refl _, Le.refl _, Le.refl _, Le.int hwj, trivial⟩
      · exact ⟨MOle.refl _, trivial⟩
      · rw [← hc, dropE_no hk]
    · have hk : ¬ kOf (l.getD j tRn.z) = k := hb
      refine Run.hold (z := 26) 5 1000 (by rfl) (by rfl) (by rfl) ?_
      refine Run.to _ _ ?_ ?_ (IH (j + 1, m ++ [l.getD j tRn.z]) (by simp only []; omega) ⟨by simp only []; omega, by simp only [List.length_append, List.length_singleton]; omega, ?_⟩)
      · exact ⟨Le.refl _, Le.refl _, Le.refl _, Le.int hwj, trivial⟩
      · exact ⟨tRn.push 21 m (l.getD j tRn.z) _ (one0 (Le.refl _)), trivial⟩
      · rw [← hc, dropE_yes hk]; simp
  · obtain rfl : j = l.length := by omega
    have e : m = dropE k l := by rw [← hc, List.drop_length]; simp [dropE]
    refine Run.leaveF (ts := [4]) [1000] (.inr ⟨_, rfl⟩) rfl Tryz.func122 rfl (by decide) ⟨?_, trivial⟩ rfl (Le.refl _)
    rw [← e]; exact MOle.refl _
def ligE (x : Int) : List Int := if isLig x = true then bytesI (ligB x) else [x]
def ligsE (l : List Int) : List Int := l.flatMap ligE
theorem ligB_ne : ∀ r, isLig r = true → ligB r ≠ .empty := by
  intro r h
  unfold isLig at h
  have h := of_decide_eq_true h
  unfold ligB
  repeat' split
  all_goals first | (exact fun e => absurd (congrArg ByteArray.size e) (by decide)) | skip
  · rename_i h9
    obtain ⟨k, hk⟩ : ∃ k : Fin 7, k.val = (r - 64256).toNat := ⟨⟨(r - 64256).toNat, by omega⟩, rfl⟩
    rw [← hk]
    clear hk h h9
    revert k; decide +kernel
  · omega
theorem bytesI_at (s : ByteArray) (j : Nat) (h : j < s.size) : (bytesI s).getD j 0 = bt s j := by
  unfold bytesI bt
  have h2 : j < s.data.toList.length := by simpa using h
  rw [List.getD, List.getD, List.getElem?_map, List.getElem?_eq_getElem h2]; rfl
theorem bytesI_len (s : ByteArray) : (bytesI s).length = s.size := by simp [bytesI]
theorem ligE_len (x : Int) : (ligE x).length ≤ 3 := by
  unfold ligE
  split
  · rw [bytesI_len]; exact ligB_size x
  · simp
theorem ligs43_fn (l : List Int) (hl : l.length ≤ 1000000) : FnF Tryz.prog 123 [tRn.L l] (.row 0) [tRn.R 21 (ligsE l)] := by
  refine FnF.of Tryz.f123 _ Tryz.func123 rfl (by decide) (by show 1 ≤ _; decide) tbOk 41 rfl fun S w0 gl => ?_
  refine Run.go ?_; (conv => whnf); repeat' (first | ((with_reducible refine Know.mk fun _ => ?_); conv => whnf) | ((with_reducible refine Need.mk ?_ ?_); exact nd; conv => whnf) | ((with_reducible first | refine Both.mk ?_ ?_ | refine Any.mk fun b hb => ?_ | refine AskB.dec (fun hb => ?_) (fun hb => ?_) | refine AskB.ndec (fun hb => ?_) (fun hb => ?_) | refine AskB.mk (fun hb => ?_) (fun hb => ?_)) <;> conv => whnf) | ((with_reducible first | refine Run.drawX rfl (by decide +kernel) ?_ | refine Run.drawT rfl (by decide +kernel) ?_ | refine Run.drawW rfl (by decide +kernel) ?_); conv => whnf) | fail)
  refine Run.holdNil 3 1000 21 1 (fun _ _ => .u) rfl ?_
  refine Run.loop [0] (fun (a : Nat × List Int) => [(3, .row 1000), (4, .int .i64 (a.1 : Int))]) (fun a => [(1000, tRn.R 21 a.2)]) (fun a => a.1 ≤ l.length ∧ a.2.length ≤ 3 * a.1 ∧ a.2 ++ ligsE (l.drop a.1) = ligsE l) (fun a => l.length - a.1) (0, []) ⟨Nat.zero_le _, Nat.zero_le _, rfl⟩ ⟨Le.refl _, Le.refl _, trivial⟩ ⟨⟨rfl, rfl, rfl, fun i j hi => absurd hi (Nat.not_lt_zero _)⟩, trivial⟩ ?_
  intro ⟨j, m⟩ ⟨hj, hm, hc⟩ IH
  simp only at hj hm hc
  have hwj : IntKind.i64.wrap ((j : Int) + 1) = ((j + 1 : Nat) : Int) := wrap64 (by omega) (by omega)
  show Run _ _ (lst (_ ++ [(3, .row 1000), (4, .int .i64 (j : Int))])) (lstH [(1000, tRn.R 21 m)])
  refine Run.go ?_; (conv => whnf); repeat' (first | ((with_reducible refine Know.mk fun _ => ?_); conv => whnf) | ((with_reducible refine Need.mk ?_ ?_); exact nd; conv => whnf) | ((with_reducible first | refine Both.mk ?_ ?_ | refine Any.mk fun b hb => ?_ | refine AskB.dec (fun hb => ?_) (fun hb => ?_) | refine AskB.ndec (fun hb => ?_) (fun hb => ?_) | refine AskB.mk (fun hb => ?_) (fun hb => ?_)) <;> conv => whnf) | ((with_reducible first | refine Run.drawX rfl (by decide +kernel) ?_ | refine Run.drawT rfl (by decide +kernel) ?_ | refine Run.drawW rfl (by decide +kernel) ?_); conv => whnf) | fail)
  · have hjl : j < l.length := by omega
    have hc' : m ++ (ligE (l.getD j tRn.z) ++ ligsE (l.drop (j + 1))) = ligsE l := by
      rw [← hc, drop_at l j tRn.z hjl]; rfl
    have hll := ligE_len (l.getD j tRn.z)
    have hsz := ligB_size (l.getD j tRn.z)
    refine Run.callBX (lig61_fn (l.getD j tRn.z)) rfl rfl ⟨Le.refl _, trivial⟩ rfl rfl rfl ?_
    generalize hx : l.getD j tRn.z = x at hc' hll hsz ⊢
    by_cases hL : isLig x = true
    · have hne := ligB_ne x hL
      have hE : ligE x = bytesI (ligB x) := by unfold ligE; rw [if_pos hL]
      rw [hE] at hc' hll
      rw [if_pos hL]
      generalize ligB x = s at hne hc' hll hsz ⊢
      rw [bytesI_len] at hll
      (conv => whnf); repeat' (first | ((with_reducible refine Know.mk fun _ => ?_); conv => whnf) | ((with_reducible refine Need.mk ?_ ?_); exact nd; conv => whnf) | ((with_reducible first | refine Both.mk ?_ ?_ | refine Any.mk fun b hb => ?_ | refine AskB.dec (fun hb => ?_) (fun hb => ?_) | refine AskB.ndec (fun hb => ?_) (fun hb => ?_) | refine AskB.mk (fun hb => ?_) (fun hb => ?_)) <;> conv => whnf) | ((with_reducible first | refine Run.drawX rfl (by decide +kernel) ?_ | refine Run.drawT rfl (by decide +kernel) ?_ | refine Run.drawW rfl (by decide +kernel) ?_); conv => whnf) | fail)
      · exact absurd hb hne
      · refine Run.loop [0, 4, 5] (fun (i : Nat) => [(3, .row 1000), (6, .int .i64 (i : Int))]) (fun i => [(1000, tRn.R 21 (m ++ (bytesI s).take i))]) (fun i => i ≤ s.size) (fun i => s.size - i) 0 (Nat.zero_le _) ⟨Le.refl _, Le.refl _, trivial⟩ ⟨?_, trivial⟩ ?_
        · rw [List.take_zero, List.append_nil]; exact MOle.refl _
        intro i hi IHi
        have hwi : IntKind.i64.wrap ((i : Int) + 1) = ((i + 1 : Nat) : Int) := wrap64 (by omega) (by omega)
        have hbl := bt_lt s i
        have hbi := bytesI_len s
        have hml : (m ++ (bytesI s).take i).length ≤ 9000000 := by rw [List.length_append, List.length_take]; omega
        refine Run.go ?_; (conv => whnf); repeat' (first | ((with_reducible refine Know.mk fun _ => ?_); conv => whnf) | ((with_reducible refine Need.mk ?_ ?_); exact nd; conv => whnf) | ((with_reducible first | refine Both.mk ?_ ?_ | refine Any.mk fun b hb => ?_ | refine AskB.dec (fun hb => ?_) (fun hb => ?_) | refine AskB.ndec (fun hb => ?_) (fun hb => ?_) | refine AskB.mk (fun hb => ?_) (fun hb => ?_)) <;> conv => whnf) | ((with_reducible first | refine Run.drawX rfl (by decide +kernel) ?_ | refine Run.drawT rfl (by decide +kernel) ?_ | refine Run.drawW rfl (by decide +kernel) ?_); conv => whnf) | fail)
        · have his : i < s.size := by omega
          refine Run.hold (z := 39) 3 1000 (by rfl) (by rfl) (by rfl) ?_
          refine Run.to _ _ ?_ ?_ (IHi (i + 1) (by omega) (by omega))
          · exact ⟨Le.refl _, Le.refl _, Le.refl _, Le.refl _, Le.int hwi, trivial⟩
          · refine ⟨?_, trivial⟩
            have e : m ++ (bytesI s).take (i + 1) = (m ++ (bytesI s).take i) ++ [bt s i] := by
              rw [List.take_succ_eq_append_getElem (by omega), ← bytesI_at s i his, List.getD, List.getElem?_eq_getElem (by omega)]; simp
            rw [e]
            exact tRn.push 21 _ (bt s i) _ (one0 (Le.int (wrap32 (show -2147483648 ≤ bt s i by omega) (show bt s i ≤ 2147483647 by omega))))
        · obtain rfl : i = s.size := by omega
          have ht : (bytesI s).take s.size = bytesI s := List.take_of_length_le (by omega)
          rw [ht]
          refine Run.to _ _ ?_ ?_ (IH (j + 1, m ++ bytesI s) (by simp only []; omega) ⟨by simp only []; omega, by simp only [List.length_append]; omega, ?_⟩)
          · exact ⟨Le.refl _, Le.refl _, Le.int hwj, trivial⟩
          · exact ⟨MOle.refl _, trivial⟩
          · rw [← hc']; simp
    · have hE : ligE x = [x] := by unfold ligE; rw [if_neg hL]
      rw [hE] at hc'
      rw [if_neg hL]
      (conv => whnf); repeat' (first | ((with_reducible refine Know.mk fun _ => ?_); conv => whnf) | ((with_reducible refine Need.mk ?_ ?_); exact nd; conv => whnf) | ((with_reducible first | refine Both.mk ?_ ?_ | refine Any.mk fun b hb => ?_ | refine AskB.dec (fun hb => ?_) (fun hb => ?_) | refine AskB.ndec (fun hb => ?_) (fun hb => ?_) | refine AskB.mk (fun hb => ?_) (fun hb => ?_)) <;> conv => whnf) | ((with_reducible first | refine Run.drawX rfl (by decide +kernel) ?_ | refine Run.drawT rfl (by decide +kernel) ?_ | refine Run.drawW rfl (by decide +kernel) ?_); conv => whnf) | fail)
      case _ =>
        refine Run.hold (z := 26) 3 1000 (by rfl) (by rfl) (by rfl) ?_
        refine Run.go ?_; (conv => whnf); repeat' (first | ((with_reducible refine Know.mk fun _ => ?_); conv => whnf) | ((with_reducible refine Need.mk ?_ ?_); exact nd; conv => whnf) | ((with_reducible first | refine Both.mk ?_ ?_ | refine Any.mk fun b hb => ?_ | refine AskB.dec (fun hb => ?_) (fun hb => ?_) | refine AskB.ndec (fun hb => ?_) (fun hb => ?_) | refine AskB.mk (fun hb => ?_) (fun hb => ?_)) <;> conv => whnf) | ((with_reducible first | refine Run.drawX rfl (by decide +kernel) ?_ | refine Run.drawT rfl (by decide +kernel) ?_ | refine Run.drawW rfl (by decide +kernel) ?_); conv => whnf) | fail)
        · exact absurd hb (by decide)
        · refine Run.to _ _ ?_ ?_ (IH (j + 1, m ++ [x]) (by simp only []; omega) ⟨by simp only []; omega, by simp only [List.length_append, List.length_singleton]; omega, ?_⟩)
          · exact ⟨Le.refl _, Le.refl _, Le.int hwj, trivial⟩
          · refine ⟨?_, trivial⟩
            rw [← hx]
            exact tRn.push 21 m (l.getD j tRn.z) _ (one0 (Le.refl _))
          · rw [← hc']; simp
      all_goals exact absurd rfl hb
  · obtain rfl : j = l.length := by omega
    have e : m = ligsE l := by rw [← hc, List.drop_length]; simp [ligsE]
    refine Run.leaveF (ts := [2]) [1000] (.inr ⟨_, rfl⟩) rfl Tryz.func123 rfl (by decide) ⟨?_, trivial⟩ rfl (Le.refl _)
    rw [← e]; exact MOle.refl _
end Go.Proofs.YteklnpgiloebcaaGreatDoor.V

namespace Go.Proofs.YteklnpgiloebcaaGreatDoor.V
set_option linter.unusedVariables false
set_option linter.unusedSimpArgs false
open Go Go.Proofs Go.RowKit
set_option maxRecDepth 100000
set_option maxHeartbeats 4000000
open Go Go.Proofs Go.Proofs.YteklnpgiloebcaaGreatDoor.V
def backE (l : List Int) : ByteArray := bl (encs l)
theorem backE_size : ∀ l : List Int, (backE l).size ≤ 4 * l.length
  | [] => by decide
  | x :: l => by
    have h := backE_size l
    have h2 := encode_small x
    have e : backE (x :: l) = Utf8.encode x ++ backE l := by unfold backE; rw [encs_cons, bl_app, enc_eq]
    rw [e, ByteArray.size_append, List.length_cons]; omega
theorem backE_take (l : List Int) (j : Nat) (h : j < l.length) : backE (l.take (j + 1)) = backE (l.take j) ++ Utf8.encode (l.getD j tRn.z) := by
  unfold backE
  rw [List.take_succ_eq_append_getElem h, encs_app, bl_app, List.getD, List.getElem?_eq_getElem h, enc_eq]
  simp [encs]
theorem back47_fn (l : List Int) (hl : l.length ≤ 10000000) : Fn Tryz.prog 127 [tRn.L l] (.str (backE l)) := by
  refine Fn.of Tryz.f127 _ Tryz.func127 rfl (by decide) (by show 1 ≤ _; decide) tbOk 20 rfl fun S w0 gl => ?_
  refine Run.go ?_; (conv => whnf); repeat' (first | ((with_reducible refine Know.mk fun _ => ?_); conv => whnf) | ((with_reducible refine Need.mk ?_ ?_); exact nd; conv => whnf) | ((with_reducible first | refine Both.mk ?_ ?_ | refine Any.mk fun b hb => ?_ | refine AskB.dec (fun hb => ?_) (fun hb => ?_) | refine AskB.ndec (fun hb => ?_) (fun hb => ?_) | refine AskB.mk (fun hb => ?_) (fun hb => ?_)) <;> conv => whnf) | ((with_reducible first | refine Run.drawX rfl (by decide +kernel) ?_ | refine Run.drawT rfl (by decide +kernel) ?_ | refine Run.drawW rfl (by decide +kernel) ?_); conv => whnf) | fail)
  refine Run.holdNil 3 1000 5 1 (bytesG .empty) rfl ?_
  refine Run.loop [0] (fun (j : Nat) => [(3, .row 1000), (4, .int .i64 (j : Int))]) (fun j => [(1000, .row 5 1 (backE (l.take j)).size (bytesG (backE (l.take j))))]) (fun j => j ≤ l.length) (fun j => l.length - j) 0 (Nat.zero_le _) ⟨Le.refl _, Le.refl _, trivial⟩ ⟨MOle.refl _, trivial⟩ ?_
  intro j hj IH
  have hwj : IntKind.i64.wrap ((j : Int) + 1) = ((j + 1 : Nat) : Int) := wrap64 (by omega) (by omega)
  have hT : (backE (l.take j)).size ≤ 40000000 := by
    have h1 := backE_size (l.take j)
    rw [List.length_take] at h1; omega
  refine Run.go ?_; (conv => whnf); repeat' (first | ((with_reducible refine Know.mk fun _ => ?_); conv => whnf) | ((with_reducible refine Need.mk ?_ ?_); exact nd; conv => whnf) | ((with_reducible first | refine Both.mk ?_ ?_ | refine Any.mk fun b hb => ?_ | refine AskB.dec (fun hb => ?_) (fun hb => ?_) | refine AskB.ndec (fun hb => ?_) (fun hb => ?_) | refine AskB.mk (fun hb => ?_) (fun hb => ?_)) <;> conv => whnf) | ((with_reducible first | refine Run.drawX rfl (by decide +kernel) ?_ | refine Run.drawT rfl (by decide +kernel) ?_ | refine Run.drawW rfl (by decide +kernel) ?_); conv => whnf) | fail)
  · have hjl : j < l.length := by omega
    have he := encode_small (l.getD j tRn.z)
    refine Run.callBX (written62_fn (l.getD j tRn.z)) rfl rfl ⟨Le.refl _, trivial⟩ rfl rfl rfl ?_
    (conv => whnf); repeat' (first | ((with_reducible refine Know.mk fun _ => ?_); conv => whnf) | ((with_reducible refine Need.mk ?_ ?_); exact nd; conv => whnf) | ((with_reducible first | refine Both.mk ?_ ?_ | refine Any.mk fun b hb => ?_ | refine AskB.dec (fun hb => ?_) (fun hb => ?_) | refine AskB.ndec (fun hb => ?_) (fun hb => ?_) | refine AskB.mk (fun hb => ?_) (fun hb => ?_)) <;> conv => whnf) | ((with_reducible first | refine Run.drawX rfl (by decide +kernel) ?_ | refine Run.drawT rfl (by decide +kernel) ?_ | refine Run.drawW rfl (by decide +kernel) ?_); conv => whnf) | fail)
    refine Run.hold (z := 17) 3 1000 (by rfl) (by rfl) (by rfl) ?_
    refine Run.to _ _ ?_ ?_ (IH (j + 1) (by omega) (by omega))
    · exact ⟨Le.refl _, Le.refl _, Le.int hwj, trivial⟩
    · refine ⟨?_, trivial⟩
      rw [backE_take l j hjl]
      exact bytesG_join 5 (backE (l.take j)) (Utf8.encode (l.getD j tRn.z))
  · obtain rfl : j = l.length := by omega
    rw [List.take_length]
    refine Run.rowStr (x := .tmp 18) (src := 75) (dst := 9) (e := 5) (q := 1000) (backE l) rfl rfl rfl rfl rfl rfl rfl (fun _ _ => rfl) (by kernel_rfl) (by kernel_rfl) (by kernel_rfl) ?_
    refine Run.go ?_; (conv => whnf); repeat' (first | ((with_reducible refine Know.mk fun _ => ?_); conv => whnf) | ((with_reducible refine Need.mk ?_ ?_); exact nd; conv => whnf) | ((with_reducible first | refine Both.mk ?_ ?_ | refine Any.mk fun b hb => ?_ | refine AskB.dec (fun hb => ?_) (fun hb => ?_) | refine AskB.ndec (fun hb => ?_) (fun hb => ?_) | refine AskB.mk (fun hb => ?_) (fun hb => ?_)) <;> conv => whnf) | ((with_reducible first | refine Run.drawX rfl (by decide +kernel) ?_ | refine Run.drawT rfl (by decide +kernel) ?_ | refine Run.drawW rfl (by decide +kernel) ?_); conv => whnf) | fail)
    exact Run.leave (ts := [2]) (.inr ⟨_, rfl⟩) rfl Tryz.func127 rfl (Le.refl _)
/-- What the document makes of a rune: step by step. -/
def refL (r o : Int) : List Int :=
  let l0 := [r]
  let l1 := if o / 16 % 2 = 1 then dropE 4 l0 else l0
  let l2 := if o / 2 % 2 = 1 then dropE 2 l1 else l1
  if o / 4 % 2 = 1 then ligsE l2 else l2
theorem dropE_len (k : Int) (l : List Int) : (dropE k l).length ≤ l.length := List.length_filter_le _ _
theorem ligsE_len : ∀ l : List Int, (ligsE l).length ≤ 3 * l.length
  | [] => by simp [ligsE]
  | x :: l => by
    have h := ligsE_len l
    have h2 := ligE_len x
    have e : ligsE (x :: l) = ligE x ++ ligsE l := rfl
    rw [e, List.length_append, List.length_cons]; omega
theorem refQ : ∀ o : Fin 32, Int.tmod (IntKind.i64.wrap (Int.tdiv (o.val : Int) 16)) 2 = (o.val : Int) / 16 % 2 ∧ Int.tmod (IntKind.i64.wrap (Int.tdiv (o.val : Int) 2)) 2 = (o.val : Int) / 2 % 2 ∧ Int.tmod (IntKind.i64.wrap (Int.tdiv (o.val : Int) 4)) 2 = (o.val : Int) / 4 % 2 ∧
    Int.tmod (IntKind.i64.wrap (Int.tdiv (o.val : Int) 8)) 2 = (o.val : Int) / 8 % 2 ∧ Int.tmod (o.val : Int) 2 = (o.val : Int) % 2 := by decide +kernel
/-- A step, or none. -/
def ifV (c : Prop) [Decidable c] (f : Int → Int) (x : Int) : Int := if c then f x else x
theorem getD_setL {α : Type} (l : List α) (i : Nat) (x z : α) (h : i < l.length) : (l.set i x).getD i z = x := by
  rw [List.getD, List.getElem?_set_self h]; rfl
theorem stepV_if (o x : Int) : stepV o x = ifV (o / 8 % 2 = 1) letterV (ifV (o / 2 % 2 = 1) bareV (ifV (o % 2 = 1) lowV x)) := by
  rw [stepV_eq]
  unfold stepB ifV
  by_cases h1 : o % 2 = 1 <;> by_cases h2 : o / 2 % 2 = 1 <;> by_cases h3 : o / 8 % 2 = 1 <;> simp [h1, h2, h3]
theorem rune28_fn (r o : Int) : Fn Tryz.prog 100 [.int .i32 r, .int .i64 o] (tupL [.str (if badO o then .empty else backE ((refL r o).map (stepV o))), .int .i64 (if badO o then 2 else 0)]) := by
  refine Fn.of Tryz.f100 _ Tryz.func100 rfl (by decide) (by show 2 ≤ _; decide) tbOk 77 rfl fun S w0 gl => ?_
  by_cases hbad : badO o
  · rw [if_pos hbad, if_pos hbad]
    have hbo : o < 0 ∨ 31 < o := hbad
    refine Run.go ?_; (conv => whnf); repeat' (first | ((with_reducible refine Know.mk fun _ => ?_); conv => whnf) | ((with_reducible refine Need.mk ?_ ?_); exact nd; conv => whnf) | ((with_reducible refine Both.mk ?_ ?_) <;> conv => whnf) | ((with_reducible refine Any.mk fun b hb => ?_); conv => whnf) | ((with_reducible first | refine AskB.dec (fun hb => ?_) (fun hb => ?_) | refine AskB.ndec (fun hb => ?_) (fun hb => ?_) | refine AskB.mk (fun hb => ?_) (fun hb => ?_)) <;> first | (exfalso; omega) | (conv => whnf)) | ((with_reducible first | refine Run.drawX rfl (by decide +kernel) ?_ | refine Run.drawT rfl (by decide +kernel) ?_ | refine Run.drawW rfl (by decide +kernel) ?_); conv => whnf) | fail)
    all_goals first
      | exact Run.leave (ts := [4,5]) (.inr ⟨_, rfl⟩) rfl Tryz.func100 rfl (resT ⟨Le.refl _, Le.refl _, trivial⟩)
      | (exfalso; omega)
  rw [if_neg hbad, if_neg hbad]
  have hbo : ¬ (o < 0 ∨ 31 < o) := hbad
  obtain ⟨kk, rfl⟩ : ∃ k : Fin 32, (k.val : Int) = o := ⟨⟨o.toNat, by omega⟩, by simp only []; omega⟩
  obtain ⟨q16, q2, q4, q8, q1⟩ := refQ kk
  have hrl : ∀ l1 l2 l3, l1 = (if (kk.val : Int) / 16 % 2 = 1 then dropE 4 [r] else [r]) → l2 = (if (kk.val : Int) / 2 % 2 = 1 then dropE 2 l1 else l1) → l3 = (if (kk.val : Int) / 4 % 2 = 1 then ligsE l2 else l2) → refL r kk.val = l3 := fun l1 l2 l3 h1 h2 h3 => by rw [h3, h2, h1]; rfl
  have hd1 := dropE_len 4 [r]
  have hd2 := dropE_len 2 [r]
  have hd3 := dropE_len 2 (dropE 4 [r])
  have e1 : ([r] : List Int).length = 1 := rfl
  have hn : (refL r kk.val).length ≤ 3 := by
    unfold refL
    simp only []
    split
    · refine Nat.le_trans (ligsE_len _) ?_
      repeat' split
      all_goals omega
    · repeat' split
      all_goals omega
  apply Run.cutAt (A := fun CC kk' => ∀ l, refL r kk.val = l → Run CC kk' (lst [(1, .int .i64 kk.val), (6, .row 1000), (7, .int .i64 0)]) (lstH [(1000, tRn.R 21 l)]))
  · intro HA
    have one1 : ∀ (g : Nat → Nat → AV), g 0 0 = .int .i32 r → Le (.sl 1 1 g) (tRn.L [r]) := fun g h => Le.sl (fun i j hi hj => by
      obtain rfl : i = 0 := by omega
      obtain rfl : j = 0 := by omega
      rw [h]; exact Le.refl _)
    by_cases b16 : (kk.val : Int) / 16 % 2 = 1 <;> by_cases b2 : (kk.val : Int) / 2 % 2 = 1 <;> by_cases b4 : (kk.val : Int) / 4 % 2 = 1
    all_goals
      refine Run.go ?_; (conv => whnf); repeat' (first | ((with_reducible refine Know.mk fun _ => ?_); conv => whnf) | ((with_reducible refine Need.mk ?_ ?_); exact nd; conv => whnf) | ((with_reducible refine Both.mk ?_ ?_) <;> conv => whnf) | ((with_reducible refine Any.mk fun b hb => ?_); conv => whnf) | ((with_reducible first | refine AskB.dec (fun hb => ?_) (fun hb => ?_) | refine AskB.ndec (fun hb => ?_) (fun hb => ?_) | refine AskB.mk (fun hb => ?_) (fun hb => ?_)) <;> first | (exfalso; omega) | (conv => whnf)) | ((with_reducible first | refine Run.drawX rfl (by decide +kernel) ?_ | refine Run.drawT rfl (by decide +kernel) ?_ | refine Run.drawW rfl (by decide +kernel) ?_); conv => whnf) | fail)
      all_goals try (exfalso; omega)
    · refine Run.callFA 1000 (drop42_fn [r] 4 (by omega)) rfl rfl ⟨one1 _ rfl, Le.refl _, trivial⟩ rfl rfl rfl (flat_cons (Ty.R_flat (fun _ _ _ => rfl)) flat_nil) ?_
      (conv => whnf); repeat' (first | ((with_reducible refine Know.mk fun _ => ?_); conv => whnf) | ((with_reducible refine Need.mk ?_ ?_); exact nd; conv => whnf) | ((with_reducible refine Both.mk ?_ ?_) <;> conv => whnf) | ((with_reducible refine Any.mk fun b hb => ?_); conv => whnf) | ((with_reducible first | refine AskB.dec (fun hb => ?_) (fun hb => ?_) | refine AskB.ndec (fun hb => ?_) (fun hb => ?_) | refine AskB.mk (fun hb => ?_) (fun hb => ?_)) <;> first | (exfalso; omega) | (conv => whnf)) | ((with_reducible first | refine Run.drawX rfl (by decide +kernel) ?_ | refine Run.drawT rfl (by decide +kernel) ?_ | refine Run.drawW rfl (by decide +kernel) ?_); conv => whnf) | fail)
      all_goals try (exfalso; omega)
      refine Run.callFA 1000 (drop42_fn _ 2 (by omega)) rfl rfl ⟨Le.refl _, Le.refl _, trivial⟩ rfl rfl rfl (flat_cons (Ty.R_flat (fun _ _ _ => rfl)) flat_nil) ?_
      (conv => whnf); repeat' (first | ((with_reducible refine Know.mk fun _ => ?_); conv => whnf) | ((with_reducible refine Need.mk ?_ ?_); exact nd; conv => whnf) | ((with_reducible refine Both.mk ?_ ?_) <;> conv => whnf) | ((with_reducible refine Any.mk fun b hb => ?_); conv => whnf) | ((with_reducible first | refine AskB.dec (fun hb => ?_) (fun hb => ?_) | refine AskB.ndec (fun hb => ?_) (fun hb => ?_) | refine AskB.mk (fun hb => ?_) (fun hb => ?_)) <;> first | (exfalso; omega) | (conv => whnf)) | ((with_reducible first | refine Run.drawX rfl (by decide +kernel) ?_ | refine Run.drawT rfl (by decide +kernel) ?_ | refine Run.drawW rfl (by decide +kernel) ?_); conv => whnf) | fail)
      all_goals try (exfalso; omega)
      refine Run.callFA 1000 (ligs43_fn _ (by omega)) rfl rfl ⟨Le.refl _, trivial⟩ rfl rfl rfl (flat_cons (Ty.R_flat (fun _ _ _ => rfl)) flat_nil) ?_
      (conv => whnf); repeat' (first | ((with_reducible refine Know.mk fun _ => ?_); conv => whnf) | ((with_reducible refine Need.mk ?_ ?_); exact nd; conv => whnf) | ((with_reducible refine Both.mk ?_ ?_) <;> conv => whnf) | ((with_reducible refine Any.mk fun b hb => ?_); conv => whnf) | ((with_reducible first | refine AskB.dec (fun hb => ?_) (fun hb => ?_) | refine AskB.ndec (fun hb => ?_) (fun hb => ?_) | refine AskB.mk (fun hb => ?_) (fun hb => ?_)) <;> first | (exfalso; omega) | (conv => whnf)) | ((with_reducible first | refine Run.drawX rfl (by decide +kernel) ?_ | refine Run.drawT rfl (by decide +kernel) ?_ | refine Run.drawW rfl (by decide +kernel) ?_); conv => whnf) | fail)
      all_goals try (exfalso; omega)
      refine Run.to _ _ ?_ ?_ (HA _ (hrl _ _ _ (if_pos b16).symm (if_pos b2).symm (if_pos b4).symm))
      · exact ⟨Le.refl _, Le.refl _, Le.refl _, trivial⟩
      · exact ⟨MOle.refl _, trivial⟩
    · refine Run.callFA 1000 (drop42_fn [r] 4 (by omega)) rfl rfl ⟨one1 _ rfl, Le.refl _, trivial⟩ rfl rfl rfl (flat_cons (Ty.R_flat (fun _ _ _ => rfl)) flat_nil) ?_
      (conv => whnf); repeat' (first | ((with_reducible refine Know.mk fun _ => ?_); conv => whnf) | ((with_reducible refine Need.mk ?_ ?_); exact nd; conv => whnf) | ((with_reducible refine Both.mk ?_ ?_) <;> conv => whnf) | ((with_reducible refine Any.mk fun b hb => ?_); conv => whnf) | ((with_reducible first | refine AskB.dec (fun hb => ?_) (fun hb => ?_) | refine AskB.ndec (fun hb => ?_) (fun hb => ?_) | refine AskB.mk (fun hb => ?_) (fun hb => ?_)) <;> first | (exfalso; omega) | (conv => whnf)) | ((with_reducible first | refine Run.drawX rfl (by decide +kernel) ?_ | refine Run.drawT rfl (by decide +kernel) ?_ | refine Run.drawW rfl (by decide +kernel) ?_); conv => whnf) | fail)
      all_goals try (exfalso; omega)
      refine Run.callFA 1000 (drop42_fn _ 2 (by omega)) rfl rfl ⟨Le.refl _, Le.refl _, trivial⟩ rfl rfl rfl (flat_cons (Ty.R_flat (fun _ _ _ => rfl)) flat_nil) ?_
      (conv => whnf); repeat' (first | ((with_reducible refine Know.mk fun _ => ?_); conv => whnf) | ((with_reducible refine Need.mk ?_ ?_); exact nd; conv => whnf) | ((with_reducible refine Both.mk ?_ ?_) <;> conv => whnf) | ((with_reducible refine Any.mk fun b hb => ?_); conv => whnf) | ((with_reducible first | refine AskB.dec (fun hb => ?_) (fun hb => ?_) | refine AskB.ndec (fun hb => ?_) (fun hb => ?_) | refine AskB.mk (fun hb => ?_) (fun hb => ?_)) <;> first | (exfalso; omega) | (conv => whnf)) | ((with_reducible first | refine Run.drawX rfl (by decide +kernel) ?_ | refine Run.drawT rfl (by decide +kernel) ?_ | refine Run.drawW rfl (by decide +kernel) ?_); conv => whnf) | fail)
      all_goals try (exfalso; omega)
      refine Run.to _ _ ?_ ?_ (HA _ (hrl _ _ _ (if_pos b16).symm (if_pos b2).symm (if_neg b4).symm))
      · exact ⟨Le.refl _, Le.refl _, Le.refl _, trivial⟩
      · exact ⟨MOle.refl _, trivial⟩
    · refine Run.callFA 1000 (drop42_fn [r] 4 (by omega)) rfl rfl ⟨one1 _ rfl, Le.refl _, trivial⟩ rfl rfl rfl (flat_cons (Ty.R_flat (fun _ _ _ => rfl)) flat_nil) ?_
      (conv => whnf); repeat' (first | ((with_reducible refine Know.mk fun _ => ?_); conv => whnf) | ((with_reducible refine Need.mk ?_ ?_); exact nd; conv => whnf) | ((with_reducible refine Both.mk ?_ ?_) <;> conv => whnf) | ((with_reducible refine Any.mk fun b hb => ?_); conv => whnf) | ((with_reducible first | refine AskB.dec (fun hb => ?_) (fun hb => ?_) | refine AskB.ndec (fun hb => ?_) (fun hb => ?_) | refine AskB.mk (fun hb => ?_) (fun hb => ?_)) <;> first | (exfalso; omega) | (conv => whnf)) | ((with_reducible first | refine Run.drawX rfl (by decide +kernel) ?_ | refine Run.drawT rfl (by decide +kernel) ?_ | refine Run.drawW rfl (by decide +kernel) ?_); conv => whnf) | fail)
      all_goals try (exfalso; omega)
      refine Run.callFA 1000 (ligs43_fn _ (by omega)) rfl rfl ⟨Le.refl _, trivial⟩ rfl rfl rfl (flat_cons (Ty.R_flat (fun _ _ _ => rfl)) flat_nil) ?_
      (conv => whnf); repeat' (first | ((with_reducible refine Know.mk fun _ => ?_); conv => whnf) | ((with_reducible refine Need.mk ?_ ?_); exact nd; conv => whnf) | ((with_reducible refine Both.mk ?_ ?_) <;> conv => whnf) | ((with_reducible refine Any.mk fun b hb => ?_); conv => whnf) | ((with_reducible first | refine AskB.dec (fun hb => ?_) (fun hb => ?_) | refine AskB.ndec (fun hb => ?_) (fun hb => ?_) | refine AskB.mk (fun hb => ?_) (fun hb => ?_)) <;> first | (exfalso; omega) | (conv => whnf)) | ((with_reducible first | refine Run.drawX rfl (by decide +kernel) ?_ | refine Run.drawT rfl (by decide +kernel) ?_ | refine Run.drawW rfl (by decide +kernel) ?_); conv => whnf) | fail)
      all_goals try (exfalso; omega)
      refine Run.to _ _ ?_ ?_ (HA _ (hrl _ _ _ (if_pos b16).symm (if_neg b2).symm (if_pos b4).symm))
      · exact ⟨Le.refl _, Le.refl _, Le.refl _, trivial⟩
      · exact ⟨MOle.refl _, trivial⟩
    · refine Run.callFA 1000 (drop42_fn [r] 4 (by omega)) rfl rfl ⟨one1 _ rfl, Le.refl _, trivial⟩ rfl rfl rfl (flat_cons (Ty.R_flat (fun _ _ _ => rfl)) flat_nil) ?_
      (conv => whnf); repeat' (first | ((with_reducible refine Know.mk fun _ => ?_); conv => whnf) | ((with_reducible refine Need.mk ?_ ?_); exact nd; conv => whnf) | ((with_reducible refine Both.mk ?_ ?_) <;> conv => whnf) | ((with_reducible refine Any.mk fun b hb => ?_); conv => whnf) | ((with_reducible first | refine AskB.dec (fun hb => ?_) (fun hb => ?_) | refine AskB.ndec (fun hb => ?_) (fun hb => ?_) | refine AskB.mk (fun hb => ?_) (fun hb => ?_)) <;> first | (exfalso; omega) | (conv => whnf)) | ((with_reducible first | refine Run.drawX rfl (by decide +kernel) ?_ | refine Run.drawT rfl (by decide +kernel) ?_ | refine Run.drawW rfl (by decide +kernel) ?_); conv => whnf) | fail)
      all_goals try (exfalso; omega)
      refine Run.to _ _ ?_ ?_ (HA _ (hrl _ _ _ (if_pos b16).symm (if_neg b2).symm (if_neg b4).symm))
      · exact ⟨Le.refl _, Le.refl _, Le.refl _, trivial⟩
      · exact ⟨MOle.refl _, trivial⟩
    · refine Run.callFA 1000 (drop42_fn [r] 2 (by omega)) rfl rfl ⟨one1 _ rfl, Le.refl _, trivial⟩ rfl rfl rfl (flat_cons (Ty.R_flat (fun _ _ _ => rfl)) flat_nil) ?_
      (conv => whnf); repeat' (first | ((with_reducible refine Know.mk fun _ => ?_); conv => whnf) | ((with_reducible refine Need.mk ?_ ?_); exact nd; conv => whnf) | ((with_reducible refine Both.mk ?_ ?_) <;> conv => whnf) | ((with_reducible refine Any.mk fun b hb => ?_); conv => whnf) | ((with_reducible first | refine AskB.dec (fun hb => ?_) (fun hb => ?_) | refine AskB.ndec (fun hb => ?_) (fun hb => ?_) | refine AskB.mk (fun hb => ?_) (fun hb => ?_)) <;> first | (exfalso; omega) | (conv => whnf)) | ((with_reducible first | refine Run.drawX rfl (by decide +kernel) ?_ | refine Run.drawT rfl (by decide +kernel) ?_ | refine Run.drawW rfl (by decide +kernel) ?_); conv => whnf) | fail)
      all_goals try (exfalso; omega)
      refine Run.callFA 1000 (ligs43_fn _ (by omega)) rfl rfl ⟨Le.refl _, trivial⟩ rfl rfl rfl (flat_cons (Ty.R_flat (fun _ _ _ => rfl)) flat_nil) ?_
      (conv => whnf); repeat' (first | ((with_reducible refine Know.mk fun _ => ?_); conv => whnf) | ((with_reducible refine Need.mk ?_ ?_); exact nd; conv => whnf) | ((with_reducible refine Both.mk ?_ ?_) <;> conv => whnf) | ((with_reducible refine Any.mk fun b hb => ?_); conv => whnf) | ((with_reducible first | refine AskB.dec (fun hb => ?_) (fun hb => ?_) | refine AskB.ndec (fun hb => ?_) (fun hb => ?_) | refine AskB.mk (fun hb => ?_) (fun hb => ?_)) <;> first | (exfalso; omega) | (conv => whnf)) | ((with_reducible first | refine Run.drawX rfl (by decide +kernel) ?_ | refine Run.drawT rfl (by decide +kernel) ?_ | refine Run.drawW rfl (by decide +kernel) ?_); conv => whnf) | fail)
      all_goals try (exfalso; omega)
      refine Run.to _ _ ?_ ?_ (HA _ (hrl _ _ _ (if_neg b16).symm (if_pos b2).symm (if_pos b4).symm))
      · exact ⟨Le.refl _, Le.refl _, Le.refl _, trivial⟩
      · exact ⟨MOle.refl _, trivial⟩
    · refine Run.callFA 1000 (drop42_fn [r] 2 (by omega)) rfl rfl ⟨one1 _ rfl, Le.refl _, trivial⟩ rfl rfl rfl (flat_cons (Ty.R_flat (fun _ _ _ => rfl)) flat_nil) ?_
      (conv => whnf); repeat' (first | ((with_reducible refine Know.mk fun _ => ?_); conv => whnf) | ((with_reducible refine Need.mk ?_ ?_); exact nd; conv => whnf) | ((with_reducible refine Both.mk ?_ ?_) <;> conv => whnf) | ((with_reducible refine Any.mk fun b hb => ?_); conv => whnf) | ((with_reducible first | refine AskB.dec (fun hb => ?_) (fun hb => ?_) | refine AskB.ndec (fun hb => ?_) (fun hb => ?_) | refine AskB.mk (fun hb => ?_) (fun hb => ?_)) <;> first | (exfalso; omega) | (conv => whnf)) | ((with_reducible first | refine Run.drawX rfl (by decide +kernel) ?_ | refine Run.drawT rfl (by decide +kernel) ?_ | refine Run.drawW rfl (by decide +kernel) ?_); conv => whnf) | fail)
      all_goals try (exfalso; omega)
      refine Run.to _ _ ?_ ?_ (HA _ (hrl _ _ _ (if_neg b16).symm (if_pos b2).symm (if_neg b4).symm))
      · exact ⟨Le.refl _, Le.refl _, Le.refl _, trivial⟩
      · exact ⟨MOle.refl _, trivial⟩
    · refine Run.callFA 1000 (ligs43_fn [r] (by omega)) rfl rfl ⟨one1 _ rfl, trivial⟩ rfl rfl rfl (flat_cons (Ty.R_flat (fun _ _ _ => rfl)) flat_nil) ?_
      (conv => whnf); repeat' (first | ((with_reducible refine Know.mk fun _ => ?_); conv => whnf) | ((with_reducible refine Need.mk ?_ ?_); exact nd; conv => whnf) | ((with_reducible refine Both.mk ?_ ?_) <;> conv => whnf) | ((with_reducible refine Any.mk fun b hb => ?_); conv => whnf) | ((with_reducible first | refine AskB.dec (fun hb => ?_) (fun hb => ?_) | refine AskB.ndec (fun hb => ?_) (fun hb => ?_) | refine AskB.mk (fun hb => ?_) (fun hb => ?_)) <;> first | (exfalso; omega) | (conv => whnf)) | ((with_reducible first | refine Run.drawX rfl (by decide +kernel) ?_ | refine Run.drawT rfl (by decide +kernel) ?_ | refine Run.drawW rfl (by decide +kernel) ?_); conv => whnf) | fail)
      all_goals try (exfalso; omega)
      refine Run.to _ _ ?_ ?_ (HA _ (hrl _ _ _ (if_neg b16).symm (if_neg b2).symm (if_pos b4).symm))
      · exact ⟨Le.refl _, Le.refl _, Le.refl _, trivial⟩
      · exact ⟨MOle.refl _, trivial⟩
    · refine Run.hold (z := 15) 6 1000 (by rfl) (by rfl) (by rfl) ?_
      refine Run.to _ _ ?_ ?_ (HA [r] (hrl _ _ _ (if_neg b16).symm (if_neg b2).symm (if_neg b4).symm))
      · exact ⟨Le.refl _, Le.refl _, Le.refl _, trivial⟩
      refine ⟨⟨rfl, rfl, rfl, fun i j hi hj => ?_⟩, trivial⟩
      obtain rfl : i = 0 := by have : i < 1 := hi; omega
      obtain rfl : j = 0 := by have : j < 1 := hj; omega
      exact Le.refl _
  intro l hrfl
  rw [hrfl] at hn ⊢
  refine Run.loop [1, 6] (fun (j : Nat) => [(7, .int .i64 (j : Int))]) (fun j => [(1000, tRn.R 21 (mapTo (stepV kk.val) l j))]) (fun j => j ≤ l.length) (fun j => l.length - j) 0 (Nat.zero_le _) ⟨Le.refl _, trivial⟩ ⟨by rw [mapTo_zero]; exact MOle.refl _, trivial⟩ ?_
  intro j hj IH
  have hwj : IntKind.i64.wrap ((j : Int) + 1) = ((j + 1 : Nat) : Int) := wrap64 (by omega) (by omega)
  have hml := mapTo_len (stepV kk.val) l j
  have hst : j < l.length → (mapTo (stepV kk.val) l j).set j (stepV kk.val ((mapTo (stepV kk.val) l j).getD j tRn.z)) = mapTo (stepV kk.val) l (j + 1) := fun h => by
    rw [mapTo_at _ _ _ _ h, mapTo_set _ _ _ _ h]
  generalize hL : mapTo (stepV kk.val) l j = L at hml hst ⊢
  refine Run.goS true 0 ?_; (conv => whnf); repeat' (first | ((with_reducible refine Know.mk fun _ => ?_); conv => whnf) | ((with_reducible refine Need.mk ?_ ?_); exact nd; conv => whnf) | ((with_reducible first | refine Both.mk ?_ ?_ | refine Any.mk fun b hb => ?_ | refine AskB.dec (fun hb => ?_) (fun hb => ?_) | refine AskB.ndec (fun hb => ?_) (fun hb => ?_) | refine AskB.mk (fun hb => ?_) (fun hb => ?_)) <;> conv => whnf) | ((with_reducible first | refine Run.drawX rfl (by decide +kernel) ?_ | refine Run.drawT rfl (by decide +kernel) ?_ | refine Run.drawW rfl (by decide +kernel) ?_); conv => whnf) | fail)
  refine Run.cond2 rfl (fun hb => ?_) (fun hb => ?_)
  · have hjl : j < L.length := by have := of_decide_eq_true hb; omega
    refine Run.goS true 0 ?_; (conv => whnf); repeat' (first | ((with_reducible refine Know.mk fun _ => ?_); conv => whnf) | ((with_reducible refine Need.mk ?_ ?_); exact nd; conv => whnf) | ((with_reducible first | refine Both.mk ?_ ?_ | refine Any.mk fun b hb => ?_ | refine AskB.dec (fun hb => ?_) (fun hb => ?_) | refine AskB.ndec (fun hb => ?_) (fun hb => ?_) | refine AskB.mk (fun hb => ?_) (fun hb => ?_)) <;> conv => whnf) | ((with_reducible first | refine Run.drawX rfl (by decide +kernel) ?_ | refine Run.drawT rfl (by decide +kernel) ?_ | refine Run.drawW rfl (by decide +kernel) ?_); conv => whnf) | fail)
    refine Run.ifk [1, 6, 7] (fun (_ : Unit) => []) (fun _ => [(1000, tRn.R 21 (L.set j (ifV ((kk.val : Int) % 2 = 1) lowV (L.getD j tRn.z))))]) (fun _ => True) rfl ⟨fun next => ⟨fun hb => ?_, fun hb => ?_⟩, fun _ _ => ?_⟩
    · have hb := of_decide_eq_true hb
      refine Run.goS false 6 ?_; (conv => whnf); repeat' (first | ((with_reducible refine Know.mk fun _ => ?_); conv => whnf) | ((with_reducible refine Need.mk ?_ ?_); exact nd; conv => whnf) | ((with_reducible first | refine Both.mk ?_ ?_ | refine Any.mk fun b hb => ?_ | refine AskB.dec (fun hb => ?_) (fun hb => ?_) | refine AskB.ndec (fun hb => ?_) (fun hb => ?_) | refine AskB.mk (fun hb => ?_) (fun hb => ?_)) <;> conv => whnf) | ((with_reducible first | refine Run.drawX rfl (by decide +kernel) ?_ | refine Run.drawT rfl (by decide +kernel) ?_ | refine Run.drawW rfl (by decide +kernel) ?_); conv => whnf) | fail)
      refine Run.callB (small44_fn (L.getD j tRn.z)) rfl rfl ⟨?_, trivial⟩ rfl rfl rfl ?_
      · exact Le.int rfl
      refine Run.goS false 6 ?_; (conv => whnf); repeat' (first | ((with_reducible refine Know.mk fun _ => ?_); conv => whnf) | ((with_reducible refine Need.mk ?_ ?_); exact nd; conv => whnf) | ((with_reducible first | refine Both.mk ?_ ?_ | refine Any.mk fun b hb => ?_ | refine AskB.dec (fun hb => ?_) (fun hb => ?_) | refine AskB.ndec (fun hb => ?_) (fun hb => ?_) | refine AskB.mk (fun hb => ?_) (fun hb => ?_)) <;> conv => whnf) | ((with_reducible first | refine Run.drawX rfl (by decide +kernel) ?_ | refine Run.drawT rfl (by decide +kernel) ?_ | refine Run.drawW rfl (by decide +kernel) ?_); conv => whnf) | fail)
      refine Run.to _ _ ?_ ?_ (next () trivial)
      · exact ⟨Le.refl _, Le.refl _, Le.refl _, trivial⟩
      · refine ⟨?_, trivial⟩
        rw [show ifV ((kk.val : Int) % 2 = 1) lowV (L.getD j tRn.z) = lowV (L.getD j tRn.z) from if_pos (by omega)]
        exact tRn.set 21 L j _ hjl _ rfl (Le.one (Le.refl _))
    · have hb := of_decide_eq_false hb
      refine Run.goS false 6 ?_; (conv => whnf); repeat' (first | ((with_reducible refine Know.mk fun _ => ?_); conv => whnf) | ((with_reducible refine Need.mk ?_ ?_); exact nd; conv => whnf) | ((with_reducible first | refine Both.mk ?_ ?_ | refine Any.mk fun b hb => ?_ | refine AskB.dec (fun hb => ?_) (fun hb => ?_) | refine AskB.ndec (fun hb => ?_) (fun hb => ?_) | refine AskB.mk (fun hb => ?_) (fun hb => ?_)) <;> conv => whnf) | ((with_reducible first | refine Run.drawX rfl (by decide +kernel) ?_ | refine Run.drawT rfl (by decide +kernel) ?_ | refine Run.drawW rfl (by decide +kernel) ?_); conv => whnf) | fail)
      refine Run.to _ _ ?_ ?_ (next () trivial)
      · exact ⟨Le.refl _, Le.refl _, Le.refl _, trivial⟩
      · refine ⟨?_, trivial⟩
        rw [show ifV ((kk.val : Int) % 2 = 1) lowV (L.getD j tRn.z) = L.getD j tRn.z from if_neg (by omega), set_same]
        exact MOle.refl _
    generalize hx1 : ifV ((kk.val : Int) % 2 = 1) lowV (L.getD j tRn.z) = x1
    have hl1 : (L.set j x1).length = l.length := by rw [List.length_set]; exact hml
    have hg1 : (L.set j x1).getD (j : Int).toNat tRn.z = x1 := getD_setL L j x1 _ hjl
    have hst2 : ∀ y, (L.set j x1).set j y = L.set j y := fun y => List.set_set ..
    generalize hM1 : L.set j x1 = M1 at hl1 hg1 hst2
    refine Run.goS true 0 ?_; (conv => whnf); repeat' (first | ((with_reducible refine Know.mk fun _ => ?_); conv => whnf) | ((with_reducible refine Need.mk ?_ ?_); exact nd; conv => whnf) | ((with_reducible first | refine Both.mk ?_ ?_ | refine Any.mk fun b hb => ?_ | refine AskB.dec (fun hb => ?_) (fun hb => ?_) | refine AskB.ndec (fun hb => ?_) (fun hb => ?_) | refine AskB.mk (fun hb => ?_) (fun hb => ?_)) <;> conv => whnf) | ((with_reducible first | refine Run.drawX rfl (by decide +kernel) ?_ | refine Run.drawT rfl (by decide +kernel) ?_ | refine Run.drawW rfl (by decide +kernel) ?_); conv => whnf) | fail)
    refine Run.ifk [1, 6, 7] (fun (_ : Unit) => []) (fun _ => [(1000, tRn.R 21 (L.set j (ifV ((kk.val : Int) / 2 % 2 = 1) bareV x1)))]) (fun _ => True) rfl ⟨fun next => ⟨fun hb => ?_, fun hb => ?_⟩, fun _ _ => ?_⟩
    · have hb := of_decide_eq_true hb
      refine Run.goS false 6 ?_; (conv => whnf); repeat' (first | ((with_reducible refine Know.mk fun _ => ?_); conv => whnf) | ((with_reducible refine Need.mk ?_ ?_); exact nd; conv => whnf) | ((with_reducible first | refine Both.mk ?_ ?_ | refine Any.mk fun b hb => ?_ | refine AskB.dec (fun hb => ?_) (fun hb => ?_) | refine AskB.ndec (fun hb => ?_) (fun hb => ?_) | refine AskB.mk (fun hb => ?_) (fun hb => ?_)) <;> conv => whnf) | ((with_reducible first | refine Run.drawX rfl (by decide +kernel) ?_ | refine Run.drawT rfl (by decide +kernel) ?_ | refine Run.drawW rfl (by decide +kernel) ?_); conv => whnf) | fail)
      refine Run.callB (bare45_fn (x1)) rfl rfl ⟨?_, trivial⟩ rfl rfl rfl ?_
      · exact Le.int hg1
      refine Run.goS false 6 ?_; (conv => whnf); repeat' (first | ((with_reducible refine Know.mk fun _ => ?_); conv => whnf) | ((with_reducible refine Need.mk ?_ ?_); exact nd; conv => whnf) | ((with_reducible first | refine Both.mk ?_ ?_ | refine Any.mk fun b hb => ?_ | refine AskB.dec (fun hb => ?_) (fun hb => ?_) | refine AskB.ndec (fun hb => ?_) (fun hb => ?_) | refine AskB.mk (fun hb => ?_) (fun hb => ?_)) <;> conv => whnf) | ((with_reducible first | refine Run.drawX rfl (by decide +kernel) ?_ | refine Run.drawT rfl (by decide +kernel) ?_ | refine Run.drawW rfl (by decide +kernel) ?_); conv => whnf) | fail)
      refine Run.to _ _ ?_ ?_ (next () trivial)
      · exact ⟨Le.refl _, Le.refl _, Le.refl _, trivial⟩
      · refine ⟨?_, trivial⟩
        rw [show ifV ((kk.val : Int) / 2 % 2 = 1) bareV x1 = bareV x1 from if_pos (by omega), ← hst2]
        exact tRn.set 21 M1 j _ (by omega) _ rfl (Le.one (Le.refl _))
    · have hb := of_decide_eq_false hb
      refine Run.goS false 6 ?_; (conv => whnf); repeat' (first | ((with_reducible refine Know.mk fun _ => ?_); conv => whnf) | ((with_reducible refine Need.mk ?_ ?_); exact nd; conv => whnf) | ((with_reducible first | refine Both.mk ?_ ?_ | refine Any.mk fun b hb => ?_ | refine AskB.dec (fun hb => ?_) (fun hb => ?_) | refine AskB.ndec (fun hb => ?_) (fun hb => ?_) | refine AskB.mk (fun hb => ?_) (fun hb => ?_)) <;> conv => whnf) | ((with_reducible first | refine Run.drawX rfl (by decide +kernel) ?_ | refine Run.drawT rfl (by decide +kernel) ?_ | refine Run.drawW rfl (by decide +kernel) ?_); conv => whnf) | fail)
      refine Run.to _ _ ?_ ?_ (next () trivial)
      · exact ⟨Le.refl _, Le.refl _, Le.refl _, trivial⟩
      · refine ⟨?_, trivial⟩
        rw [show ifV ((kk.val : Int) / 2 % 2 = 1) bareV x1 = x1 from if_neg (by omega), hM1]
        exact MOle.refl _
    generalize hx2 : ifV ((kk.val : Int) / 2 % 2 = 1) bareV x1 = x2
    have hl2 : (L.set j x2).length = l.length := by rw [List.length_set]; exact hml
    have hg2 : (L.set j x2).getD (j : Int).toNat tRn.z = x2 := getD_setL L j x2 _ hjl
    have hst3 : ∀ y, (L.set j x2).set j y = L.set j y := fun y => List.set_set ..
    generalize hM2 : L.set j x2 = M2 at hl2 hg2 hst3
    refine Run.goS true 0 ?_; (conv => whnf); repeat' (first | ((with_reducible refine Know.mk fun _ => ?_); conv => whnf) | ((with_reducible refine Need.mk ?_ ?_); exact nd; conv => whnf) | ((with_reducible first | refine Both.mk ?_ ?_ | refine Any.mk fun b hb => ?_ | refine AskB.dec (fun hb => ?_) (fun hb => ?_) | refine AskB.ndec (fun hb => ?_) (fun hb => ?_) | refine AskB.mk (fun hb => ?_) (fun hb => ?_)) <;> conv => whnf) | ((with_reducible first | refine Run.drawX rfl (by decide +kernel) ?_ | refine Run.drawT rfl (by decide +kernel) ?_ | refine Run.drawW rfl (by decide +kernel) ?_); conv => whnf) | fail)
    refine Run.ifk [1, 6, 7] (fun (_ : Unit) => []) (fun _ => [(1000, tRn.R 21 (L.set j (ifV ((kk.val : Int) / 8 % 2 = 1) letterV x2)))]) (fun _ => True) rfl ⟨fun next => ⟨fun hb => ?_, fun hb => ?_⟩, fun _ _ => ?_⟩
    · have hb := of_decide_eq_true hb
      refine Run.goS false 5 ?_; (conv => whnf); repeat' (first | ((with_reducible refine Know.mk fun _ => ?_); conv => whnf) | ((with_reducible refine Need.mk ?_ ?_); exact nd; conv => whnf) | ((with_reducible first | refine Both.mk ?_ ?_ | refine Any.mk fun b hb => ?_ | refine AskB.dec (fun hb => ?_) (fun hb => ?_) | refine AskB.ndec (fun hb => ?_) (fun hb => ?_) | refine AskB.mk (fun hb => ?_) (fun hb => ?_)) <;> conv => whnf) | ((with_reducible first | refine Run.drawX rfl (by decide +kernel) ?_ | refine Run.drawT rfl (by decide +kernel) ?_ | refine Run.drawW rfl (by decide +kernel) ?_); conv => whnf) | fail)
      refine Run.callB (plain46_fn (x2)) rfl rfl ⟨?_, trivial⟩ rfl rfl rfl ?_
      · exact Le.int hg2
      refine Run.goS false 5 ?_; (conv => whnf); repeat' (first | ((with_reducible refine Know.mk fun _ => ?_); conv => whnf) | ((with_reducible refine Need.mk ?_ ?_); exact nd; conv => whnf) | ((with_reducible first | refine Both.mk ?_ ?_ | refine Any.mk fun b hb => ?_ | refine AskB.dec (fun hb => ?_) (fun hb => ?_) | refine AskB.ndec (fun hb => ?_) (fun hb => ?_) | refine AskB.mk (fun hb => ?_) (fun hb => ?_)) <;> conv => whnf) | ((with_reducible first | refine Run.drawX rfl (by decide +kernel) ?_ | refine Run.drawT rfl (by decide +kernel) ?_ | refine Run.drawW rfl (by decide +kernel) ?_); conv => whnf) | fail)
      refine Run.to _ _ ?_ ?_ (next () trivial)
      · exact ⟨Le.refl _, Le.refl _, Le.refl _, trivial⟩
      · refine ⟨?_, trivial⟩
        rw [show ifV ((kk.val : Int) / 8 % 2 = 1) letterV x2 = letterV x2 from if_pos (by omega), ← hst3]
        exact tRn.set 21 M2 j _ (by omega) _ rfl (Le.one (Le.refl _))
    · have hb := of_decide_eq_false hb
      refine Run.goS false 5 ?_; (conv => whnf); repeat' (first | ((with_reducible refine Know.mk fun _ => ?_); conv => whnf) | ((with_reducible refine Need.mk ?_ ?_); exact nd; conv => whnf) | ((with_reducible first | refine Both.mk ?_ ?_ | refine Any.mk fun b hb => ?_ | refine AskB.dec (fun hb => ?_) (fun hb => ?_) | refine AskB.ndec (fun hb => ?_) (fun hb => ?_) | refine AskB.mk (fun hb => ?_) (fun hb => ?_)) <;> conv => whnf) | ((with_reducible first | refine Run.drawX rfl (by decide +kernel) ?_ | refine Run.drawT rfl (by decide +kernel) ?_ | refine Run.drawW rfl (by decide +kernel) ?_); conv => whnf) | fail)
      refine Run.to _ _ ?_ ?_ (next () trivial)
      · exact ⟨Le.refl _, Le.refl _, Le.refl _, trivial⟩
      · refine ⟨?_, trivial⟩
        rw [show ifV ((kk.val : Int) / 8 % 2 = 1) letterV x2 = x2 from if_neg (by omega), hM2]
        exact MOle.refl _
    refine Run.go ?_; (conv => whnf); repeat' (first | ((with_reducible refine Know.mk fun _ => ?_); conv => whnf) | ((with_reducible refine Need.mk ?_ ?_); exact nd; conv => whnf) | ((with_reducible first | refine Both.mk ?_ ?_ | refine Any.mk fun b hb => ?_ | refine AskB.dec (fun hb => ?_) (fun hb => ?_) | refine AskB.ndec (fun hb => ?_) (fun hb => ?_) | refine AskB.mk (fun hb => ?_) (fun hb => ?_)) <;> conv => whnf) | ((with_reducible first | refine Run.drawX rfl (by decide +kernel) ?_ | refine Run.drawT rfl (by decide +kernel) ?_ | refine Run.drawW rfl (by decide +kernel) ?_); conv => whnf) | fail)
    refine Run.to _ _ ?_ ?_ (IH (j + 1) (by omega) (by omega))
    · exact ⟨Le.refl _, Le.refl _, Le.int hwj, trivial⟩
    · refine ⟨?_, trivial⟩
      have hst4 := hst (by omega)
      rw [stepV_if, hx1, hx2] at hst4
      rw [← hst4]
      exact MOle.refl _
  · have hb := of_decide_eq_false hb
    obtain rfl : j = l.length := by omega
    refine Run.go ?_; (conv => whnf); repeat' (first | ((with_reducible refine Know.mk fun _ => ?_); conv => whnf) | ((with_reducible refine Need.mk ?_ ?_); exact nd; conv => whnf) | ((with_reducible first | refine Both.mk ?_ ?_ | refine Any.mk fun b hb => ?_ | refine AskB.dec (fun hb => ?_) (fun hb => ?_) | refine AskB.ndec (fun hb => ?_) (fun hb => ?_) | refine AskB.mk (fun hb => ?_) (fun hb => ?_)) <;> conv => whnf) | ((with_reducible first | refine Run.drawX rfl (by decide +kernel) ?_ | refine Run.drawT rfl (by decide +kernel) ?_ | refine Run.drawW rfl (by decide +kernel) ?_); conv => whnf) | fail)
    rw [mapTo_all] at hL
    have hLn : L.length ≤ 10000000 := by omega
    refine Run.callAX (back47_fn L hLn) rfl rfl ⟨Le.refl _, trivial⟩ rfl rfl rfl ?_
    (conv => whnf); repeat' (first | ((with_reducible refine Know.mk fun _ => ?_); conv => whnf) | ((with_reducible refine Need.mk ?_ ?_); exact nd; conv => whnf) | ((with_reducible first | refine Both.mk ?_ ?_ | refine Any.mk fun b hb => ?_ | refine AskB.dec (fun hb => ?_) (fun hb => ?_) | refine AskB.ndec (fun hb => ?_) (fun hb => ?_) | refine AskB.mk (fun hb => ?_) (fun hb => ?_)) <;> conv => whnf) | ((with_reducible first | refine Run.drawX rfl (by decide +kernel) ?_ | refine Run.drawT rfl (by decide +kernel) ?_ | refine Run.drawW rfl (by decide +kernel) ?_); conv => whnf) | fail)
    rw [hL]
    exact Run.leave (ts := [4,5]) (.inr ⟨_, rfl⟩) rfl Tryz.func100 rfl (resT ⟨Le.refl _, Le.refl _, trivial⟩)
end Go.Proofs.YteklnpgiloebcaaGreatDoor.V

namespace Go.Proofs.YteklnpgiloebcaaGreatDoor.V
set_option linter.unusedVariables false
set_option linter.unusedSimpArgs false
open Go Go.Proofs Go.RowKit
set_option maxRecDepth 100000
set_option maxHeartbeats 4000000
open Go Go.Proofs Go.Proofs.YteklnpgiloebcaaGreatDoor.V
theorem refL_eq (r o : Int) : backE ((refL r o).map (stepV o)) = foldR r o := by
  have hd : ∀ k, dropE k [r] = if kOf r = k then [] else [r] := fun k => by
    by_cases h : kOf r = k
    · rw [dropE_no h, if_pos h]; rfl
    · rw [dropE_yes h, if_neg h]; rfl
  have hn : ∀ k, dropE k [] = [] := fun k => rfl
  have hl0 : ligsE [] = [] := rfl
  have hl1 : ligsE [r] = ligE r := by simp [ligsE]
  unfold foldR dropV backE
  rw [catE_eq, runesV_eq]
  unfold refL
  simp only [hd]
  by_cases h16 : o / 16 % 2 = 1 <;> by_cases h2 : o / 2 % 2 = 1 <;> by_cases h4 : o / 4 % 2 = 1 <;> by_cases k4 : kOf r = 4 <;> by_cases k2 : kOf r = 2 <;> by_cases hL : isLig r = true <;> simp [h16, h2, h4, k4, k2, hL, hd, hn, hl0, hl1, ligE, encs, bl] <;> rfl
theorem rune28_fn' (r o : Int) : Fn Tryz.prog 100 [.int .i32 r, .int .i64 o] (runeL r o) := by
  have := rune28_fn r o
  rw [refL_eq] at this
  exact this
theorem text29_fn (s : ByteArray) (o : Int) (hs : s.size ≤ 134217728) : Fn Tryz.prog 73 [.str s, .int .i64 o] (textL s o) := by
  refine Fn.of Tryz.f73 _ Tryz.func73 rfl (by decide) (by show 2 ≤ _; decide) tbOk 53 rfl fun S w0 gl => ?_
  by_cases hbad : badO o
  · have hbo : o < 0 ∨ 31 < o := hbad
    unfold textL
    rw [if_pos hbad, if_pos hbad]
    refine Run.go ?_; (conv => whnf); repeat' (first | ((with_reducible refine Know.mk fun _ => ?_); conv => whnf) | ((with_reducible refine Need.mk ?_ ?_); exact nd; conv => whnf) | ((with_reducible refine Both.mk ?_ ?_) <;> conv => whnf) | ((with_reducible refine Any.mk fun b hb => ?_); conv => whnf) | ((with_reducible first | refine AskB.dec (fun hb => ?_) (fun hb => ?_) | refine AskB.ndec (fun hb => ?_) (fun hb => ?_) | refine AskB.mk (fun hb => ?_) (fun hb => ?_)) <;> first | (exfalso; omega) | (conv => whnf)) | ((with_reducible first | refine Run.drawX rfl (by decide +kernel) ?_ | refine Run.drawT rfl (by decide +kernel) ?_ | refine Run.drawW rfl (by decide +kernel) ?_); conv => whnf) | fail)
    all_goals first
      | exact Run.leave (ts := [4,5]) (.inr ⟨_, rfl⟩) rfl Tryz.func73 rfl (resT ⟨Le.refl _, Le.refl _, trivial⟩)
      | (exfalso; omega)
  have hbo : ¬ (o < 0 ∨ 31 < o) := hbad
  unfold textL
  rw [if_neg hbad, if_neg hbad]
  refine Run.go ?_; (conv => whnf); repeat' (first | ((with_reducible refine Know.mk fun _ => ?_); conv => whnf) | ((with_reducible refine Need.mk ?_ ?_); exact nd; conv => whnf) | ((with_reducible refine Both.mk ?_ ?_) <;> conv => whnf) | ((with_reducible refine Any.mk fun b hb => ?_); conv => whnf) | ((with_reducible first | refine AskB.dec (fun hb => ?_) (fun hb => ?_) | refine AskB.ndec (fun hb => ?_) (fun hb => ?_) | refine AskB.mk (fun hb => ?_) (fun hb => ?_)) <;> first | (exfalso; omega) | (conv => whnf)) | ((with_reducible first | refine Run.drawX rfl (by decide +kernel) ?_ | refine Run.drawT rfl (by decide +kernel) ?_ | refine Run.drawW rfl (by decide +kernel) ?_); conv => whnf) | fail)
  all_goals try (exfalso; omega)
  refine Run.callBX (cells36_fn s hs) rfl rfl ⟨Le.refl _, trivial⟩ rfl rfl rfl ?_
  have hcl := cells_len s 0
  have hT : ∀ j, (catC o ((cells s 0).take j)).size ≤ 2000000000 := fun j => by
    have h1 := catC_size o ((cells s 0).take j)
    have h2 : ((cells s 0).take j).length ≤ (cells s 0).length := by rw [List.length_take]; omega
    omega
  have hby := cell_byte s 0
  unfold textF
  generalize cells s 0 = L at hcl hT hby ⊢
  (conv => whnf); repeat' (first | ((with_reducible refine Know.mk fun _ => ?_); conv => whnf) | ((with_reducible refine Need.mk ?_ ?_); exact nd; conv => whnf) | ((with_reducible first | refine Both.mk ?_ ?_ | refine Any.mk fun b hb => ?_ | refine AskB.dec (fun hb => ?_) (fun hb => ?_) | refine AskB.ndec (fun hb => ?_) (fun hb => ?_) | refine AskB.mk (fun hb => ?_) (fun hb => ?_)) <;> conv => whnf) | ((with_reducible first | refine Run.drawX rfl (by decide +kernel) ?_ | refine Run.drawT rfl (by decide +kernel) ?_ | refine Run.drawW rfl (by decide +kernel) ?_); conv => whnf) | fail)
  refine Run.holdNil 6 1000 5 1 (bytesG .empty) rfl ?_
  refine Run.loop [1, 7] (fun (j : Nat) => [(6, .row 1000), (8, .int .i64 (j : Int))]) (fun j => [(1000, .row 5 1 (catC o (L.take j)).size (bytesG (catC o (L.take j))))]) (fun j => j ≤ L.length) (fun j => L.length - j) 0 (Nat.zero_le _) ⟨Le.refl _, Le.refl _, trivial⟩ ⟨MOle.refl _, trivial⟩ ?_
  intro j hj IH
  have hwj : IntKind.i64.wrap ((j : Int) + 1) = ((j + 1 : Nat) : Int) := wrap64 (by omega) (by omega)
  have hTj := hT j
  refine Run.go ?_; (conv => whnf); repeat' (first | ((with_reducible refine Know.mk fun _ => ?_); conv => whnf) | ((with_reducible refine Need.mk ?_ ?_); exact nd; conv => whnf) | ((with_reducible first | refine Both.mk ?_ ?_ | refine Any.mk fun b hb => ?_ | refine AskB.dec (fun hb => ?_) (fun hb => ?_) | refine AskB.ndec (fun hb => ?_) (fun hb => ?_) | refine AskB.mk (fun hb => ?_) (fun hb => ?_)) <;> conv => whnf) | ((with_reducible first | refine Run.drawX rfl (by decide +kernel) ?_ | refine Run.drawT rfl (by decide +kernel) ?_ | refine Run.drawW rfl (by decide +kernel) ?_); conv => whnf) | fail)
  case _ =>
    have hjl : j < L.length := by omega
    have hb2 : (L.getD j tCel.z).bad = true := hb
    have hcf : cellF o (L.getD j tCel.z) = ⟨#[UInt8.ofNat (L.getD j tCel.z).byte.toNat]⟩ := if_pos hb2
    refine Run.hold (z := 37) 6 1000 (by rfl) (by rfl) (by rfl) ?_
    refine Run.to _ _ ?_ ?_ (IH (j + 1) (by omega) (by omega))
    · exact ⟨Le.refl _, Le.refl _, Le.refl _, Le.int hwj, trivial⟩
    · refine ⟨?_, trivial⟩
      rw [catC_take _ _ _ hjl, hcf]
      refine bytesG_push 5 _ (UInt8.ofNat (L.getD j tCel.z).byte.toNat) _ ?_
      rw [hby _ (by rw [List.getD, List.getElem?_eq_getElem hjl]; exact List.getElem_mem hjl)]; rfl
  case _ =>
    have hjl : j < L.length := by omega
    have hb2 : (L.getD j tCel.z).bad = false := hb
    have hcf : cellF o (L.getD j tCel.z) = foldR (L.getD j tCel.z).r o := if_neg (by rw [hb2]; exact Bool.noConfusion)
    have hfs := foldR_size (L.getD j tCel.z).r o
    have hru := rune28_fn' (L.getD j tCel.z).r o
    unfold runeL at hru
    rw [if_neg hbad, if_neg hbad] at hru
    refine Run.callBX hru rfl rfl ⟨Le.refl _, Le.refl _, trivial⟩ rfl rfl rfl ?_
    (conv => whnf); repeat' (first | ((with_reducible refine Know.mk fun _ => ?_); conv => whnf) | ((with_reducible refine Need.mk ?_ ?_); exact nd; conv => whnf) | ((with_reducible first | refine Both.mk ?_ ?_ | refine Any.mk fun b hb => ?_ | refine AskB.dec (fun hb => ?_) (fun hb => ?_) | refine AskB.ndec (fun hb => ?_) (fun hb => ?_) | refine AskB.mk (fun hb => ?_) (fun hb => ?_)) <;> conv => whnf) | ((with_reducible first | refine Run.drawX rfl (by decide +kernel) ?_ | refine Run.drawT rfl (by decide +kernel) ?_ | refine Run.drawW rfl (by decide +kernel) ?_); conv => whnf) | fail)
    refine Run.hold (z := 50) 6 1000 (by rfl) (by rfl) (by rfl) ?_
    refine Run.to _ _ ?_ ?_ (IH (j + 1) (by omega) (by omega))
    · exact ⟨Le.refl _, Le.refl _, Le.refl _, Le.int hwj, trivial⟩
    · refine ⟨?_, trivial⟩
      rw [catC_take _ _ _ hjl, hcf]
      exact bytesG_join 5 _ _
  case _ =>
    obtain rfl : j = L.length := by omega
    rw [List.take_length]
    refine Run.rowStr (x := .tmp 51) (src := 75) (dst := 9) (e := 5) (q := 1000) (catC o L) rfl rfl rfl rfl rfl rfl rfl (fun _ _ => rfl) (by kernel_rfl) (by kernel_rfl) (by kernel_rfl) ?_
    refine Run.go ?_; (conv => whnf); repeat' (first | ((with_reducible refine Know.mk fun _ => ?_); conv => whnf) | ((with_reducible refine Need.mk ?_ ?_); exact nd; conv => whnf) | ((with_reducible first | refine Both.mk ?_ ?_ | refine Any.mk fun b hb => ?_ | refine AskB.dec (fun hb => ?_) (fun hb => ?_) | refine AskB.ndec (fun hb => ?_) (fun hb => ?_) | refine AskB.mk (fun hb => ?_) (fun hb => ?_)) <;> conv => whnf) | ((with_reducible first | refine Run.drawX rfl (by decide +kernel) ?_ | refine Run.drawT rfl (by decide +kernel) ?_ | refine Run.drawW rfl (by decide +kernel) ?_); conv => whnf) | fail)
    exact Run.leave (ts := [4,5]) (.inr ⟨_, rfl⟩) rfl Tryz.func73 rfl (resT ⟨Le.refl _, Le.refl _, trivial⟩)
end Go.Proofs.YteklnpgiloebcaaGreatDoor.V

