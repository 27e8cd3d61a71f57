/-
The texts BWq, BWr, BXp, BXr, BTa, BWt, BWu, BWv, BWx, BWy, BWz, BXa, BGa, BTb, BTc, BGb, BGc, BGd, BGe, BGf, BGh, BGi, BMa, BMc, BMd, BNa, BNl, of each what the law needs.
-/
import Derived.Test.YtnadacaoehpdnaaDoorQMs2
import Derived.Lib.MapLaws
namespace Go.Proofs.YtnadacaoehpdnaaDoor.V
set_option linter.unusedVariables false
set_option linter.unusedSimpArgs false
open Go Go.Proofs Go.RowKit
set_option maxRecDepth 100000
set_option maxHeartbeats 2000000
open Go Go.Proofs Go.Proofs.YtnadacaoehpdnaaDoor.V
theorem ws5 {N : Nat} {w0 : World} {S : Nat → Prop} {gl : GlobOk S w0} {f : FuncId} {R : Ending → World → Prop} {ops : Array Oper} {i : Nat} {rest : List Nat} {k : List Item} {env : Env} {h : Heap} {o : Oper} {x y : Operand}
    (p : AV) (t s : ByteArray) (ho : ops.toList[i]? = some o) (hc : calls? o = some (72, [x, y])) (hd : okD N o.dst = true) (hr : ready env ops o = true) (hx : ev (scrubE 900 env) x = .box 5 0) (hy : ev (scrubE 900 env) y = .str s)
    (hs : t.size + s.size ≤ 140737488355328) (hp : p = .nilp ∨ p = .box 5 0)
    (next : Run ⟨Tryd.prog, TB, tbOk, N, w0, S, gl, f, R⟩ (.inRegion ops rest :: k) (putE (envW 90 env) o.dst .u) (bldr 95 5 5 90 (heapW 90 h) (.box 5 0) (t ++ s))) :
    Run ⟨Tryd.prog, TB, tbOk, N, w0, S, gl, f, R⟩ (.inRegion ops (i :: rest) :: k) env (bldr 95 5 5 90 h p t) := by
  refine Run.inline 900 Tryd.f72 _ 19 ho hc Tryd.func72 rfl (by decide) rfl (by show 2 ≤ 19; decide) hd hr (fun a hsz hdf => ?_)
  simp only [List.map, hx, hy]
  have fin : ∀ (E : Env) (H : Heap) (X : AV), (∀ i, E i = scrub 14 (scrub 901 (scrub 900 (env i)))) → (∀ id, Nat.beq id 5 = false → Nat.beq id 90 = false → Nat.beq id 14 = false → Nat.beq id 901 = false → Nat.beq id 900 = false → H id = scrubM 90 (scrubM 14 (scrubM 901 (scrubM 900 (h id))))) →
      MOle (H 5) (.box 95 [.box 5 0, .row 90]) → MOle (H 90) (.row 5 1 (t ++ s).size (bytesG (t ++ s))) → Run ⟨Tryd.prog, TB, tbOk, N, w0, S, gl, f, R⟩ (.inRegion ops rest :: k) (scrubE 90 (putE E o.dst X)) H := by
    intro E H X hE hH h5 h90
    refine Run.weaken (fun i => ?_) (fun id => ?_) next
    · cases hdst : o.dst with
      | none => show Le (scrub 90 (E i)) _; rw [hE]; exact Le.refl _
      | some d =>
        show Le (scrub 90 (upd E d X i)) (upd (envW 90 env) d .u i)
        by_cases e : i = d
        · subst e; rw [upd_same, upd_same]; exact Le.u _
        · rw [upd_other _ _ e, upd_other _ _ e, hE]; exact Le.refl _
    · unfold bldr heapW
      cases e5 : Nat.beq id 5 with
      | true => have := Nat.eq_of_beq_eq_true e5; subst this; exact h5
      | false =>
      cases e90 : Nat.beq id 90 with
      | true => have := Nat.eq_of_beq_eq_true e90; subst this; exact h90
      | false =>
      cases e900 : Nat.beq id 900 with
      | true => simp only [upd, e5, e90, e900, cond_true, cond_false]; exact mole_dead _
      | false =>
      cases e901 : Nat.beq id 901 with
      | true => simp only [upd, e5, e90, e900, e901, cond_true, cond_false]; exact mole_dead _
      | false =>
      cases e14 : Nat.beq id 14 with
      | true => simp only [upd, e5, e90, e900, e901, e14, cond_true, cond_false]; exact mole_dead _
      | false =>
        rw [hH id e5 e90 e14 e901 e900]
        simp only [upd, e5, e90, e900, e901, e14, cond_true, cond_false]
        exact MOle.refl _
  rcases hp with rfl | rfl
  · refine Run.go ?_; (conv => whnf); repeat' (first | ((with_reducible refine Know.mk fun _ => ?_); conv => whnf) | ((with_reducible refine Need.mk ?_ ?_); exact nd; conv => whnf) | ((with_reducible first | refine Both.mk ?_ ?_ | refine Any.mk fun b hb => ?_ | refine AskB.dec (fun hb => ?_) (fun hb => ?_) | refine AskB.ndec (fun hb => ?_) (fun hb => ?_) | refine AskB.mk (fun hb => ?_) (fun hb => ?_)) <;> conv => whnf) | ((with_reducible first | refine Run.drawX rfl (by decide +kernel) ?_ | refine Run.drawT rfl (by decide +kernel) ?_ | refine Run.drawW rfl (by decide +kernel) ?_); conv => whnf))
    refine Run.inline 901 Tryd.f61 _ 20 rfl rfl Tryd.func61 rfl (by decide) rfl (by decide) rfl rfl (fun a2 hsz2 hdf2 => ?_)
    refine Run.go ?_; (conv => whnf); repeat' (first | ((with_reducible refine Know.mk fun _ => ?_); conv => whnf) | ((with_reducible refine Need.mk ?_ ?_); exact nd; conv => whnf) | ((with_reducible first | refine Both.mk ?_ ?_ | refine Any.mk fun b hb => ?_ | refine AskB.dec (fun hb => ?_) (fun hb => ?_) | refine AskB.ndec (fun hb => ?_) (fun hb => ?_) | refine AskB.mk (fun hb => ?_) (fun hb => ?_)) <;> conv => whnf) | ((with_reducible first | refine Run.drawX rfl (by decide +kernel) ?_ | refine Run.drawT rfl (by decide +kernel) ?_ | refine Run.drawW rfl (by decide +kernel) ?_); conv => whnf))
    refine Run.toUnsafe (id := 5) (l := [.nilp, .row 90]) (e := 95) (t := 95) (src := 92) (dst := 136) (x := .tmp 8) rfl rfl rfl rfl rfl rfl (by decide) (by kernel_rfl) (by kernel_rfl) (j := (Tryd.prog.info? 95).get (by kernel_rfl)) (by kernel_rfl) (by decide +kernel) ?_
    refine Run.noEscape (f := 79) (x := .tmp 9) rfl rfl rfl rfl Tryd.func79 (by kernel_rfl) (by kernel_rfl) (by kernel_rfl) (by kernel_rfl) ?_
    refine Run.fromUnsafe (id := 5) (l := [.nilp, .row 90]) (e := 95) (u := 95) (src := 136) (dst := 92) (x := .tmp 10) rfl rfl rfl rfl rfl rfl (by kernel_rfl) (by kernel_rfl) (j := (Tryd.prog.info? 95).get (by kernel_rfl)) (by kernel_rfl) (by kernel_rfl) ?_
    refine Run.go ?_; (conv => whnf); repeat' (first | ((with_reducible refine Know.mk fun _ => ?_); conv => whnf) | ((with_reducible refine Need.mk ?_ ?_); exact nd; conv => whnf) | ((with_reducible first | refine Both.mk ?_ ?_ | refine Any.mk fun b hb => ?_ | refine AskB.dec (fun hb => ?_) (fun hb => ?_) | refine AskB.ndec (fun hb => ?_) (fun hb => ?_) | refine AskB.mk (fun hb => ?_) (fun hb => ?_)) <;> conv => whnf) | ((with_reducible first | refine Run.drawX rfl (by decide +kernel) ?_ | refine Run.drawT rfl (by decide +kernel) ?_ | refine Run.drawW rfl (by decide +kernel) ?_); conv => whnf))
    refine Run.back 901 (ts := []) hsz2 hdf2 (.inl rfl) (by rfl) Tryd.func61 rfl ?_
    refine Run.go ?_; (conv => whnf); repeat' (first | ((with_reducible refine Know.mk fun _ => ?_); conv => whnf) | ((with_reducible refine Need.mk ?_ ?_); exact nd; conv => whnf) | ((with_reducible first | refine Both.mk ?_ ?_ | refine Any.mk fun b hb => ?_ | refine AskB.dec (fun hb => ?_) (fun hb => ?_) | refine AskB.ndec (fun hb => ?_) (fun hb => ?_) | refine AskB.mk (fun hb => ?_) (fun hb => ?_)) <;> conv => whnf) | ((with_reducible first | refine Run.drawX rfl (by decide +kernel) ?_ | refine Run.drawT rfl (by decide +kernel) ?_ | refine Run.drawW rfl (by decide +kernel) ?_); conv => whnf))
    refine Run.back 900 (ts := [4, 5]) hsz hdf (.inr ⟨_, rfl⟩) (by rfl) Tryd.func72 rfl ?_
    refine Run.holdBoxRow 5 1 90 14 (by rfl) (by rfl) (by rfl) rfl rfl rfl ?_
    refine fin _ _ _ (fun i => rfl) (fun id e5 e90 e14 e901 e900 => ?_) (MOle.refl _) (bytesG_join 5 t s)
    simp only [upd, scrubH, scrubM, bldr, e5, e90, e14, e901, e900, cond_false]
  · refine Run.go ?_; (conv => whnf); repeat' (first | ((with_reducible refine Know.mk fun _ => ?_); conv => whnf) | ((with_reducible refine Need.mk ?_ ?_); exact nd; conv => whnf) | ((with_reducible first | refine Both.mk ?_ ?_ | refine Any.mk fun b hb => ?_ | refine AskB.dec (fun hb => ?_) (fun hb => ?_) | refine AskB.ndec (fun hb => ?_) (fun hb => ?_) | refine AskB.mk (fun hb => ?_) (fun hb => ?_)) <;> conv => whnf) | ((with_reducible first | refine Run.drawX rfl (by decide +kernel) ?_ | refine Run.drawT rfl (by decide +kernel) ?_ | refine Run.drawW rfl (by decide +kernel) ?_); conv => whnf))
    refine Run.inline 901 Tryd.f61 _ 20 rfl rfl Tryd.func61 rfl (by decide) rfl (by decide) rfl rfl (fun a2 hsz2 hdf2 => ?_)
    refine Run.go ?_; (conv => whnf); repeat' (first | ((with_reducible refine Know.mk fun _ => ?_); conv => whnf) | ((with_reducible refine Need.mk ?_ ?_); exact nd; conv => whnf) | ((with_reducible first | refine Both.mk ?_ ?_ | refine Any.mk fun b hb => ?_ | refine AskB.dec (fun hb => ?_) (fun hb => ?_) | refine AskB.ndec (fun hb => ?_) (fun hb => ?_) | refine AskB.mk (fun hb => ?_) (fun hb => ?_)) <;> conv => whnf) | ((with_reducible first | refine Run.drawX rfl (by decide +kernel) ?_ | refine Run.drawT rfl (by decide +kernel) ?_ | refine Run.drawW rfl (by decide +kernel) ?_); conv => whnf))
    refine Run.back 901 (ts := []) hsz2 hdf2 (.inl rfl) (by rfl) Tryd.func61 rfl ?_
    refine Run.go ?_; (conv => whnf); repeat' (first | ((with_reducible refine Know.mk fun _ => ?_); conv => whnf) | ((with_reducible refine Need.mk ?_ ?_); exact nd; conv => whnf) | ((with_reducible first | refine Both.mk ?_ ?_ | refine Any.mk fun b hb => ?_ | refine AskB.dec (fun hb => ?_) (fun hb => ?_) | refine AskB.ndec (fun hb => ?_) (fun hb => ?_) | refine AskB.mk (fun hb => ?_) (fun hb => ?_)) <;> conv => whnf) | ((with_reducible first | refine Run.drawX rfl (by decide +kernel) ?_ | refine Run.drawT rfl (by decide +kernel) ?_ | refine Run.drawW rfl (by decide +kernel) ?_); conv => whnf))
    refine Run.back 900 (ts := [4, 5]) hsz hdf (.inr ⟨_, rfl⟩) (by rfl) Tryd.func72 rfl ?_
    refine Run.holdBoxRow 5 1 90 14 (by rfl) (by rfl) (by rfl) rfl rfl rfl ?_
    refine fin _ _ _ (fun i => rfl) (fun id e5 e90 e14 e901 e900 => ?_) (MOle.refl _) (bytesG_join 5 t s)
    simp only [upd, scrubH, scrubM, bldr, e5, e90, e14, e901, e900, cond_false]
theorem bs5 {N : Nat} {w0 : World} {S : Nat → Prop} {gl : GlobOk S w0} {f : FuncId} {R : Ending → World → Prop} {ops : Array Oper} {i : Nat} {rest : List Nat} {k : List Item} {env : Env} {h : Heap} {o : Oper} {x : Operand}
    (p : AV) (t : ByteArray) (ho : ops.toList[i]? = some o) (hc : calls? o = some (49, [x])) (hd : okD N o.dst = true) (hr : ready env ops o = true) (hx : ev (scrubE 900 env) x = .box 5 0)
    (next : Run ⟨Tryd.prog, TB, tbOk, N, w0, S, gl, f, R⟩ (.inRegion ops rest :: k) (putE (scrubE 900 env) o.dst (.str t)) (upd (upd (upd (scrubH 900 h) 900 .dead) 5 .dead) 90 .dead)) :
    Run ⟨Tryd.prog, TB, tbOk, N, w0, S, gl, f, R⟩ (.inRegion ops (i :: rest) :: k) env (bldr 95 5 5 90 h p t) := by
  refine Run.inline 900 Tryd.f49 _ 14 ho hc Tryd.func49 rfl (by decide) rfl (by show 1 ≤ 14; decide) hd hr (fun a hsz hdf => ?_)
  simp only [List.map, hx]
  have fin : ∀ (H : Heap), (∀ id, Nat.beq id 5 = false → Nat.beq id 90 = false → Nat.beq id 900 = false → H id = scrubM 900 (h id)) →
      Run ⟨Tryd.prog, TB, tbOk, N, w0, S, gl, f, R⟩ (.inRegion ops rest :: k) (putE (scrubE 900 env) o.dst (.str t)) H := by
    intro H hH
    refine Run.weaken (fun i => Le.refl _) (fun id => ?_) next
    cases e5 : Nat.beq id 5 with
    | true => simp only [upd, e5, cond_true, cond_false]; cases Nat.beq id 90 <;> exact mole_dead _
    | false =>
    cases e90 : Nat.beq id 90 with
    | true => simp only [upd, e5, e90, cond_true, cond_false]; exact mole_dead _
    | false =>
    cases e900 : Nat.beq id 900 with
    | true => simp only [upd, e5, e90, e900, cond_true, cond_false]; exact mole_dead _
    | false =>
      rw [hH id e5 e90 e900]
      simp only [upd, e5, e90, e900, cond_true, cond_false]
      exact MOle.refl _
  refine Run.go ?_; (conv => whnf); repeat' (first | ((with_reducible refine Know.mk fun _ => ?_); conv => whnf) | ((with_reducible refine Need.mk ?_ ?_); exact nd; conv => whnf) | ((with_reducible first | refine Both.mk ?_ ?_ | refine Any.mk fun b hb => ?_ | refine AskB.dec (fun hb => ?_) (fun hb => ?_) | refine AskB.ndec (fun hb => ?_) (fun hb => ?_) | refine AskB.mk (fun hb => ?_) (fun hb => ?_)) <;> conv => whnf) | ((with_reducible first | refine Run.drawX rfl (by decide +kernel) ?_ | refine Run.drawT rfl (by decide +kernel) ?_ | refine Run.drawW rfl (by decide +kernel) ?_); conv => whnf))
  · refine Run.unsafeString0 (i := 10) (rest := [11]) (k := [.code .ret]) (x := .tmp 7) (y := .tmp 12) (c := ⟨.builtin .unsafeString, #[.tmp 7, .tmp 12], #[113, 3]⟩) rfl rfl rfl rfl rfl rfl rfl (.inl rfl) (by show AV.int .i64 (t.size : Int) = _; rw [hb]; rfl) ?_
    have ht : t = .empty := by simpa using hb
    refine Run.go ?_; (conv => whnf); repeat' (first | ((with_reducible refine Know.mk fun _ => ?_); conv => whnf) | ((with_reducible refine Need.mk ?_ ?_); exact nd; conv => whnf) | ((with_reducible first | refine Both.mk ?_ ?_ | refine Any.mk fun b hb => ?_ | refine AskB.dec (fun hb => ?_) (fun hb => ?_) | refine AskB.ndec (fun hb => ?_) (fun hb => ?_) | refine AskB.mk (fun hb => ?_) (fun hb => ?_)) <;> conv => whnf) | ((with_reducible first | refine Run.drawX rfl (by decide +kernel) ?_ | refine Run.drawT rfl (by decide +kernel) ?_ | refine Run.drawW rfl (by decide +kernel) ?_); conv => whnf))
    refine Run.back 900 (ts := [2]) hsz hdf (.inr ⟨_, rfl⟩) (by rfl) Tryd.func49 rfl ?_
    rw [ht] at fin next ⊢
    exact fin _ (fun id e5 e90 e900 => by simp only [upd, scrubH, bldr, e5, e90, e900, cond_false])
  · refine Run.unsafeString (i := 10) (rest := [11]) (k := [.code .ret]) (x := .tmp 7) (y := .tmp 12) (c := ⟨.builtin .unsafeString, #[.tmp 7, .tmp 12], #[113, 3]⟩) t rfl rfl rfl rfl rfl rfl rfl rfl rfl (e := 5) (n := t.size) (q := 90) (get := bytesG t) rfl rfl hb (fun _ _ => rfl) (by kernel_rfl) (by kernel_rfl) ?_
    refine Run.go ?_; (conv => whnf); repeat' (first | ((with_reducible refine Know.mk fun _ => ?_); conv => whnf) | ((with_reducible refine Need.mk ?_ ?_); exact nd; conv => whnf) | ((with_reducible first | refine Both.mk ?_ ?_ | refine Any.mk fun b hb => ?_ | refine AskB.dec (fun hb => ?_) (fun hb => ?_) | refine AskB.ndec (fun hb => ?_) (fun hb => ?_) | refine AskB.mk (fun hb => ?_) (fun hb => ?_)) <;> conv => whnf) | ((with_reducible first | refine Run.drawX rfl (by decide +kernel) ?_ | refine Run.drawT rfl (by decide +kernel) ?_ | refine Run.drawW rfl (by decide +kernel) ?_); conv => whnf))
    refine Run.back 900 (ts := [2]) hsz hdf (.inr ⟨_, rfl⟩) (by rfl) Tryd.func49 rfl ?_
    exact fin _ (fun id e5 e90 e900 => by simp only [upd, scrubH, bldr, e5, e90, e900, cond_false])
theorem catW_app : ∀ (a b : List Wrd), catW (a ++ b) = catW a ++ catW b
  | [], b => by simp [catW]
  | w :: a, b => by simp [catW, catW_app a b, ByteArray.append_assoc]
theorem catW_take (l : List Wrd) (i : Nat) (h : i < l.length) : catW (l.take (i + 1)) = catW (l.take i) ++ ((l.getD i tWrd.z).text ++ (l.getD i tWrd.z).tail) := by
  rw [List.take_succ_eq_append_getElem h, catW_app, List.getD, List.getElem?_eq_getElem h]
  simp [catW]
theorem catW_takeLe (l : List Wrd) (i : Nat) : (catW (l.take i)).size ≤ (catW l).size := by
  conv => rhs; rw [← List.take_append_drop i l, catW_app, ByteArray.size_append]
  omega
theorem join18_fn (s : ByteArray) (l : List Wrd) (hl : l.length ≤ 1000000000) (hs : s.size + (catW l).size ≤ 1000000000000) : Fn Tryd.prog 56 [.str s, tWrd.L l] (.str (s ++ catW l)) := by
  refine Fn.of Tryd.f56 _ Tryd.func56 rfl (by decide) (by show 2 ≤ _; decide) tbOk 24 rfl fun S w0 gl => ?_
  refine Run.go ?_; (conv => whnf); repeat' (first | ((with_reducible refine Know.mk fun _ => ?_); conv => whnf) | ((with_reducible refine Need.mk ?_ ?_); exact nd; conv => whnf) | ((with_reducible first | refine Both.mk ?_ ?_ | refine Any.mk fun b hb => ?_ | refine AskB.dec (fun hb => ?_) (fun hb => ?_) | refine AskB.ndec (fun hb => ?_) (fun hb => ?_) | refine AskB.mk (fun hb => ?_) (fun hb => ?_)) <;> conv => whnf) | ((with_reducible first | refine Run.drawX rfl (by decide +kernel) ?_ | refine Run.drawT rfl (by decide +kernel) ?_ | refine Run.drawW rfl (by decide +kernel) ?_); conv => whnf))
  refine Run.holdBoxNil 5 1 90 5 1 (bytesG .empty) rfl rfl rfl rfl ?_
  refine Run.bldr 95 5 5 90 .nilp .empty (MOle.refl _) (MOle.refl _) ?_
  refine ws5 .nilp .empty s rfl rfl rfl rfl rfl rfl (by simp; omega) (.inl rfl) ?_
  refine Run.go ?_; (conv => whnf); repeat' (first | ((with_reducible refine Know.mk fun _ => ?_); conv => whnf) | ((with_reducible refine Need.mk ?_ ?_); exact nd; conv => whnf) | ((with_reducible first | refine Both.mk ?_ ?_ | refine Any.mk fun b hb => ?_ | refine AskB.dec (fun hb => ?_) (fun hb => ?_) | refine AskB.ndec (fun hb => ?_) (fun hb => ?_) | refine AskB.mk (fun hb => ?_) (fun hb => ?_)) <;> conv => whnf) | ((with_reducible first | refine Run.drawX rfl (by decide +kernel) ?_ | refine Run.drawT rfl (by decide +kernel) ?_ | refine Run.drawW rfl (by decide +kernel) ?_); conv => whnf))
  have hT : ∀ i, (s ++ catW (l.take i)).size ≤ 1000000000000 := fun i => by
    have h1 := catW_takeLe l i
    rw [ByteArray.size_append]; omega
  refine Run.loop [5, 10, 11] (fun (i : Nat) => [(12, .int .i64 (i : Int))]) (fun i => [(5, .box 95 [.box 5 0, .row 90]), (90, .row 5 1 (s ++ catW (l.take i)).size (bytesG (s ++ catW (l.take i))))]) (fun i => i ≤ l.length) (fun i => l.length - i) 0 (Nat.zero_le _) ⟨Le.refl _, trivial⟩ ⟨MOle.refl _, ?_, trivial⟩ ?_
  · have : ByteArray.empty ++ s = s ++ catW (l.take 0) := by simp [catW]
    rw [← this]; exact MOle.refl _
  intro i hi IH
  have hw1 : IntKind.i64.wrap ((i : Int) + 1) = ((i + 1 : Nat) : Int) := wrap64 (by omega) (by omega)
  have hTi := hT i
  refine Run.go ?_; (conv => whnf); repeat' (first | ((with_reducible refine Know.mk fun _ => ?_); conv => whnf) | ((with_reducible refine Need.mk ?_ ?_); exact nd; conv => whnf) | ((with_reducible first | refine Both.mk ?_ ?_ | refine Any.mk fun b hb => ?_ | refine AskB.dec (fun hb => ?_) (fun hb => ?_) | refine AskB.ndec (fun hb => ?_) (fun hb => ?_) | refine AskB.mk (fun hb => ?_) (fun hb => ?_)) <;> conv => whnf) | ((with_reducible first | refine Run.drawX rfl (by decide +kernel) ?_ | refine Run.drawT rfl (by decide +kernel) ?_ | refine Run.drawW rfl (by decide +kernel) ?_); conv => whnf))
  · have hil : i < l.length := by omega
    have hwi : (l.getD i tWrd.z).text.size + (l.getD i tWrd.z).tail.size ≤ 1000000000000 := by
      have h1 := catW_takeLe l (i + 1)
      rw [catW_take l i hil, ByteArray.size_append, ByteArray.size_append] at h1
      omega
    refine Run.bldr 95 5 5 90 (.box 5 0) (s ++ catW (l.take i)) (MOle.refl _) (MOle.refl _) ?_
    refine ws5 (.box 5 0) _ (l.getD i tWrd.z).text rfl rfl rfl rfl rfl rfl (by omega) (.inr rfl) ?_
    refine Run.tidy [5, 7, 10, 11, 12] [5, 7, 90] ?_; (conv => whnf)
    refine Run.go ?_; (conv => whnf); repeat' (first | ((with_reducible refine Know.mk fun _ => ?_); conv => whnf) | ((with_reducible refine Need.mk ?_ ?_); exact nd; conv => whnf) | ((with_reducible first | refine Both.mk ?_ ?_ | refine Any.mk fun b hb => ?_ | refine AskB.dec (fun hb => ?_) (fun hb => ?_) | refine AskB.ndec (fun hb => ?_) (fun hb => ?_) | refine AskB.mk (fun hb => ?_) (fun hb => ?_)) <;> conv => whnf) | ((with_reducible first | refine Run.drawX rfl (by decide +kernel) ?_ | refine Run.drawT rfl (by decide +kernel) ?_ | refine Run.drawW rfl (by decide +kernel) ?_); conv => whnf))
    refine Run.bldr 95 5 5 90 (.box 5 0) (s ++ catW (l.take i) ++ (l.getD i tWrd.z).text) (MOle.refl _) (MOle.refl _) ?_
    refine ws5 (.box 5 0) _ (l.getD i tWrd.z).tail rfl rfl rfl rfl rfl rfl (by rw [ByteArray.size_append]; omega) (.inr rfl) ?_
    refine Run.tidy [5, 10, 11, 12] [5, 90] ?_; (conv => whnf)
    refine Run.go ?_; (conv => whnf); repeat' (first | ((with_reducible refine Know.mk fun _ => ?_); conv => whnf) | ((with_reducible refine Need.mk ?_ ?_); exact nd; conv => whnf) | ((with_reducible first | refine Both.mk ?_ ?_ | refine Any.mk fun b hb => ?_ | refine AskB.dec (fun hb => ?_) (fun hb => ?_) | refine AskB.ndec (fun hb => ?_) (fun hb => ?_) | refine AskB.mk (fun hb => ?_) (fun hb => ?_)) <;> conv => whnf) | ((with_reducible first | refine Run.drawX rfl (by decide +kernel) ?_ | refine Run.drawT rfl (by decide +kernel) ?_ | refine Run.drawW rfl (by decide +kernel) ?_); conv => whnf))
    refine Run.to _ _ ?_ ?_ (IH (i + 1) (by omega) (by omega))
    · exact ⟨Le.refl _, Le.refl _, Le.refl _, Le.int hw1, trivial⟩
    · refine ⟨MOle.refl _, ?_, trivial⟩
      rw [catW_take l i hil]
      simp only [← ByteArray.append_assoc]
      exact MOle.refl _
  · have hie : i = l.length := by omega
    subst hie
    refine Run.bldr 95 5 5 90 (.box 5 0) (s ++ catW (l.take l.length)) (MOle.refl _) (MOle.refl _) ?_
    refine bs5 (.box 5 0) _ rfl rfl rfl rfl rfl ?_
    refine Run.go ?_; (conv => whnf); repeat' (first | ((with_reducible refine Know.mk fun _ => ?_); conv => whnf) | ((with_reducible refine Need.mk ?_ ?_); exact nd; conv => whnf) | ((with_reducible first | refine Both.mk ?_ ?_ | refine Any.mk fun b hb => ?_ | refine AskB.dec (fun hb => ?_) (fun hb => ?_) | refine AskB.ndec (fun hb => ?_) (fun hb => ?_) | refine AskB.mk (fun hb => ?_) (fun hb => ?_)) <;> conv => whnf) | ((with_reducible first | refine Run.drawX rfl (by decide +kernel) ?_ | refine Run.drawT rfl (by decide +kernel) ?_ | refine Run.drawW rfl (by decide +kernel) ?_); conv => whnf))
    refine Run.leave (ts := [4]) (.inr ⟨_, rfl⟩) rfl Tryd.func56 rfl (Le.str ?_)
    rw [List.take_length]
end Go.Proofs.YtnadacaoehpdnaaDoor.V

namespace Go.Proofs.YtnadacaoehpdnaaDoor.V
set_option linter.unusedVariables false
set_option linter.unusedSimpArgs false
open Go Go.Proofs Go.RowKit
set_option maxRecDepth 100000
set_option maxHeartbeats 2000000
open Go Go.Proofs Go.Proofs.YtnadacaoehpdnaaDoor.V
theorem equal35_fn (a b : List Wrd) (ha : a.length ≤ 100000) : Fn Tryd.prog 57 [tWrd.L a, tWrd.L b] (.bool (decide (a = b))) := by
  refine Fn.of Tryd.f57 _ Tryd.func57 rfl (by decide) (by show 2 ≤ _; decide) tbOk 26 rfl fun S w0 gl => ?_
  refine Run.go ?_; (conv => whnf); repeat' (first | ((with_reducible refine Know.mk fun _ => ?_); conv => whnf) | ((with_reducible refine Need.mk ?_ ?_); exact nd; conv => whnf) | ((with_reducible first | refine Both.mk ?_ ?_ | refine Any.mk fun b hb => ?_ | refine AskB.dec (fun hb => ?_) (fun hb => ?_) | refine AskB.ndec (fun hb => ?_) (fun hb => ?_) | refine AskB.mk (fun hb => ?_) (fun hb => ?_)) <;> conv => whnf) | ((with_reducible first | refine Run.drawX rfl (by decide +kernel) ?_ | refine Run.drawT rfl (by decide +kernel) ?_ | refine Run.drawW rfl (by decide +kernel) ?_); conv => whnf))
  · have hab : a.length = b.length := by omega
    refine Run.loop [0, 1, 12] (fun (i : Nat) => [(13, .int .i64 (i : Int))]) (fun i => []) (fun i => i ≤ a.length ∧ a.take i = b.take i) (fun i => a.length - i) 0 ⟨Nat.zero_le _, rfl⟩ ⟨Le.refl _, trivial⟩ trivial ?_
    intro i ⟨hi, hc⟩ IH
    have hw : IntKind.i64.wrap ((i : Int) + 1) = ((i + 1 : Nat) : Int) := wrap64 (by omega) (by omega)
    have hat : i < a.length → a.take (i + 1) = a.take i ++ [a.getD i tWrd.z] ∧ b.take (i + 1) = b.take i ++ [b.getD i tWrd.z] := fun h => by
      rw [List.take_succ_eq_append_getElem h, List.take_succ_eq_append_getElem (hab ▸ h), List.getD, List.getD, List.getElem?_eq_getElem h, List.getElem?_eq_getElem (hab ▸ h)]
      exact ⟨rfl, rfl⟩
    refine Run.go ?_; (conv => whnf); repeat' (first | ((with_reducible refine Know.mk fun _ => ?_); conv => whnf) | ((with_reducible refine Need.mk ?_ ?_); exact nd; conv => whnf) | ((with_reducible first | refine Both.mk ?_ ?_ | refine Any.mk fun b hb => ?_ | refine AskB.dec (fun hb => ?_) (fun hb => ?_) | refine AskB.ndec (fun hb => ?_) (fun hb => ?_) | refine AskB.mk (fun hb => ?_) (fun hb => ?_)) <;> conv => whnf) | ((with_reducible first | refine Run.drawX rfl (by decide +kernel) ?_ | refine Run.drawT rfl (by decide +kernel) ?_ | refine Run.drawW rfl (by decide +kernel) ?_); conv => whnf))
    · refine Run.leave (ts := [4]) (.inr ⟨_, rfl⟩) rfl Tryd.func57 rfl (Le.ff.trans (Le.bool (decide_eq_false (fun h => ?_)).symm))
      subst h
      simp at hb
    · have hil : i < a.length := by omega
      obtain ⟨t1, t2⟩ := hat hil
      have he : a.getD i tWrd.z = b.getD i tWrd.z := by
        have hb2 : (decide ((a.getD i tWrd.z).text = (b.getD i tWrd.z).text) && (decide ((a.getD i tWrd.z).tail = (b.getD i tWrd.z).tail) && true)) = true := by simpa using hb
        simp only [Bool.and_eq_true, decide_eq_true_eq] at hb2
        generalize a.getD i tWrd.z = x at *
        generalize b.getD i tWrd.z = y at *
        obtain ⟨x1, x2⟩ := x
        obtain ⟨y1, y2⟩ := y
        simp only at hb2
        rw [hb2.1, hb2.2.1]
      refine Run.to _ _ ?_ ?_ (IH (i + 1) (by omega) ⟨by omega, ?_⟩)
      · exact ⟨Le.refl _, Le.refl _, Le.refl _, Le.int hw, trivial⟩
      · exact trivial
      · rw [t1, t2, hc, he]
    · have hie : i = a.length := by omega
      refine Run.leave (ts := [4]) (.inr ⟨_, rfl⟩) rfl Tryd.func57 rfl (Le.tt.trans (Le.bool (decide_eq_true ?_).symm))
      rw [hie, List.take_length, hab, List.take_length] at hc
      exact hc
  · refine Run.leave (ts := [4]) (.inr ⟨_, rfl⟩) rfl Tryd.func57 rfl (Le.ff.trans (Le.bool (decide_eq_false (fun h => ?_)).symm))
    rw [h] at hb; exact hb rfl

/-- What Right answers. -/
noncomputable def rightB (hd : ByteArray) (l : List Wrd) : Bool := decide (wordsOf (hd ++ catW l) = ((hd, l), 0))
def FitW (hd : ByteArray) (l : List Wrd) : Prop := l.length ≤ 1000000000 ∧ hd.size + (catW l).size ≤ 1000000000000
theorem right19_fn (hd : ByteArray) (l : List Wrd) (hf : FitW hd l) : Fn Tryd.prog 43 [.str hd, tWrd.L l] (.bool (rightB hd l)) := by
  refine Fn.of Tryd.f43 _ Tryd.func43 rfl (by decide) (by show 2 ≤ _; decide) tbOk 28 rfl fun S w0 gl => ?_
  refine Run.go ?_; (conv => whnf); repeat' (first | ((with_reducible refine Know.mk fun _ => ?_); conv => whnf) | ((with_reducible refine Need.mk ?_ ?_); exact nd; conv => whnf) | ((with_reducible first | refine Both.mk ?_ ?_ | refine Any.mk fun b hb => ?_ | refine AskB.dec (fun hb => ?_) (fun hb => ?_) | refine AskB.ndec (fun hb => ?_) (fun hb => ?_) | refine AskB.mk (fun hb => ?_) (fun hb => ?_)) <;> conv => whnf) | ((with_reducible first | refine Run.drawX rfl (by decide +kernel) ?_ | refine Run.drawT rfl (by decide +kernel) ?_ | refine Run.drawW rfl (by decide +kernel) ?_); conv => whnf))
  refine Run.callBX (join18_fn hd l hf.1 hf.2) rfl rfl ⟨Le.refl _, Le.refl _, trivial⟩ rfl rfl rfl ?_
  (conv => whnf); repeat' (first | ((with_reducible refine Know.mk fun _ => ?_); conv => whnf) | ((with_reducible refine Need.mk ?_ ?_); exact nd; conv => whnf) | ((with_reducible first | refine Both.mk ?_ ?_ | refine Any.mk fun b hb => ?_ | refine AskB.dec (fun hb => ?_) (fun hb => ?_) | refine AskB.ndec (fun hb => ?_) (fun hb => ?_) | refine AskB.mk (fun hb => ?_) (fun hb => ?_)) <;> conv => whnf) | ((with_reducible first | refine Run.drawX rfl (by decide +kernel) ?_ | refine Run.drawT rfl (by decide +kernel) ?_ | refine Run.drawW rfl (by decide +kernel) ?_); conv => whnf))
  refine Run.callBX (words15_fn (hd ++ catW l)) rfl rfl ⟨Le.refl _, trivial⟩ rfl rfl rfl ?_
  have hfew := wordsOf_few (hd ++ catW l)
  unfold rightB
  unfold wordsL
  generalize wordsOf (hd ++ catW l) = W at *
  (conv => whnf); repeat' (first | ((with_reducible refine Know.mk fun _ => ?_); conv => whnf) | ((with_reducible refine Need.mk ?_ ?_); exact nd; conv => whnf) | ((with_reducible first | refine Both.mk ?_ ?_ | refine Any.mk fun b hb => ?_ | refine AskB.dec (fun hb => ?_) (fun hb => ?_) | refine AskB.ndec (fun hb => ?_) (fun hb => ?_) | refine AskB.mk (fun hb => ?_) (fun hb => ?_)) <;> conv => whnf) | ((with_reducible first | refine Run.drawX rfl (by decide +kernel) ?_ | refine Run.drawT rfl (by decide +kernel) ?_ | refine Run.drawW rfl (by decide +kernel) ?_); conv => whnf))
  · refine Run.callBX (equal35_fn W.1.2 l (by omega)) rfl rfl ⟨Le.refl _, Le.refl _, trivial⟩ rfl rfl rfl ?_
    (conv => whnf); repeat' (first | ((with_reducible refine Know.mk fun _ => ?_); conv => whnf) | ((with_reducible refine Need.mk ?_ ?_); exact nd; conv => whnf) | ((with_reducible first | refine Both.mk ?_ ?_ | refine Any.mk fun b hb => ?_ | refine AskB.dec (fun hb => ?_) (fun hb => ?_) | refine AskB.ndec (fun hb => ?_) (fun hb => ?_) | refine AskB.mk (fun hb => ?_) (fun hb => ?_)) <;> conv => whnf) | ((with_reducible first | refine Run.drawX rfl (by decide +kernel) ?_ | refine Run.drawT rfl (by decide +kernel) ?_ | refine Run.drawW rfl (by decide +kernel) ?_); conv => whnf))
    refine Run.leave (ts := [4]) (.inr ⟨_, rfl⟩) rfl Tryd.func43 rfl (Le.bool ?_)
    obtain ⟨⟨w1, w2⟩, w3⟩ := W
    simp only at hb
    have h3 : w3 = 0 := by assumption
    have h1 : w1 = hd := by assumption
    subst h3; subst h1; simp
  all_goals
    refine Run.leave (ts := [4]) (.inr ⟨_, rfl⟩) rfl Tryd.func43 rfl (Le.ff.trans (Le.bool ?_))
    symm
    refine decide_eq_false (fun e => ?_)
    subst e
    first | exact absurd rfl hb | exact absurd rfl ‹_›
end Go.Proofs.YtnadacaoehpdnaaDoor.V

namespace Go.Proofs.YtnadacaoehpdnaaDoor.V
set_option linter.unusedVariables false
set_option linter.unusedSimpArgs false
open Go Go.Proofs Go.RowKit
set_option maxRecDepth 100000
def bkW (w : Wrd) : Nat := w.text.size + w.tail.size + 3
theorem dWord : Dec Tryd.prog 40 tWrd bkW :=
  Dec.map (fun x : ByteArray × ByteArray × Unit => ⟨x.1, x.2.1⟩) rfl (fun x j hj => match j, hj with | 0, _ => Le.refl _ | 1, _ => Le.refl _) (fun x => by simp only [bkW]; omega)
    (Dec.struct (t := 40) (fs := #[⟨"Text", 9, 0, false, "", "", 0⟩, ⟨"Tail", 9, 1, false, "", "", 16⟩]) (by kernel_rfl) (by kernel_rfl) (DecF.cons rfl (Dec.str (by kernel_rfl) (by kernel_rfl)) (DecF.cons rfl (Dec.str (by kernel_rfl) (by kernel_rfl)) DecF.nil)))
end Go.Proofs.YtnadacaoehpdnaaDoor.V

namespace Go.Proofs.YtnadacaoehpdnaaDoor.V
set_option linter.unusedVariables false
set_option linter.unusedSimpArgs false
open Go Go.Proofs Go.RowKit
theorem bkW_sum : ∀ l : List Wrd, sumL bkW l = 3 * l.length + (catW l).size
  | [] => by simp [sumL, catW]
  | w :: l => by
    simp only [sumL, bkW_sum l, bkW, catW, ByteArray.size_append, List.length_cons]; omega
theorem fitW_of {s : ByteArray} {l : List Wrd} {n : Nat} (h : s.size + sumL bkW l ≤ n) (hn : n ≤ 100000000) : FitW s l ∧ l.length ≤ 100000000 ∧ ∀ w ∈ l, w.text.size ≤ 134217728 := by
  rw [bkW_sum] at h
  refine ⟨⟨by omega, by omega⟩, by omega, fun w hw => ?_⟩
  have := catW_mem hw
  omega
end Go.Proofs.YtnadacaoehpdnaaDoor.V

namespace Go.Proofs.YtnadacaoehpdnaaDoor.V
set_option linter.unusedVariables false
set_option linter.unusedSimpArgs false
open Go Go.Proofs Go.RowKit
structure Wit where
  name : ByteArray
  head : ByteArray
  words : List Wrd
def wit0 : Wit := ⟨.empty, .empty, []⟩
def tWit : Ty Wit := ⟨3, fun w j => match j with | 0 => .str w.name | 1 => .str w.head | _ => tWrd.L w.words, wit0⟩
structure Tab where
  wits : List Wit
  cols : List (List Int)
def tIL : Ty (List Int) := tL tI
def tabG (t : Tab) : Nat → AV := fun j => match j with | 0 => tWit.L t.wits | _ => tIL.L t.cols
def tbA (t : Tab) : AV := .agg 2 (tabG t)
def alnum (b : Int) : Prop := (65 ≤ b ∧ b ≤ 90) ∨ (97 ≤ b ∧ b ≤ 122) ∨ (48 ≤ b ∧ b ≤ 57)
def NameOk (s : ByteArray) : Prop := 1 ≤ s.size ∧ s.size ≤ 8 ∧ ∀ i, i < s.size → alnum (bt s i)
instance (b : Int) : Decidable (alnum b) := by unfold alnum; infer_instance
instance (s : ByteArray) : Decidable (NameOk s) := by unfold NameOk; infer_instance
def atC (t : Tab) (c i : Nat) : Int := (t.cols.getD c []).getD i 0
def witAt (t : Tab) (i : Nat) : Wit := t.wits.getD i wit0
/-- In how many columns a witness has a word. -/
def cnt (cols : List (List Int)) (i : Nat) : Nat := (cols.filter fun l => !decide (l.getD i 0 = -1)).length
def WitOk (t : Tab) (i : Nat) : Prop := NameOk (witAt t i).name ∧ rightB (witAt t i).head (witAt t i).words = true ∧ ∀ k, k < i → (witAt t k).name ≠ (witAt t i).name
def ColOk (t : Tab) (c : Nat) : Prop := (t.cols.getD c []).length = t.wits.length ∧
  (∀ i, i < t.wits.length → atC t c i = -1 ∨ (atC t c i = (cnt (t.cols.take c) i : Nat) ∧ cnt (t.cols.take c) i < (witAt t i).words.length)) ∧ ∃ i, i < t.wits.length ∧ atC t c i ≠ -1
/-- A table. -/
structure OkT (t : Tab) : Prop where
  n1 : 1 ≤ t.wits.length
  n12 : t.wits.length ≤ 12
  nc : t.cols.length ≤ 4096
  wit : ∀ i, i < t.wits.length → WitOk t i
  col : ∀ c, c < t.cols.length → ColOk t c
  all : ∀ i, i < t.wits.length → cnt t.cols i = (witAt t i).words.length
open Classical in
noncomputable def chkT (t : Tab) : Int := if OkT t then 0 else 121
theorem chk_ok {t : Tab} (h : OkT t) : chkT t = 0 := if_pos h
theorem chk_no {t : Tab} (h : ¬ OkT t) : chkT t = 121 := if_neg h
theorem chk_01 (t : Tab) : (OkT t ∧ chkT t = 0) ∨ (¬ OkT t ∧ chkT t = 121) := by
  by_cases h : OkT t
  · exact .inl ⟨h, chk_ok h⟩
  · exact .inr ⟨h, chk_no h⟩
/-- What the walks ask of a table's size. -/
structure FitT (t : Tab) : Prop where
  wits : t.wits.length ≤ 2000000
  cols : t.cols.length ≤ 2000000
  col : ∀ l ∈ t.cols, l.length ≤ 2000000
  name : ∀ w ∈ t.wits, w.name.size ≤ 2000000
  wit : ∀ w ∈ t.wits, FitW w.head w.words ∧ w.words.length ≤ 2000000 ∧ ∀ v ∈ w.words, v.text.size ≤ 134217728
/-! ### sums -/
def sumR (f : Nat → Nat) : Nat → Nat
  | 0 => 0
  | n + 1 => sumR f n + f n
theorem sumR_congr {f g : Nat → Nat} : ∀ n, (∀ i, i < n → f i = g i) → sumR f n = sumR g n
  | 0, _ => rfl
  | n + 1, h => by simp only [sumR]; rw [sumR_congr n (fun i hi => h i (by omega)), h n (by omega)]
theorem sumR_upd {f g : Nat → Nat} {i d : Nat} : ∀ n, i < n → g i = f i + d → (∀ j, j ≠ i → g j = f j) → sumR g n = sumR f n + d
  | 0, h, _, _ => absurd h (Nat.not_lt_zero _)
  | n + 1, h, h1, h2 => by
    simp only [sumR]
    by_cases e : i = n
    · subst e
      rw [h1, sumR_congr i (fun j hj => h2 j (by omega))]; omega
    · rw [sumR_upd n (by omega) h1 h2, h2 n (by omega)]; omega
theorem sumR_le {f g : Nat → Nat} : ∀ n, (∀ i, i < n → f i ≤ g i) → sumR f n ≤ sumR g n
  | 0, _ => Nat.le_refl _
  | n + 1, h => Nat.add_le_add (sumR_le n (fun i hi => h i (by omega))) (h n (by omega))
theorem sumR_eq {f g : Nat → Nat} : ∀ n, (∀ i, i < n → f i ≤ g i) → sumR g n ≤ sumR f n → ∀ i, i < n → f i = g i
  | 0, _, _, i, hi => absurd hi (Nat.not_lt_zero _)
  | n + 1, h, he, i, hi => by
    have h1 := sumR_le n (fun i hi => h i (by omega))
    have h2 := h n (by omega)
    simp only [sumR] at he
    by_cases e : i = n
    · subst e; omega
    · exact sumR_eq n (fun i hi => h i (by omega)) (by omega) i (by omega)
/-! ### the count of a witness's words, column by column -/
theorem cnt_take (cols : List (List Int)) (c i : Nat) (h : c < cols.length) : cnt (cols.take (c + 1)) i = cnt (cols.take c) i + if (cols.getD c []).getD i 0 = -1 then 0 else 1 := by
  unfold cnt
  rw [take_at cols c [] h, List.filter_append, List.length_append]
  congr 1
  by_cases e : (cols.getD c []).getD i 0 = -1
  · rw [if_pos e, List.filter_cons_of_neg (by rw [decide_eq_true e]; decide)]; rfl
  · rw [if_neg e, List.filter_cons_of_pos (by rw [decide_eq_false e]; rfl)]; rfl
/-- Where the walk through the columns stands: all ahead of c, and of c the cells ahead of i. -/
def nx (t : Tab) (c i j : Nat) : Nat := cnt (t.cols.take (if j < i then c + 1 else c)) j
def nextL (t : Tab) (c i : Nat) : List Int := (List.range t.wits.length).map fun j => ((nx t c i j : Nat) : Int)
theorem nextL_len (t : Tab) (c i : Nat) : (nextL t c i).length = t.wits.length := by simp [nextL]
theorem nextL_at (t : Tab) (c i j : Nat) (h : j < t.wits.length) : (nextL t c i).getD j 0 = (nx t c i j : Nat) := by
  unfold nextL
  rw [List.getD, List.getElem?_map, List.getElem?_range h]; rfl
theorem nx_same (t : Tab) (c i : Nat) : nx t c i i = cnt (t.cols.take c) i := by unfold nx; rw [if_neg (Nat.lt_irrefl _)]
theorem nx_none {t : Tab} {c i : Nat} (hc : c < t.cols.length) (h : atC t c i = -1) (j : Nat) : nx t c (i + 1) j = nx t c i j := by
  unfold nx
  by_cases e : j = i
  · subst e
    rw [if_pos (by omega), if_neg (by omega), cnt_take _ _ _ hc, if_pos (show (t.cols.getD c []).getD j 0 = -1 from h)]; omega
  · by_cases e2 : j < i
    · rw [if_pos (by omega), if_pos e2]
    · rw [if_neg (by omega), if_neg e2]
theorem nx_some {t : Tab} {c i : Nat} (hc : c < t.cols.length) (h : atC t c i ≠ -1) : nx t c (i + 1) i = nx t c i i + 1 ∧ ∀ j, j ≠ i → nx t c (i + 1) j = nx t c i j := by
  unfold nx
  refine ⟨?_, fun j e => ?_⟩
  · rw [if_pos (by omega), if_neg (by omega), cnt_take _ _ _ hc, if_neg (show ¬ (t.cols.getD c []).getD i 0 = -1 from h)]
  · by_cases e2 : j < i
    · rw [if_pos (by omega), if_pos e2]
    · rw [if_neg (by omega), if_neg e2]
theorem nx_end (t : Tab) (c j : Nat) (h : j < t.wits.length) : nx t c t.wits.length j = nx t (c + 1) 0 j := by
  unfold nx
  rw [if_pos h, if_neg (by omega)]
theorem nextL_none {t : Tab} {c i : Nat} (hc : c < t.cols.length) (h : atC t c i = -1) : nextL t c (i + 1) = nextL t c i := by
  unfold nextL
  exact List.map_congr_left (fun j _ => by rw [nx_none hc h])
theorem nextL_some {t : Tab} {c i : Nat} (hc : c < t.cols.length) (hi : i < t.wits.length) (h : atC t c i ≠ -1) : nextL t c (i + 1) = (nextL t c i).set i (((nx t c i i : Nat) : Int) + 1) := by
  obtain ⟨h1, h2⟩ := nx_some hc h
  refine List.ext_getElem? fun j => ?_
  rw [List.getElem?_set]
  unfold nextL
  simp only [List.getElem?_map, List.length_map, List.length_range]
  by_cases e : i = j
  · subst e
    rw [if_pos rfl, if_pos hi, List.getElem?_range hi, Option.map_some, h1]; rfl
  · rw [if_neg e]
    by_cases hj : j < t.wits.length
    · rw [List.getElem?_range hj, Option.map_some, Option.map_some, h2 j (fun e' => e e'.symm)]
    · rw [List.getElem?_eq_none (by simpa using hj)]; rfl
theorem nextL_end (t : Tab) (c : Nat) : nextL t c t.wits.length = nextL t (c + 1) 0 := by
  unfold nextL
  exact List.map_congr_left (fun j hj => by rw [nx_end t c j (by simpa using hj)])
theorem nextL_zero (t : Tab) : nextL t 0 0 = List.replicate t.wits.length 0 := by
  refine List.ext_getElem (by simp [nextL]) fun j k1 k2 => ?_
  simp [nextL, nx, cnt]
def lens (t : Tab) (i : Nat) : Nat := (witAt t i).words.length
def tot (t : Tab) : Nat := sumR (lens t) t.wits.length
def sumN (t : Tab) (c i : Nat) : Nat := sumR (nx t c i) t.wits.length
theorem sumN_none {t : Tab} {c i : Nat} (hc : c < t.cols.length) (h : atC t c i = -1) : sumN t c (i + 1) = sumN t c i := sumR_congr _ (fun j _ => nx_none hc h j)
theorem sumN_some {t : Tab} {c i : Nat} (hc : c < t.cols.length) (hi : i < t.wits.length) (h : atC t c i ≠ -1) : sumN t c (i + 1) = sumN t c i + 1 := sumR_upd _ hi (nx_some hc h).1 (nx_some hc h).2
theorem sumN_end (t : Tab) (c : Nat) : sumN t c t.wits.length = sumN t (c + 1) 0 := sumR_congr _ (fun j hj => nx_end t c j hj)
/-- No more words than there are. -/
def LeT (t : Tab) (c i : Nat) : Prop := ∀ j, j < t.wits.length → nx t c i j ≤ lens t j
theorem le_some {t : Tab} {c i : Nat} (hc : c < t.cols.length) (hl : LeT t c i) (h : atC t c i ≠ -1) (hlt : nx t c i i < lens t i) : LeT t c (i + 1) := fun j hj => by
  by_cases e : j = i
  · subst e; rw [(nx_some hc h).1]; exact hlt
  · rw [(nx_some hc h).2 j e]; exact hl j hj
theorem le_none {t : Tab} {c i : Nat} (hc : c < t.cols.length) (hl : LeT t c i) (h : atC t c i = -1) : LeT t c (i + 1) := fun j hj => by rw [nx_none hc h]; exact hl j hj
theorem le_end {t : Tab} {c : Nat} (hl : LeT t c t.wits.length) : LeT t (c + 1) 0 := fun j hj => by rw [← nx_end t c j hj]; exact hl j hj
theorem le_sum {t : Tab} {c i : Nat} (hl : LeT t c i) : sumN t c i ≤ tot t := sumR_le _ hl
theorem nx_last (t : Tab) (j : Nat) : nx t t.cols.length 0 j = cnt t.cols j := by unfold nx; rw [if_neg (by omega), List.take_length]
theorem all_of {t : Tab} (hl : LeT t t.cols.length 0) (h : tot t ≤ sumN t t.cols.length 0) : ∀ i, i < t.wits.length → cnt t.cols i = (witAt t i).words.length := fun i hi => by
  have := sumR_eq _ hl h i hi
  rw [nx_last] at this; exact this
theorem sum_of {t : Tab} (h : ∀ i, i < t.wits.length → cnt t.cols i = (witAt t i).words.length) : sumN t t.cols.length 0 = tot t := sumR_congr _ (fun j hj => by rw [nx_last]; exact h j hj)
end Go.Proofs.YtnadacaoehpdnaaDoor.V

namespace Go.Proofs.YtnadacaoehpdnaaDoor.V
set_option linter.unusedVariables false
set_option linter.unusedSimpArgs false
open Go Go.Proofs Go.RowKit
set_option maxRecDepth 100000
set_option maxHeartbeats 2000000
open Go Go.Proofs Go.Proofs.YtnadacaoehpdnaaDoor.V
theorem wrong37_fn (o : Int) : Fn Tryd.prog 63 [.int .i64 o] (.bool (decide (o < 0 ∨ 31 < o))) := by
  refine Fn.of Tryd.f63 _ Tryd.func63 rfl (by decide) (by show 1 ≤ _; decide) tbOk 9 rfl fun S w0 gl => ?_
  refine Run.go ?_; (conv => whnf); repeat' (first | ((with_reducible refine Know.mk fun _ => ?_); conv => whnf) | ((with_reducible refine Need.mk ?_ ?_); exact nd; conv => whnf) | ((with_reducible first | refine Both.mk ?_ ?_ | refine Any.mk fun b hb => ?_ | refine AskB.dec (fun hb => ?_) (fun hb => ?_) | refine AskB.ndec (fun hb => ?_) (fun hb => ?_) | refine AskB.mk (fun hb => ?_) (fun hb => ?_)) <;> conv => whnf) | ((with_reducible first | refine Run.drawX rfl (by decide +kernel) ?_ | refine Run.drawT rfl (by decide +kernel) ?_ | refine Run.drawW rfl (by decide +kernel) ?_); conv => whnf))
  · exact Run.leave (ts := [2]) (.inr ⟨_, rfl⟩) rfl Tryd.func63 rfl (Le.tt.trans (Le.bool (decide_eq_true (.inl hb)).symm))
  · refine Run.leave (ts := [2]) (.inr ⟨_, rfl⟩) rfl Tryd.func63 rfl (Le.bool ?_)
    by_cases h : 31 < o
    · rw [decide_eq_true h, decide_eq_true (.inr h)]
    · rw [decide_eq_false h, decide_eq_false (fun h2 => h2.elim hb h)]
def letterV (r : Int) : Int := if r = 118 ∨ r = 86 ∨ r = 106 ∨ r = 74 then r - 1 else r
theorem letter55_fn (r : Int) : Fn Tryd.prog 83 [.int .i32 r] (.int .i32 (letterV r)) := by
  refine Fn.of Tryd.f83 _ Tryd.func83 rfl (by decide) (by show 1 ≤ _; decide) tbOk 12 rfl fun S w0 gl => ?_
  have hw : r = 118 ∨ r = 86 ∨ r = 106 ∨ r = 74 → IntKind.i32.wrap (r - 1) = letterV r := fun h => by
    unfold letterV
    rw [if_pos h]
    exact wrap32 (by omega) (by omega)
  refine Run.go ?_; (conv => whnf); repeat' (first | ((with_reducible refine Know.mk fun _ => ?_); conv => whnf) | ((with_reducible refine Need.mk ?_ ?_); exact nd; conv => whnf) | ((with_reducible first | refine Both.mk ?_ ?_ | refine Any.mk fun b hb => ?_ | refine AskB.dec (fun hb => ?_) (fun hb => ?_) | refine AskB.ndec (fun hb => ?_) (fun hb => ?_) | refine AskB.mk (fun hb => ?_) (fun hb => ?_)) <;> conv => whnf) | ((with_reducible first | refine Run.drawX rfl (by decide +kernel) ?_ | refine Run.drawT rfl (by decide +kernel) ?_ | refine Run.drawW rfl (by decide +kernel) ?_); conv => whnf))
  iterate 4 (· exact Run.leave (ts := [2]) (.inr ⟨_, rfl⟩) rfl Tryd.func83 rfl (Le.int (hw (by omega))))
  · refine Run.leave (ts := [2]) (.inr ⟨_, rfl⟩) rfl Tryd.func83 rfl (Le.int ?_)
    unfold letterV
    rw [if_neg (by omega)]
theorem ofInt_nat (n : Nat) (h : n < 4294967296) : (BitVec.ofInt IntKind.i32.bits (n : Int)).toNat = n := by
  show (BitVec.ofInt 32 (n : Int)).toNat = n
  rw [BitVec.toNat_ofInt]
  omega
theorem and1_i32 (r : Int) (h1 : 0 ≤ r) (h2 : r < 2147483648) : IntKind.i32.wrap ↑(BitVec.ofInt IntKind.i32.bits r &&& BitVec.ofInt IntKind.i32.bits 1).toNat = r % 2 := by
  obtain ⟨n, rfl⟩ : ∃ n : Nat, r = (n : Int) := ⟨r.toNat, by omega⟩
  have e : (BitVec.ofInt IntKind.i32.bits (n : Int) &&& BitVec.ofInt IntKind.i32.bits 1).toNat = n % 2 := by
    rw [BitVec.toNat_and, ofInt_nat n (by omega), show (BitVec.ofInt IntKind.i32.bits 1).toNat = 1 from rfl, Nat.and_one_is_mod]
  rw [e]
  rw [wrap32 (by omega) (by omega)]; omega
theorem or1_i32 (r : Int) (h1 : 0 ≤ r) (h2 : r < 2147483647) : IntKind.i32.wrap ↑(BitVec.ofInt IntKind.i32.bits r ||| BitVec.ofInt IntKind.i32.bits 1).toNat = r + 1 - r % 2 := by
  obtain ⟨n, rfl⟩ : ∃ n : Nat, r = (n : Int) := ⟨r.toNat, by omega⟩
  have hor : ∀ m : Nat, m % 2 = 0 → m ||| 1 = m + 1 := fun m hm => by
    have := Nat.two_pow_add_eq_or_of_lt (i := 1) (b := 1) (by decide) (m / 2)
    have e1 : 2 ^ 1 * (m / 2) = m := by omega
    rw [e1] at this
    exact this.symm
  have e : (BitVec.ofInt IntKind.i32.bits (n : Int) ||| BitVec.ofInt IntKind.i32.bits 1).toNat = n + 1 - n % 2 := by
    rw [BitVec.toNat_or, ofInt_nat n (by omega), show (BitVec.ofInt IntKind.i32.bits 1).toNat = 1 from rfl]
    rcases Nat.mod_two_eq_zero_or_one n with h | h
    · rw [hor n h]; omega
    · have h3 := hor (n - 1) (by omega)
      have h4 : n - 1 + 1 = n := by omega
      rw [h4] at h3
      rw [← h3, Nat.or_assoc, Nat.or_self, h3]; omega
  rw [e]
  rw [wrap32 (by omega) (by omega)]; omega
/-- A rune's small form. -/
def lowV (r : Int) : Int :=
  if (65 ≤ r ∧ r ≤ 90) ∨ (192 ≤ r ∧ r ≤ 222 ∧ r ≠ 215) ∨ (913 ≤ r ∧ r ≤ 937 ∧ r ≠ 930) ∨ (1040 ≤ r ∧ r ≤ 1071) then r + 32
  else if 1024 ≤ r ∧ r < 1040 then r + 80
  else if r = 376 then 255 else if r = 962 then 963
  else if (313 ≤ r ∧ r ≤ 328) ∨ (377 ≤ r ∧ r ≤ 382) then r + r % 2
  else if (256 ≤ r ∧ r ≤ 311) ∨ (330 ≤ r ∧ r ≤ 375) ∨ (7680 ≤ r ∧ r ≤ 7829) then r + 1 - r % 2
  else r
theorem lower53_fn (r : Int) : Fn Tryd.prog 81 [.int .i32 r] (.int .i32 (lowV r)) := by
  have ha : 0 ≤ r → r < 7830 → IntKind.i32.wrap ↑(BitVec.ofInt IntKind.i32.bits r &&& BitVec.ofInt IntKind.i32.bits 1).toNat = r % 2 ∧ IntKind.i32.wrap ↑(BitVec.ofInt IntKind.i32.bits r ||| BitVec.ofInt IntKind.i32.bits 1).toNat = r + 1 - r % 2 := fun h1 h2 => ⟨and1_i32 r h1 (by omega), or1_i32 r h1 (by omega)⟩
  have h32 : ∀ x : Int, -1000000 ≤ x → x ≤ 1000000 → IntKind.i32.wrap x = x := fun x h1 h2 => wrap32 (by omega) (by omega)
  refine Fn.of Tryd.f81 _ Tryd.func81 rfl (by decide) (by show 1 ≤ _; decide) tbOk 92 rfl fun S w0 gl => ?_
  refine Run.go ?_; (conv => whnf); repeat' (first | ((with_reducible refine Know.mk fun _ => ?_); conv => whnf) | ((with_reducible refine Need.mk ?_ ?_); exact nd; conv => whnf) | ((with_reducible refine Both.mk ?_ ?_) <;> conv => whnf) | ((with_reducible refine Any.mk fun b hb => ?_); conv => whnf) | ((with_reducible first | refine AskB.dec (fun hb => ?_) (fun hb => ?_) | refine AskB.ndec (fun hb => ?_) (fun hb => ?_) | refine AskB.mk (fun hb => ?_) (fun hb => ?_)) <;> first | (exfalso; omega) | (conv => whnf)) | ((with_reducible first | refine Run.drawX rfl (by decide +kernel) ?_ | refine Run.drawT rfl (by decide +kernel) ?_ | refine Run.drawW rfl (by decide +kernel) ?_); conv => whnf))
  all_goals refine Run.leave (ts := [2]) (.inr ⟨_, rfl⟩) rfl Tryd.func81 rfl (Le.int ?_)
  all_goals unfold lowV
  all_goals first
    | (rw [if_pos (by omega)]; exact h32 _ (by omega) (by omega))
    | (rw [if_neg (by omega), if_pos (by omega)]; exact h32 _ (by omega) (by omega))
    | (rw [if_neg (by omega), if_neg (by omega), if_pos (by omega)])
    | (rw [if_neg (by omega), if_neg (by omega), if_neg (by omega), if_pos (by omega)])
    | (rw [if_neg (by omega), if_neg (by omega), if_neg (by omega), if_neg (by omega), if_pos (by omega), (ha (by omega) (by omega)).1]; exact h32 _ (by omega) (by omega))
    | (rw [if_neg (by omega), if_neg (by omega), if_neg (by omega), if_neg (by omega), if_neg (by omega), if_pos (by omega), (ha (by omega) (by omega)).2])
    | (rw [if_neg (by omega), if_neg (by omega), if_neg (by omega), if_neg (by omega), if_neg (by omega), if_neg (by omega)])
end Go.Proofs.YtnadacaoehpdnaaDoor.V

namespace Go.Proofs.YtnadacaoehpdnaaDoor.V
set_option linter.unusedVariables false
set_option linter.unusedSimpArgs false
open Go Go.Proofs Go.RowKit
set_option maxRecDepth 100000
set_option maxHeartbeats 2000000
open Go Go.Proofs Go.Proofs.YtnadacaoehpdnaaDoor.V
/-- What C0 to FF are without their marks: the program's text, where its runes stand, which they are. -/
def latB : ByteArray := ⟨#[65, 65, 65, 65, 65, 65, 195, 134, 67, 69, 69, 69, 69, 73, 73, 73, 73, 195, 144, 78, 79, 79, 79, 79, 79, 195, 151, 79, 85, 85, 85, 85, 89, 195, 158, 195, 159, 97, 97, 97, 97, 97, 97, 195, 166, 99, 101, 101, 101, 101, 105, 105, 105, 105, 195, 176, 110, 111, 111, 111, 111, 111, 195, 183, 111, 117, 117, 117, 117, 121, 195, 190, 121]⟩
def latP : List Nat := [0, 1, 2, 3, 4, 5, 6, 8, 9, 10, 11, 12, 13, 14, 15, 16, 17, 19, 20, 21, 22, 23, 24, 25, 27, 28, 29, 30, 31, 32, 33, 35, 37, 38, 39, 40, 41, 42, 43, 45, 46, 47, 48, 49, 50, 51, 52, 53, 54, 56, 57, 58, 59, 60, 61, 62, 64, 65, 66, 67, 68, 69, 70, 72, 73]
def latR : List Nat := [65, 65, 65, 65, 65, 65, 198, 67, 69, 69, 69, 69, 73, 73, 73, 73, 208, 78, 79, 79, 79, 79, 79, 215, 79, 85, 85, 85, 85, 89, 222, 223, 97, 97, 97, 97, 97, 97, 230, 99, 101, 101, 101, 101, 105, 105, 105, 105, 240, 110, 111, 111, 111, 111, 111, 247, 111, 117, 117, 117, 117, 121, 254, 121]
theorem lat_dec : ∀ k : Fin 64, Utf8.decode latB (latP.getD k.val 0) = (latR.getD k.val 0, latP.getD (k.val + 1) 0 - latP.getD k.val 0) ∧ latP.getD k.val 0 < latP.getD (k.val + 1) 0 ∧ latP.getD k.val 0 < 73 := by decide +kernel
/-- A rune without its mark. -/
def bareV (r : Int) : Int := if r < 192 ∨ 255 < r then r else latR.getD (r - 192).toNat 0
theorem unmarked54_fn (r : Int) : Fn Tryd.prog 82 [.int .i32 r] (.int .i32 (bareV r)) := by
  refine Fn.of Tryd.f82 _ Tryd.func82 rfl (by decide) (by show 1 ≤ _; decide) tbOk 24 rfl fun S w0 gl => ?_
  refine Run.go ?_; (conv => whnf); repeat' (first | ((with_reducible refine Know.mk fun _ => ?_); conv => whnf) | ((with_reducible refine Need.mk ?_ ?_); exact nd; conv => whnf) | ((with_reducible first | refine Both.mk ?_ ?_ | refine Any.mk fun b hb => ?_ | refine AskB.dec (fun hb => ?_) (fun hb => ?_) | refine AskB.ndec (fun hb => ?_) (fun hb => ?_) | refine AskB.mk (fun hb => ?_) (fun hb => ?_)) <;> conv => whnf) | ((with_reducible first | refine Run.drawX rfl (by decide +kernel) ?_ | refine Run.drawT rfl (by decide +kernel) ?_ | refine Run.drawW rfl (by decide +kernel) ?_); conv => whnf))
  · exact Run.leave (ts := [2]) (.inr ⟨_, rfl⟩) rfl Tryd.func82 rfl (Le.int (by unfold bareV; rw [if_pos (.inl hb)]))
  · exact Run.leave (ts := [2]) (.inr ⟨_, rfl⟩) rfl Tryd.func82 rfl (Le.int (by unfold bareV; rw [if_pos (.inr hb)]))
  rename_i hb1
  refine Run.loop [0, 13] (fun (k : Nat) => [(3, .int .i32 (192 + (k : Int)))]) (fun k => [(13, .iter latB (latP.getD k 0))]) (fun k => k ≤ 63 ∧ 192 + (k : Int) ≤ r) (fun k => 64 - k) 0 ⟨by omega, by omega⟩ ⟨Le.refl _, trivial⟩ ⟨MOle.refl _, trivial⟩ ?_
  intro k ⟨hk, hkr⟩ IH
  obtain ⟨hd, hlt, h73⟩ := lat_dec ⟨k, by omega⟩
  simp only at hd hlt h73
  show Run _ _ (lst (_ ++ [(3, .int .i32 (192 + (k : Int)))])) (lstH [(13, .iter latB (latP.getD k 0))])
  refine Run.go ?_; (conv => whnf); repeat' (first | ((with_reducible refine Know.mk fun _ => ?_); conv => whnf) | ((with_reducible refine Need.mk ?_ ?_); exact nd; conv => whnf) | ((with_reducible first | refine Both.mk ?_ ?_ | refine Any.mk fun b hb => ?_ | refine AskB.dec (fun hb => ?_) (fun hb => ?_) | refine AskB.ndec (fun hb => ?_) (fun hb => ?_) | refine AskB.mk (fun hb => ?_) (fun hb => ?_)) <;> conv => whnf) | ((with_reducible first | refine Run.drawX rfl (by decide +kernel) ?_ | refine Run.drawT rfl (by decide +kernel) ?_ | refine Run.drawW rfl (by decide +kernel) ?_); conv => whnf))
  · refine Run.leave (ts := [2]) (.inr ⟨_, rfl⟩) rfl Tryd.func82 rfl (Le.int ?_)
    unfold bareV
    rw [if_neg (by omega), hd, show (r - 192).toNat = k by omega]
  · refine Run.to _ _ ?_ ?_ (IH (k + 1) (by omega) ⟨by omega, by omega⟩)
    · exact ⟨Le.refl _, Le.refl _, Le.int (by rw [wrap32 (by omega) (by omega)]; omega), trivial⟩
    · refine ⟨?_, trivial⟩
      rw [hd, show latP.getD k 0 + (latP.getD (k + 1) 0 - latP.getD k 0) = latP.getD (k + 1) 0 by omega]
      exact MOle.refl _
  · exact absurd h73 hb
end Go.Proofs.YtnadacaoehpdnaaDoor.V

namespace Go.Proofs.YtnadacaoehpdnaaDoor.V
set_option linter.unusedVariables false
set_option linter.unusedSimpArgs false
open Go Go.Proofs Go.RowKit
set_option maxRecDepth 100000
set_option maxHeartbeats 4000000
open Go Go.Proofs Go.Proofs.YtnadacaoehpdnaaDoor.V
def ffB : ByteArray := ⟨#[102, 102, 32, 102, 105, 32, 102, 108, 32, 102, 102, 105, 32, 102, 102, 108, 32, 115, 116, 32, 115, 116]⟩
def ffL : List ByteArray := [⟨#[102, 102]⟩, ⟨#[102, 105]⟩, ⟨#[102, 108]⟩, ⟨#[102, 102, 105]⟩, ⟨#[102, 102, 108]⟩, ⟨#[115, 116]⟩, ⟨#[115, 116]⟩]
def ffN : List Nat := [0, 1, 1, 1, 2, 2, 2, 3, 3, 3, 4, 4, 4, 4, 5, 5, 5, 5, 6, 6, 6, 7, 7]
def ffW : List Nat := [1, 0, 0, 1, 0, 0, 1, 0, 0, 1, 0, 0, 0, 1, 0, 0, 0, 1, 0, 0, 1, 0, 0]
def ffS : List Nat := [0, 102, 102, 102, 102, 111, 111, 111, 111, 111, 111, 111, 111, 111, 111, 111, 111, 111, 127, 127, 127, 127, 127]
def ffA : List Nat := [0, 0, 0, 1, 1, 1, 2, 2, 2, 3, 3, 3, 3, 4, 4, 4, 4, 5, 5, 5, 6, 6, 6]
def ffT : List Nat := [0, 0, 0, 3, 3, 3, 6, 6, 6, 9, 9, 9, 9, 13, 13, 13, 13, 17, 17, 17, 20, 20, 20]
def ffR (j : Nat) : List ByteArray := ffL.take (ffA.getD j 0) ++ List.replicate (7 - ffA.getD j 0) .empty
theorem ffR_len : ∀ j : Fin 23, (ffR j.val).length = 7 := by decide +kernel
theorem ff_idx : ∀ j : Fin 22, ((ascT (idx (bt ffB ((j.val : Nat) : Int).toNat).toNat 1 0) = 0 ∧ ffA.getD (j.val + 1) 0 = ffA.getD j.val 0 ∧ ffT.getD (j.val + 1) 0 = ffT.getD j.val 0) ∨
    (ascT (idx (bt ffB ((j.val : Nat) : Int).toNat).toNat 1 0) = 1 ∧ ffA.getD (j.val + 1) 0 = ffA.getD j.val 0 + 1 ∧ ffT.getD (j.val + 1) 0 = j.val + 1 ∧ j.val + 1 < 22 ∧ ascT (idx (bt ffB (IntKind.i64.wrap (((j.val : Nat) : Int) + 1)).toNat).toNat 1 0) = 0 ∧ ffA.getD j.val 0 < 7)) ∧ ffT.getD j.val 0 ≤ j.val := by decide +kernel
theorem ff_set : ∀ j : Fin 22, ffA.getD (j.val + 1) 0 = ffA.getD j.val 0 + 1 → (ffR j.val).set (ffA.getD j.val 0) (ffB.extract (ffT.getD j.val 0) j.val) = ffR (j.val + 1) := by decide +kernel
theorem fields73_fn : Fn Tryd.prog 103 [.str ffB] (tS.L ffL) := by
  have hsz : ffB.size = 22 := rfl
  have hbt : ∀ i, 0 ≤ bt ffB i ∧ bt ffB i < 256 := fun i => ⟨Int.natCast_nonneg _, by unfold bt; have := (ffB.data.toList.getD i 0).toNat_lt; omega⟩
  refine Fn.of Tryd.f103 _ Tryd.func103 rfl (by decide) (by show 1 ≤ _; decide) tbOk 106 rfl fun S w0 gl => ?_
  refine Run.go ?_; (conv => whnf); repeat' (first | ((with_reducible refine Know.mk fun _ => ?_); conv => whnf) | ((with_reducible refine Need.mk ?_ ?_); exact nd; conv => whnf) | ((with_reducible first | refine Both.mk ?_ ?_ | refine Any.mk fun b hb => ?_ | refine AskB.dec (fun hb => ?_) (fun hb => ?_) | refine AskB.ndec (fun hb => ?_) (fun hb => ?_) | refine AskB.mk (fun hb => ?_) (fun hb => ?_)) <;> conv => whnf) | ((with_reducible first | refine Run.drawX rfl (by decide +kernel) ?_ | refine Run.drawT rfl (by decide +kernel) ?_ | refine Run.drawW rfl (by decide +kernel) ?_); conv => whnf))
  refine Run.loop [0] (fun (j : Nat) => [(3, .int .i64 (ffN.getD j 0)), (4, .int .i64 (ffW.getD j 0)), (5, .int .u8 (ffS.getD j 0)), (6, .int .i64 j)]) (fun _ => []) (fun j => j ≤ 22) (fun j => 22 - j) 0 (by omega) ⟨Le.refl _, Le.refl _, Le.refl _, Le.refl _, trivial⟩ trivial ?_
  intro j hj IH
  show Run _ _ (lst (_ ++ [(3, .int .i64 (ffN.getD j 0)), (4, .int .i64 (ffW.getD j 0)), (5, .int .u8 (ffS.getD j 0)), (6, .int .i64 j)])) (lstH [])
  have hb8 := hbt (j : Int).toNat
  by_cases hj22 : j = 22
  · subst hj22
    show Run _ _ (lst [(0, .str ffB), (3, .int .i64 7), (4, .int .i64 0), (5, .int .u8 127), (6, .int .i64 22)]) (lstH [])
    refine Run.go ?_; (conv => whnf); repeat' (first | ((with_reducible refine Know.mk fun _ => ?_); conv => whnf) | ((with_reducible refine Need.mk ?_ ?_); exact nd; conv => whnf) | ((with_reducible first | refine Both.mk ?_ ?_ | refine Any.mk fun b hb => ?_ | refine AskB.dec (fun hb => ?_) (fun hb => ?_) | refine AskB.ndec (fun hb => ?_) (fun hb => ?_) | refine AskB.mk (fun hb => ?_) (fun hb => ?_)) <;> conv => whnf) | ((with_reducible first | refine Run.drawX rfl (by decide +kernel) ?_ | refine Run.drawT rfl (by decide +kernel) ?_ | refine Run.drawW rfl (by decide +kernel) ?_); conv => whnf))
    all_goals try exact absurd hb (by decide)
    refine Run.go ?_; (conv => whnf); repeat' (first | ((with_reducible refine Know.mk fun _ => ?_); conv => whnf) | ((with_reducible refine Need.mk ?_ ?_); exact nd; conv => whnf) | ((with_reducible first | refine Both.mk ?_ ?_ | refine Any.mk fun b hb => ?_ | refine AskB.dec (fun hb => ?_) (fun hb => ?_) | refine AskB.ndec (fun hb => ?_) (fun hb => ?_) | refine AskB.mk (fun hb => ?_) (fun hb => ?_)) <;> conv => whnf) | ((with_reducible first | refine Run.drawX rfl (by decide +kernel) ?_ | refine Run.drawT rfl (by decide +kernel) ?_ | refine Run.drawW rfl (by decide +kernel) ?_); conv => whnf))
    case _ =>
      refine Run.loop [0, 9] (fun (j : Nat) => [(10, .int .i64 (ffA.getD j 0)), (11, .int .i64 (ffT.getD j 0)), (12, .int .i64 j)]) (fun j => [(41, tS.R 9 (ffR j))]) (fun j => j ≤ 22) (fun j => 22 - j) 0 (by omega) ⟨Le.refl _, Le.refl _, Le.refl _, trivial⟩ ⟨⟨rfl, rfl, rfl, fun i j hi hj => ?_⟩, trivial⟩ ?_
      · have hj0 : j = 0 := by have : j < 1 := hj; omega
        subst hj0
        have hi7 : i < 7 := hi
        obtain ⟨i, rfl⟩ : ∃ k : Fin 7, k.val = i := ⟨⟨i, hi7⟩, rfl⟩
        have : (ffR 0).getD i.val .empty = .empty := by clear hi hi7 hj hbt hb8 hb; revert i; decide +kernel
        exact Le.str this.symm
      intro j hj IH
      show Run _ _ (lst (_ ++ [(10, .int .i64 (ffA.getD j 0)), (11, .int .i64 (ffT.getD j 0)), (12, .int .i64 j)])) (lstH [(41, tS.R 9 (ffR j))])
      by_cases hj22 : j = 22
      · subst hj22
        show Run _ _ (lst [(0, .str ffB), (9, .row 41), (10, .int .i64 6), (11, .int .i64 20), (12, .int .i64 22)]) (lstH [(41, tS.R 9 (ffR 22))])
        have h8 : ((ffR 22).length : Int) = 7 := rfl
        refine Run.go ?_; (conv => whnf); repeat' (first | ((with_reducible refine Know.mk fun _ => ?_); conv => whnf) | ((with_reducible refine Need.mk ?_ ?_); exact nd; conv => whnf) | ((with_reducible first | refine Both.mk ?_ ?_ | refine Any.mk fun b hb => ?_ | refine AskB.dec (fun hb => ?_) (fun hb => ?_) | refine AskB.ndec (fun hb => ?_) (fun hb => ?_) | refine AskB.mk (fun hb => ?_) (fun hb => ?_)) <;> conv => whnf) | ((with_reducible first | refine Run.drawX rfl (by decide +kernel) ?_ | refine Run.drawT rfl (by decide +kernel) ?_ | refine Run.drawW rfl (by decide +kernel) ?_); conv => whnf))
        all_goals try (exfalso; omega)
        refine Run.leave (ts := [2]) (.inr ⟨_, rfl⟩) rfl Tryd.func103 rfl ?_
        show Le (.sl 7 1 _) (.sl 7 1 (tS.G ffL))
        refine Le.sl (fun i k hi hk => ?_)
        obtain rfl : k = 0 := by omega
        match i, hi with
        | 0, _ => exact Le.refl _
        | 1, _ => exact Le.refl _
        | 2, _ => exact Le.refl _
        | 3, _ => exact Le.refl _
        | 4, _ => exact Le.refl _
        | 5, _ => exact Le.refl _
        | 6, _ => exact Le.refl _
      have hb9 := hbt (j : Int).toNat
      have hb10 := hbt (IntKind.i64.wrap ((j : Int) + 1)).toNat
      obtain ⟨hf1, hf2⟩ := ff_idx ⟨j, by omega⟩
      simp only [] at hf1 hf2
      have hwj : IntKind.i64.wrap ((j : Int) + 1) = ((j + 1 : Nat) : Int) := by rw [wrap64 (by omega) (by omega)]; omega
      have hla : (ffR j).length = 7 := (ffR_len ⟨j, by omega⟩)
      refine Run.go ?_; (conv => whnf); repeat' (first | ((with_reducible refine Know.mk fun _ => ?_); conv => whnf) | ((with_reducible refine Need.mk ?_ ?_); exact nd; conv => whnf) | ((with_reducible first | refine Both.mk ?_ ?_ | refine Any.mk fun b hb => ?_ | refine AskB.dec (fun hb => ?_) (fun hb => ?_) | refine AskB.ndec (fun hb => ?_) (fun hb => ?_) | refine AskB.mk (fun hb => ?_) (fun hb => ?_)) <;> conv => whnf) | ((with_reducible first | refine Run.drawX rfl (by decide +kernel) ?_ | refine Run.drawT rfl (by decide +kernel) ?_ | refine Run.drawW rfl (by decide +kernel) ?_); conv => whnf))
      all_goals try (exfalso; omega)
      case _ =>
        refine Run.to _ _ ?_ ?_ (IH (j + 1) (by omega) (by omega))
        · exact ⟨Le.refl _, Le.refl _, Le.int (by omega), Le.int (by omega), Le.int hwj, trivial⟩
        · refine ⟨?_, trivial⟩
          rw [show ffR (j + 1) = ffR j by unfold ffR; rw [show ffA.getD (j + 1) 0 = ffA.getD j 0 by omega]]
          exact MOle.refl _
      have hcut := ff_set ⟨j, by omega⟩ (by simp only []; omega)
      simp only [] at hcut
      refine Run.go ?_; (conv => whnf); repeat' (first | ((with_reducible refine Know.mk fun _ => ?_); conv => whnf) | ((with_reducible refine Need.mk ?_ ?_); exact nd; conv => whnf) | ((with_reducible first | refine Both.mk ?_ ?_ | refine Any.mk fun b hb => ?_ | refine AskB.dec (fun hb => ?_) (fun hb => ?_) | refine AskB.ndec (fun hb => ?_) (fun hb => ?_) | refine AskB.mk (fun hb => ?_) (fun hb => ?_)) <;> conv => whnf) | ((with_reducible first | refine Run.drawX rfl (by decide +kernel) ?_ | refine Run.drawT rfl (by decide +kernel) ?_ | refine Run.drawW rfl (by decide +kernel) ?_); conv => whnf))
      all_goals try (exfalso; omega)
      refine Run.to _ _ ?_ ?_ (IH (j + 1) (by omega) (by omega))
      · exact ⟨Le.refl _, Le.refl _, Le.int (by rw [wrap64 (by omega) (by omega)]; omega), Le.int (by omega), Le.int hwj, trivial⟩
      · refine ⟨?_, trivial⟩
        rw [← hcut]
        exact tS.set 9 (ffR j) _ _ (by rw [hla]; omega) _ rfl (fun k y hk => by
          match k, hk with
          | 0, hk => cases hk; exact Le.refl _)
    case _ => exact absurd hb (by decide)
    all_goals exact absurd hb (by decide)
  refine Run.go ?_; (conv => whnf); repeat' (first | ((with_reducible refine Know.mk fun _ => ?_); conv => whnf) | ((with_reducible refine Need.mk ?_ ?_); exact nd; conv => whnf) | ((with_reducible first | refine Both.mk ?_ ?_ | refine Any.mk fun b hb => ?_ | refine AskB.dec (fun hb => ?_) (fun hb => ?_) | refine AskB.ndec (fun hb => ?_) (fun hb => ?_) | refine AskB.mk (fun hb => ?_) (fun hb => ?_)) <;> conv => whnf) | ((with_reducible first | refine Run.drawX rfl (by decide +kernel) ?_ | refine Run.drawT rfl (by decide +kernel) ?_ | refine Run.drawW rfl (by decide +kernel) ?_); conv => whnf))
  all_goals try (exfalso; omega)
  refine Run.to _ _ ?_ ?_ (IH (j + 1) (by omega) (by omega))
  · obtain ⟨j, rfl⟩ : ∃ k : Fin 22, k.val = j := ⟨⟨j, by omega⟩, rfl⟩
    clear IH hb8 hj hbt hsz hb
    refine ⟨Le.refl _, Le.int ?_, Le.int ?_, Le.int ?_, Le.int ?_, trivial⟩
    · revert j; decide +kernel
    · revert j; decide +kernel
    · revert j; decide +kernel
    · revert j; decide +kernel
  · trivial
/-- What a rune stands for. -/
def isLig (r : Int) : Bool := decide (r = 198 ∨ r = 230 ∨ r = 338 ∨ r = 339 ∨ r = 223 ∨ r = 383 ∨ r = 306 ∨ r = 307 ∨ (64256 ≤ r ∧ r ≤ 64262))
def ligB (r : Int) : ByteArray := if r = 198 then ⟨#[65, 69]⟩ else if r = 230 then ⟨#[97, 101]⟩ else if r = 338 then ⟨#[79, 69]⟩ else if r = 339 then ⟨#[111, 101]⟩ else if r = 223 then ⟨#[115, 115]⟩ else if r = 383 then ⟨#[115]⟩
  else if r = 306 then ⟨#[73, 74]⟩ else if r = 307 then ⟨#[105, 106]⟩ else if 64256 ≤ r ∧ r ≤ 64262 then ffL.getD (r - 64256).toNat .empty else .empty
theorem ligature59_fn (r : Int) : Fn Tryd.prog 87 [.int .i32 r] (tupL [.str (ligB r), .bool (isLig r)]) := by
  have h32 : 64256 ≤ r → r ≤ 64262 → IntKind.i32.wrap (r - 64256) = r - 64256 := fun h1 h2 => wrap32 (by omega) (by omega)
  have hyes : (r = 198 ∨ r = 230 ∨ r = 338 ∨ r = 339 ∨ r = 223 ∨ r = 383 ∨ r = 306 ∨ r = 307 ∨ (64256 ≤ r ∧ r ≤ 64262)) → isLig r = true := fun h => decide_eq_true h
  have hno : ¬ (r = 198 ∨ r = 230 ∨ r = 338 ∨ r = 339 ∨ r = 223 ∨ r = 383 ∨ r = 306 ∨ r = 307 ∨ (64256 ≤ r ∧ r ≤ 64262)) → isLig r = false := fun h => decide_eq_false h
  refine Fn.of Tryd.f87 _ Tryd.func87 rfl (by decide) (by show 1 ≤ _; decide) tbOk 32 rfl fun S w0 gl => ?_
  refine Run.go ?_; (conv => whnf); repeat' (first | ((with_reducible refine Know.mk fun _ => ?_); conv => whnf) | ((with_reducible refine Need.mk ?_ ?_); exact nd; conv => whnf) | ((with_reducible refine Both.mk ?_ ?_) <;> conv => whnf) | ((with_reducible refine Any.mk fun b hb => ?_); conv => whnf) | ((with_reducible first | refine AskB.dec (fun hb => ?_) (fun hb => ?_) | refine AskB.ndec (fun hb => ?_) (fun hb => ?_) | refine AskB.mk (fun hb => ?_) (fun hb => ?_)) <;> first | (exfalso; omega) | (conv => whnf)) | ((with_reducible first | refine Run.drawX rfl (by decide +kernel) ?_ | refine Run.drawT rfl (by decide +kernel) ?_ | refine Run.drawW rfl (by decide +kernel) ?_); conv => whnf))
  iterate 8 (· exact Run.leave (ts := [2,3]) (.inr ⟨_, rfl⟩) rfl Tryd.func87 rfl (resT ⟨Le.str (by subst hb; rfl), Le.tt.trans (Le.bool (hyes (by omega)).symm), trivial⟩))
  · rename_i hb1
    refine Run.callBX fields73_fn rfl rfl ⟨Le.refl _, trivial⟩ rfl rfl rfl ?_
    have hw := h32 hb1 hb
    have hl : (ffL.length : Int) = 7 := rfl
    (conv => whnf); repeat' (first | ((with_reducible refine Know.mk fun _ => ?_); conv => whnf) | ((with_reducible refine Need.mk ?_ ?_); exact nd; conv => whnf) | ((with_reducible first | refine Both.mk ?_ ?_ | refine Any.mk fun b hb => ?_ | refine AskB.dec (fun hb => ?_) (fun hb => ?_) | refine AskB.ndec (fun hb => ?_) (fun hb => ?_) | refine AskB.mk (fun hb => ?_) (fun hb => ?_)) <;> conv => whnf) | ((with_reducible first | refine Run.drawX rfl (by decide +kernel) ?_ | refine Run.drawT rfl (by decide +kernel) ?_ | refine Run.drawW rfl (by decide +kernel) ?_); conv => whnf))
    refine Run.leave (ts := [2,3]) (.inr ⟨_, rfl⟩) rfl Tryd.func87 rfl (resT ⟨Le.str ?_, Le.tt.trans (Le.bool (hyes (by omega)).symm), trivial⟩)
    rw [hw]
    unfold ligB
    rw [if_neg (by omega), if_neg (by omega), if_neg (by omega), if_neg (by omega), if_neg (by omega), if_neg (by omega), if_neg (by omega), if_neg (by omega), if_pos ⟨hb1, hb⟩]
    rfl
  all_goals refine Run.leave (ts := [2,3]) (.inr ⟨_, rfl⟩) rfl Tryd.func87 rfl (resT ⟨Le.str ?_, Le.ff.trans (Le.bool (hno (by omega)).symm), trivial⟩)
  all_goals
    unfold ligB
    rw [if_neg (by omega), if_neg (by omega), if_neg (by omega), if_neg (by omega), if_neg (by omega), if_neg (by omega), if_neg (by omega), if_neg (by omega), if_neg (by omega)]
    rfl
end Go.Proofs.YtnadacaoehpdnaaDoor.V

namespace Go.Proofs.YtnadacaoehpdnaaDoor.V
set_option linter.unusedVariables false
set_option linter.unusedSimpArgs false
open Go Go.Proofs Go.RowKit
set_option maxRecDepth 100000
set_option maxHeartbeats 2000000
open Go Go.Proofs Go.Proofs.YtnadacaoehpdnaaDoor.V
def tF : Ty Nat := ⟨1, fun f _ => .fn f, 81⟩
def stepsF (opt : Int) : List Nat := (if opt % 2 = 1 then [81] else []) ++ (if opt / 2 % 2 = 1 then [82] else []) ++ (if opt / 8 % 2 = 1 then [83] else [])
theorem bits32 : ∀ o : Fin 32, IntKind.i64.wrap ↑(BitVec.ofInt IntKind.i64.bits (o.val : Int) &&& BitVec.ofInt IntKind.i64.bits 1).toNat = (o.val : Int) % 2 ∧
    IntKind.i64.wrap ↑(BitVec.ofInt IntKind.i64.bits (o.val : Int) &&& BitVec.ofInt IntKind.i64.bits 2).toNat = 2 * ((o.val : Int) / 2 % 2) ∧
    IntKind.i64.wrap ↑(BitVec.ofInt IntKind.i64.bits (o.val : Int) &&& BitVec.ofInt IntKind.i64.bits 4).toNat = 4 * ((o.val : Int) / 4 % 2) ∧
    IntKind.i64.wrap ↑(BitVec.ofInt IntKind.i64.bits (o.val : Int) &&& BitVec.ofInt IntKind.i64.bits 8).toNat = 8 * ((o.val : Int) / 8 % 2) ∧
    IntKind.i64.wrap ↑(BitVec.ofInt IntKind.i64.bits (o.val : Int) &&& BitVec.ofInt IntKind.i64.bits 16).toNat = 16 * ((o.val : Int) / 16 % 2) := by decide +kernel
theorem steps38_fn (o : Int) (h0 : 0 ≤ o) (h1 : o ≤ 31) : Fn Tryd.prog 64 [.int .i64 o] (tF.L (stepsF o)) := by
  obtain ⟨k, rfl⟩ : ∃ k : Fin 32, (k.val : Int) = o := ⟨⟨o.toNat, by omega⟩, by simp only []; omega⟩
  obtain ⟨e1, e2, e4, e8, e16⟩ := bits32 k
  refine Fn.of Tryd.f64 _ Tryd.func64 rfl (by decide) (by show 1 ≤ _; decide) tbOk 13 rfl fun S w0 gl => ?_
  refine Run.go ?_; (conv => whnf); repeat' (first | ((with_reducible refine Know.mk fun _ => ?_); conv => whnf) | ((with_reducible refine Need.mk ?_ ?_); exact nd; conv => whnf) | ((with_reducible first | refine Both.mk ?_ ?_ | refine Any.mk fun b hb => ?_ | refine AskB.dec (fun hb => ?_) (fun hb => ?_) | refine AskB.ndec (fun hb => ?_) (fun hb => ?_) | refine AskB.mk (fun hb => ?_) (fun hb => ?_)) <;> conv => whnf) | ((with_reducible first | refine Run.drawX rfl (by decide +kernel) ?_ | refine Run.drawT rfl (by decide +kernel) ?_ | refine Run.drawW rfl (by decide +kernel) ?_); conv => whnf))
  refine Run.makeFunc rfl rfl rfl rfl rfl ?_
  refine Run.holdBoxNil 3 0 90 138 1 (fun _ _ => .u) (by rfl) (by rfl) rfl rfl ?_
  refine Run.tidy [3, 4, 5] [1, 3, 5, 90] ?_; (conv => whnf)
  refine Run.go ?_; (conv => whnf); repeat' (first | ((with_reducible refine Know.mk fun _ => ?_); conv => whnf) | ((with_reducible refine Need.mk ?_ ?_); exact nd; conv => whnf) | ((with_reducible first | refine Both.mk ?_ ?_ | refine Any.mk fun b hb => ?_ | refine AskB.dec (fun hb => ?_) (fun hb => ?_) | refine AskB.ndec (fun hb => ?_) (fun hb => ?_) | refine AskB.mk (fun hb => ?_) (fun hb => ?_)) <;> conv => whnf) | ((with_reducible first | refine Run.drawX rfl (by decide +kernel) ?_ | refine Run.drawT rfl (by decide +kernel) ?_ | refine Run.drawW rfl (by decide +kernel) ?_); conv => whnf))
  all_goals
    refine Run.inlineC 700 Tryd.f80 _ 14 rfl rfl rfl rfl rfl (by decide) Tryd.func80 rfl (by decide) rfl (by show 4 ≤ 14; decide) rfl rfl (fun a hsz hdf => ?_)
    refine Run.go ?_; (conv => whnf); repeat' (first | ((with_reducible refine Know.mk fun _ => ?_); conv => whnf) | ((with_reducible refine Need.mk ?_ ?_); exact nd; conv => whnf) | ((with_reducible first | refine Both.mk ?_ ?_ | refine Any.mk fun b hb => ?_ | refine AskB.dec (fun hb => ?_) (fun hb => ?_) | refine AskB.ndec (fun hb => ?_) (fun hb => ?_) | refine AskB.mk (fun hb => ?_) (fun hb => ?_)) <;> conv => whnf) | ((with_reducible first | refine Run.drawX rfl (by decide +kernel) ?_ | refine Run.drawT rfl (by decide +kernel) ?_ | refine Run.drawW rfl (by decide +kernel) ?_); conv => whnf))
    all_goals
      refine Run.back 700 (ts := []) hsz hdf (.inl rfl) (by rfl) Tryd.func80 rfl ?_
      try refine Run.holdBoxRow 3 0 90 13 (by rfl) (by rfl) (by rfl) rfl rfl rfl ?_
      refine Run.tidy [3, 4] [1, 3, 5, 90] ?_; (conv => whnf)
      refine Run.go ?_; (conv => whnf); repeat' (first | ((with_reducible refine Know.mk fun _ => ?_); conv => whnf) | ((with_reducible refine Need.mk ?_ ?_); exact nd; conv => whnf) | ((with_reducible first | refine Both.mk ?_ ?_ | refine Any.mk fun b hb => ?_ | refine AskB.dec (fun hb => ?_) (fun hb => ?_) | refine AskB.ndec (fun hb => ?_) (fun hb => ?_) | refine AskB.mk (fun hb => ?_) (fun hb => ?_)) <;> conv => whnf) | ((with_reducible first | refine Run.drawX rfl (by decide +kernel) ?_ | refine Run.drawT rfl (by decide +kernel) ?_ | refine Run.drawW rfl (by decide +kernel) ?_); conv => whnf))
  all_goals
    refine Run.inlineC 700 Tryd.f80 _ 14 rfl rfl rfl rfl rfl (by decide) Tryd.func80 rfl (by decide) rfl (by show 4 ≤ 14; decide) rfl rfl (fun a hsz hdf => ?_)
    refine Run.go ?_; (conv => whnf); repeat' (first | ((with_reducible refine Know.mk fun _ => ?_); conv => whnf) | ((with_reducible refine Need.mk ?_ ?_); exact nd; conv => whnf) | ((with_reducible first | refine Both.mk ?_ ?_ | refine Any.mk fun b hb => ?_ | refine AskB.dec (fun hb => ?_) (fun hb => ?_) | refine AskB.ndec (fun hb => ?_) (fun hb => ?_) | refine AskB.mk (fun hb => ?_) (fun hb => ?_)) <;> conv => whnf) | ((with_reducible first | refine Run.drawX rfl (by decide +kernel) ?_ | refine Run.drawT rfl (by decide +kernel) ?_ | refine Run.drawW rfl (by decide +kernel) ?_); conv => whnf))
    all_goals
      refine Run.back 700 (ts := []) hsz hdf (.inl rfl) (by rfl) Tryd.func80 rfl ?_
      try refine Run.holdBoxRow 3 0 90 13 (by rfl) (by rfl) (by rfl) rfl rfl rfl ?_
      refine Run.tidy [3, 4] [1, 3, 5, 90] ?_; (conv => whnf)
      refine Run.go ?_; (conv => whnf); repeat' (first | ((with_reducible refine Know.mk fun _ => ?_); conv => whnf) | ((with_reducible refine Need.mk ?_ ?_); exact nd; conv => whnf) | ((with_reducible first | refine Both.mk ?_ ?_ | refine Any.mk fun b hb => ?_ | refine AskB.dec (fun hb => ?_) (fun hb => ?_) | refine AskB.ndec (fun hb => ?_) (fun hb => ?_) | refine AskB.mk (fun hb => ?_) (fun hb => ?_)) <;> conv => whnf) | ((with_reducible first | refine Run.drawX rfl (by decide +kernel) ?_ | refine Run.drawT rfl (by decide +kernel) ?_ | refine Run.drawW rfl (by decide +kernel) ?_); conv => whnf))
  all_goals
    refine Run.inlineC 700 Tryd.f80 _ 14 rfl rfl rfl rfl rfl (by decide) Tryd.func80 rfl (by decide) rfl (by show 4 ≤ 14; decide) rfl rfl (fun a hsz hdf => ?_)
    refine Run.go ?_; (conv => whnf); repeat' (first | ((with_reducible refine Know.mk fun _ => ?_); conv => whnf) | ((with_reducible refine Need.mk ?_ ?_); exact nd; conv => whnf) | ((with_reducible first | refine Both.mk ?_ ?_ | refine Any.mk fun b hb => ?_ | refine AskB.dec (fun hb => ?_) (fun hb => ?_) | refine AskB.ndec (fun hb => ?_) (fun hb => ?_) | refine AskB.mk (fun hb => ?_) (fun hb => ?_)) <;> conv => whnf) | ((with_reducible first | refine Run.drawX rfl (by decide +kernel) ?_ | refine Run.drawT rfl (by decide +kernel) ?_ | refine Run.drawW rfl (by decide +kernel) ?_); conv => whnf))
    all_goals
      refine Run.back 700 (ts := []) hsz hdf (.inl rfl) (by rfl) Tryd.func80 rfl ?_
      try refine Run.holdBoxRow 3 0 90 13 (by rfl) (by rfl) (by rfl) rfl rfl rfl ?_
      refine Run.tidy [3, 4] [1, 3, 5, 90] ?_; (conv => whnf)
      refine Run.go ?_; (conv => whnf); repeat' (first | ((with_reducible refine Know.mk fun _ => ?_); conv => whnf) | ((with_reducible refine Need.mk ?_ ?_); exact nd; conv => whnf) | ((with_reducible first | refine Both.mk ?_ ?_ | refine Any.mk fun b hb => ?_ | refine AskB.dec (fun hb => ?_) (fun hb => ?_) | refine AskB.ndec (fun hb => ?_) (fun hb => ?_) | refine AskB.mk (fun hb => ?_) (fun hb => ?_)) <;> conv => whnf) | ((with_reducible first | refine Run.drawX rfl (by decide +kernel) ?_ | refine Run.drawT rfl (by decide +kernel) ?_ | refine Run.drawW rfl (by decide +kernel) ?_); conv => whnf))
  all_goals refine Run.leave (ts := [2]) (.inr ⟨_, rfl⟩) rfl Tryd.func64 rfl ?_
  all_goals unfold stepsF
  all_goals first | rw [if_pos (show (k.val : Int) % 2 = 1 by omega)] | rw [if_neg (show ¬ (k.val : Int) % 2 = 1 by omega)]
  all_goals first | rw [if_pos (show (k.val : Int) / 2 % 2 = 1 by omega)] | rw [if_neg (show ¬ (k.val : Int) / 2 % 2 = 1 by omega)]
  all_goals first | rw [if_pos (show (k.val : Int) / 8 % 2 = 1 by omega)] | rw [if_neg (show ¬ (k.val : Int) / 8 % 2 = 1 by omega)]
  all_goals
    refine Le.sl (fun i j hi hj => ?_)
    obtain rfl : j = 0 := by have : j < 1 := hj; omega
    first
    | (exact absurd (show i < 0 from hi) (Nat.not_lt_zero _))
    | (have h3 : i = 0 := by have : i < 1 := hi; omega
       subst h3; exact Le.refl _)
    | (have h3 : i = 0 ∨ i = 1 := by have : i < 2 := hi; omega
       rcases h3 with rfl | rfl <;> exact Le.refl _)
    | (have h3 : i = 0 ∨ i = 1 ∨ i = 2 := by have : i < 3 := hi; omega
       rcases h3 with rfl | rfl | rfl <;> exact Le.refl _)
end Go.Proofs.YtnadacaoehpdnaaDoor.V

namespace Go.Proofs.YtnadacaoehpdnaaDoor.V
set_option linter.unusedVariables false
set_option linter.unusedSimpArgs false
open Go Go.Proofs Go.RowKit
set_option maxRecDepth 100000
set_option maxHeartbeats 4000000
open Go Go.Proofs Go.Proofs.YtnadacaoehpdnaaDoor.V
theorem ws6 {N : Nat} {w0 : World} {S : Nat → Prop} {gl : GlobOk S w0} {f : FuncId} {R : Ending → World → Prop} {ops : Array Oper} {i : Nat} {rest : List Nat} {k : List Item} {env : Env} {h : Heap} {o : Oper} {x y : Operand}
    (p : AV) (t s : ByteArray) (ho : ops.toList[i]? = some o) (hc : calls? o = some (72, [x, y])) (hd : okD N o.dst = true) (hr : ready env ops o = true) (hx : ev (scrubE 900 env) x = .box 6 0) (hy : ev (scrubE 900 env) y = .str s)
    (hs : t.size + s.size ≤ 140737488355328) (hp : p = .nilp ∨ p = .box 6 0)
    (next : Run ⟨Tryd.prog, TB, tbOk, N, w0, S, gl, f, R⟩ (.inRegion ops rest :: k) (putE (envW 90 env) o.dst .u) (bldr 95 5 6 90 (heapW 90 h) (.box 6 0) (t ++ s))) :
    Run ⟨Tryd.prog, TB, tbOk, N, w0, S, gl, f, R⟩ (.inRegion ops (i :: rest) :: k) env (bldr 95 5 6 90 h p t) := by
  refine Run.inline 900 Tryd.f72 _ 19 ho hc Tryd.func72 rfl (by decide) rfl (by show 2 ≤ 19; decide) hd hr (fun a hsz hdf => ?_)
  simp only [List.map, hx, hy]
  have fin : ∀ (E : Env) (H : Heap) (X : AV), (∀ i, E i = scrub 14 (scrub 901 (scrub 900 (env i)))) → (∀ id, Nat.beq id 6 = false → Nat.beq id 90 = false → Nat.beq id 14 = false → Nat.beq id 901 = false → Nat.beq id 900 = false → H id = scrubM 90 (scrubM 14 (scrubM 901 (scrubM 900 (h id))))) →
      MOle (H 6) (.box 95 [.box 6 0, .row 90]) → MOle (H 90) (.row 5 1 (t ++ s).size (bytesG (t ++ s))) → Run ⟨Tryd.prog, TB, tbOk, N, w0, S, gl, f, R⟩ (.inRegion ops rest :: k) (scrubE 90 (putE E o.dst X)) H := by
    intro E H X hE hH h5 h90
    refine Run.weaken (fun i => ?_) (fun id => ?_) next
    · cases hdst : o.dst with
      | none => show Le (scrub 90 (E i)) _; rw [hE]; exact Le.refl _
      | some d =>
        show Le (scrub 90 (upd E d X i)) (upd (envW 90 env) d .u i)
        by_cases e : i = d
        · subst e; rw [upd_same, upd_same]; exact Le.u _
        · rw [upd_other _ _ e, upd_other _ _ e, hE]; exact Le.refl _
    · unfold bldr heapW
      cases e5 : Nat.beq id 6 with
      | true => have := Nat.eq_of_beq_eq_true e5; subst this; exact h5
      | false =>
      cases e90 : Nat.beq id 90 with
      | true => have := Nat.eq_of_beq_eq_true e90; subst this; exact h90
      | false =>
      cases e900 : Nat.beq id 900 with
      | true => simp only [upd, e5, e90, e900, cond_true, cond_false]; exact mole_dead _
      | false =>
      cases e901 : Nat.beq id 901 with
      | true => simp only [upd, e5, e90, e900, e901, cond_true, cond_false]; exact mole_dead _
      | false =>
      cases e14 : Nat.beq id 14 with
      | true => simp only [upd, e5, e90, e900, e901, e14, cond_true, cond_false]; exact mole_dead _
      | false =>
        rw [hH id e5 e90 e14 e901 e900]
        simp only [upd, e5, e90, e900, e901, e14, cond_true, cond_false]
        exact MOle.refl _
  rcases hp with rfl | rfl
  · refine Run.go ?_; (conv => whnf); repeat' (first | ((with_reducible refine Know.mk fun _ => ?_); conv => whnf) | ((with_reducible refine Need.mk ?_ ?_); exact nd; conv => whnf) | ((with_reducible first | refine Both.mk ?_ ?_ | refine Any.mk fun b hb => ?_ | refine AskB.dec (fun hb => ?_) (fun hb => ?_) | refine AskB.ndec (fun hb => ?_) (fun hb => ?_) | refine AskB.mk (fun hb => ?_) (fun hb => ?_)) <;> conv => whnf) | ((with_reducible first | refine Run.drawX rfl (by decide +kernel) ?_ | refine Run.drawT rfl (by decide +kernel) ?_ | refine Run.drawW rfl (by decide +kernel) ?_); conv => whnf))
    refine Run.inline 901 Tryd.f61 _ 20 rfl rfl Tryd.func61 rfl (by decide) rfl (by decide) rfl rfl (fun a2 hsz2 hdf2 => ?_)
    refine Run.go ?_; (conv => whnf); repeat' (first | ((with_reducible refine Know.mk fun _ => ?_); conv => whnf) | ((with_reducible refine Need.mk ?_ ?_); exact nd; conv => whnf) | ((with_reducible first | refine Both.mk ?_ ?_ | refine Any.mk fun b hb => ?_ | refine AskB.dec (fun hb => ?_) (fun hb => ?_) | refine AskB.ndec (fun hb => ?_) (fun hb => ?_) | refine AskB.mk (fun hb => ?_) (fun hb => ?_)) <;> conv => whnf) | ((with_reducible first | refine Run.drawX rfl (by decide +kernel) ?_ | refine Run.drawT rfl (by decide +kernel) ?_ | refine Run.drawW rfl (by decide +kernel) ?_); conv => whnf))
    refine Run.toUnsafe (id := 6) (l := [.nilp, .row 90]) (e := 95) (t := 95) (src := 92) (dst := 136) (x := .tmp 8) rfl rfl rfl rfl rfl rfl (by decide) (by kernel_rfl) (by kernel_rfl) (j := (Tryd.prog.info? 95).get (by kernel_rfl)) (by kernel_rfl) (by decide +kernel) ?_
    refine Run.noEscape (f := 79) (x := .tmp 9) rfl rfl rfl rfl Tryd.func79 (by kernel_rfl) (by kernel_rfl) (by kernel_rfl) (by kernel_rfl) ?_
    refine Run.fromUnsafe (id := 6) (l := [.nilp, .row 90]) (e := 95) (u := 95) (src := 136) (dst := 92) (x := .tmp 10) rfl rfl rfl rfl rfl rfl (by kernel_rfl) (by kernel_rfl) (j := (Tryd.prog.info? 95).get (by kernel_rfl)) (by kernel_rfl) (by kernel_rfl) ?_
    refine Run.go ?_; (conv => whnf); repeat' (first | ((with_reducible refine Know.mk fun _ => ?_); conv => whnf) | ((with_reducible refine Need.mk ?_ ?_); exact nd; conv => whnf) | ((with_reducible first | refine Both.mk ?_ ?_ | refine Any.mk fun b hb => ?_ | refine AskB.dec (fun hb => ?_) (fun hb => ?_) | refine AskB.ndec (fun hb => ?_) (fun hb => ?_) | refine AskB.mk (fun hb => ?_) (fun hb => ?_)) <;> conv => whnf) | ((with_reducible first | refine Run.drawX rfl (by decide +kernel) ?_ | refine Run.drawT rfl (by decide +kernel) ?_ | refine Run.drawW rfl (by decide +kernel) ?_); conv => whnf))
    refine Run.back 901 (ts := []) hsz2 hdf2 (.inl rfl) (by rfl) Tryd.func61 rfl ?_
    refine Run.go ?_; (conv => whnf); repeat' (first | ((with_reducible refine Know.mk fun _ => ?_); conv => whnf) | ((with_reducible refine Need.mk ?_ ?_); exact nd; conv => whnf) | ((with_reducible first | refine Both.mk ?_ ?_ | refine Any.mk fun b hb => ?_ | refine AskB.dec (fun hb => ?_) (fun hb => ?_) | refine AskB.ndec (fun hb => ?_) (fun hb => ?_) | refine AskB.mk (fun hb => ?_) (fun hb => ?_)) <;> conv => whnf) | ((with_reducible first | refine Run.drawX rfl (by decide +kernel) ?_ | refine Run.drawT rfl (by decide +kernel) ?_ | refine Run.drawW rfl (by decide +kernel) ?_); conv => whnf))
    refine Run.back 900 (ts := [4, 5]) hsz hdf (.inr ⟨_, rfl⟩) (by rfl) Tryd.func72 rfl ?_
    refine Run.holdBoxRow 6 1 90 14 (by rfl) (by rfl) (by rfl) rfl rfl rfl ?_
    refine fin _ _ _ (fun i => rfl) (fun id e5 e90 e14 e901 e900 => ?_) (MOle.refl _) (bytesG_join 5 t s)
    simp only [upd, scrubH, scrubM, bldr, e5, e90, e14, e901, e900, cond_false]
  · refine Run.go ?_; (conv => whnf); repeat' (first | ((with_reducible refine Know.mk fun _ => ?_); conv => whnf) | ((with_reducible refine Need.mk ?_ ?_); exact nd; conv => whnf) | ((with_reducible first | refine Both.mk ?_ ?_ | refine Any.mk fun b hb => ?_ | refine AskB.dec (fun hb => ?_) (fun hb => ?_) | refine AskB.ndec (fun hb => ?_) (fun hb => ?_) | refine AskB.mk (fun hb => ?_) (fun hb => ?_)) <;> conv => whnf) | ((with_reducible first | refine Run.drawX rfl (by decide +kernel) ?_ | refine Run.drawT rfl (by decide +kernel) ?_ | refine Run.drawW rfl (by decide +kernel) ?_); conv => whnf))
    refine Run.inline 901 Tryd.f61 _ 20 rfl rfl Tryd.func61 rfl (by decide) rfl (by decide) rfl rfl (fun a2 hsz2 hdf2 => ?_)
    refine Run.go ?_; (conv => whnf); repeat' (first | ((with_reducible refine Know.mk fun _ => ?_); conv => whnf) | ((with_reducible refine Need.mk ?_ ?_); exact nd; conv => whnf) | ((with_reducible first | refine Both.mk ?_ ?_ | refine Any.mk fun b hb => ?_ | refine AskB.dec (fun hb => ?_) (fun hb => ?_) | refine AskB.ndec (fun hb => ?_) (fun hb => ?_) | refine AskB.mk (fun hb => ?_) (fun hb => ?_)) <;> conv => whnf) | ((with_reducible first | refine Run.drawX rfl (by decide +kernel) ?_ | refine Run.drawT rfl (by decide +kernel) ?_ | refine Run.drawW rfl (by decide +kernel) ?_); conv => whnf))
    refine Run.back 901 (ts := []) hsz2 hdf2 (.inl rfl) (by rfl) Tryd.func61 rfl ?_
    refine Run.go ?_; (conv => whnf); repeat' (first | ((with_reducible refine Know.mk fun _ => ?_); conv => whnf) | ((with_reducible refine Need.mk ?_ ?_); exact nd; conv => whnf) | ((with_reducible first | refine Both.mk ?_ ?_ | refine Any.mk fun b hb => ?_ | refine AskB.dec (fun hb => ?_) (fun hb => ?_) | refine AskB.ndec (fun hb => ?_) (fun hb => ?_) | refine AskB.mk (fun hb => ?_) (fun hb => ?_)) <;> conv => whnf) | ((with_reducible first | refine Run.drawX rfl (by decide +kernel) ?_ | refine Run.drawT rfl (by decide +kernel) ?_ | refine Run.drawW rfl (by decide +kernel) ?_); conv => whnf))
    refine Run.back 900 (ts := [4, 5]) hsz hdf (.inr ⟨_, rfl⟩) (by rfl) Tryd.func72 rfl ?_
    refine Run.holdBoxRow 6 1 90 14 (by rfl) (by rfl) (by rfl) rfl rfl rfl ?_
    refine fin _ _ _ (fun i => rfl) (fun id e5 e90 e14 e901 e900 => ?_) (MOle.refl _) (bytesG_join 5 t s)
    simp only [upd, scrubH, scrubM, bldr, e5, e90, e14, e901, e900, cond_false]

def appF (f : Nat) (x : Int) : Int := if f = 81 then lowV x else if f = 82 then bareV x else letterV x
def appL (l : List Nat) (x : Int) : Int := l.foldl (fun x f => appF f x) x
def stepV (o x : Int) : Int := appL (stepsF o) x
theorem stepFn {f : Nat} (x : Int) (h : f = 81 ∨ f = 82 ∨ f = 83) : Fn Tryd.prog f [.int .i32 x] (.int .i32 (appF f x)) := by
  rcases h with rfl | rfl | rfl
  · exact lower53_fn x
  · exact unmarked54_fn x
  · exact letter55_fn x
theorem stepsF_mem {o : Int} {f : Nat} (h : f ∈ stepsF o) : f = 81 ∨ f = 82 ∨ f = 83 := by
  unfold stepsF at h
  simp only [List.mem_append] at h
  rcases h with (h | h) | h
  · split at h
    · exact .inl (by simpa using h)
    · cases h
  · split at h
    · exact .inr (.inl (by simpa using h))
    · cases h
  · split at h
    · exact .inr (.inr (by simpa using h))
    · cases h
theorem stepsF_len (o : Int) : (stepsF o).length ≤ 3 := by
  unfold stepsF
  repeat' split
  all_goals decide
theorem appL_take (l : List Nat) (x : Int) (m : Nat) (h : m < l.length) : appL (l.take (m + 1)) x = appF (l.getD m 81) (appL (l.take m) x) := by
  unfold appL
  rw [List.take_succ_eq_append_getElem h, List.foldl_append, List.getD, List.getElem?_eq_getElem h]; rfl
/-- Runes written one behind the other, each as the steps leave it. -/
def catE (o : Int) : List Int → ByteArray
  | [] => .empty
  | x :: r => Utf8.encode (stepV o x) ++ catE o r
theorem catE_app (o : Int) : ∀ a b : List Int, catE o (a ++ b) = catE o a ++ catE o b
  | [], b => by simp [catE]
  | x :: a, b => by simp only [List.cons_append, catE]; rw [catE_app o a b, ByteArray.append_assoc]
theorem catE_take (o : Int) (l : List Int) (j : Nat) (h : j < l.length) : catE o (l.take (j + 1)) = catE o (l.take j) ++ Utf8.encode (stepV o (l.getD j 0)) := by
  rw [List.take_succ_eq_append_getElem h, catE_app, List.getD, List.getElem?_eq_getElem h]; simp [catE]
theorem catE_size (o : Int) : ∀ l : List Int, (catE o l).size ≤ 4 * l.length
  | [] => by simp [catE]
  | x :: r => by
    have h1 := catE_size o r
    have h2 := encode_small (stepV o x)
    simp only [catE, ByteArray.size_append, List.length_cons]; omega
/-- Is a rune left out? -/
def dropV (r o : Int) : Bool := decide ((o / 16 % 2 = 1 ∧ kOf r = 4) ∨ (o / 2 % 2 = 1 ∧ kOf r = 2))
def runesV (r o : Int) : List Int := if isLig r = true ∧ o / 4 % 2 = 1 then runesE (ligB r) 0 else [r]
/-- What a rune becomes. -/
def foldR (r o : Int) : ByteArray := if dropV r o = true then .empty else catE o (runesV r o)
theorem ligB_size (r : Int) : (ligB r).size ≤ 3 := by
  unfold ligB
  repeat' split
  all_goals first | (exact Nat.le_of_ble_eq_true rfl) | skip
  rename_i h
  obtain ⟨k, hk⟩ : ∃ k : Fin 7, k.val = (r - 64256).toNat := ⟨⟨(r - 64256).toNat, by omega⟩, rfl⟩
  rw [← hk]
  clear hk h
  revert k; decide +kernel
theorem runesV_len (r o : Int) : (runesV r o).length ≤ 3 := by
  unfold runesV
  split
  · have := runesE_len (ligB r) 0
    have := ligB_size r
    omega
  · simp
theorem foldR_size (r o : Int) : (foldR r o).size ≤ 12 := by
  unfold foldR
  split
  · exact Nat.zero_le _
  · have := catE_size o (runesV r o)
    have := runesV_len r o
    omega
def clean6 (x : AV) : Prop := scrub 902 x = x ∧ scrub 35 x = x ∧ scrW 90 x = x ∧ ∀ X Y, repl 35 X Y x = x
def cleanL : List (Nat × AV) → Prop
  | [] => True
  | p :: r => clean6 p.2 ∧ cleanL r
theorem cleanL_at : ∀ {l : List (Nat × AV)}, cleanL l → ∀ i, clean6 (lst l i)
  | [], _, i => ⟨rfl, rfl, rfl, fun _ _ => rfl⟩
  | p :: r, h, i => by
    show clean6 (cond (Nat.beq i p.1) p.2 (lst r i))
    cases Nat.beq i p.1 with
    | true => exact h.1
    | false => exact cleanL_at h.2 i
theorem to_next {C : Ctx} {l : List (Nat × AV)} {lh : List (Nat × MO)} {k : List Item} {dst : Option Nat} {E : Env} {X : AV} {H : Heap} (hE : ∀ i, E i = lst l i) (hH : fitsH H lh) (next : Run C k (putE (lst l) dst .u) (lstH lh)) : Run C k (putE E dst X) H := by
  refine Run.weaken (fun i => ?_) (fun id => fitsH_le hH id) next
  cases dst with
  | none => show Le (E i) (lst l i); rw [hE]; exact Le.refl _
  | some d =>
    show Le (upd E d X i) (upd (lst l) d .u i)
    by_cases e : i = d
    · subst e; rw [upd_same, upd_same]; exact Le.u _
    · rw [upd_other _ _ e, upd_other _ _ e, hE]; exact Le.refl _
theorem fold41 {N : Nat} {w0 : World} {S : Nat → Prop} {gl : GlobOk S w0} {f : FuncId} {R : Ending → World → Prop} {ops : Array Oper} {i : Nat} {rest : List Nat} {k : List Item} {o : Oper} {x0 x1 x2 x3 : Operand}
    (l : List (Nat × AV)) (p : AV) (t : ByteArray) (r opt : Int) (ho : ops.toList[i]? = some o) (hc : calls? o = some (66, [x0, x1, x2, x3])) (hd : okD N o.dst = true) (hr : ready (lst l) ops o = true)
    (hx0 : ev (lst l) x0 = .box 6 0) (hx1 : ev (lst l) x1 = .int .i32 r) (hx2 : ev (lst l) x2 = .int .i64 opt) (hx3 : ev (lst l) x3 = tF.L (stepsF opt)) (hl : cleanL l) (hs : t.size ≤ 100000000000) (hp : p = .nilp ∨ p = .box 6 0) (h0 : 0 ≤ opt) (h1 : opt ≤ 31)
    (next : ∀ p', (p' = .nilp ∨ p' = .box 6 0) → Run ⟨Tryd.prog, TB, tbOk, N, w0, S, gl, f, R⟩ (.inRegion ops rest :: k) (putE (lst l) o.dst .u) (lstH [(6, .box 95 [p', .row 90]), (90, .row 5 1 (t ++ foldR r opt).size (bytesG (t ++ foldR r opt)))])) :
    Run ⟨Tryd.prog, TB, tbOk, N, w0, S, gl, f, R⟩ (.inRegion ops (i :: rest) :: k) (lst l) (lstH [(6, .box 95 [p, .row 90]), (90, .row 5 1 t.size (bytesG t))]) := by
  have hE : scrubE 902 (lst l) = lst l := funext fun i => (cleanL_at hl i).1
  obtain ⟨kk, rfl⟩ : ∃ k : Fin 32, (k.val : Int) = opt := ⟨⟨opt.toNat, by omega⟩, by simp only []; omega⟩
  obtain ⟨e1, e2, e4, e8, e16⟩ := bits32 kk
  refine Run.inline 902 Tryd.f66 _ 70 ho hc Tryd.func66 rfl (by decide) rfl (by show 4 ≤ 70; decide) hd hr (fun a hsz hdf => ?_)
  rw [hE]
  simp only [List.map, hx0, hx1, hx2, hx3]
  refine Run.to [(0, .box 6 0), (1, .int .i32 r), (2, .int .i64 kk.val), (3, tF.L (stepsF kk.val))] [(6, .box 95 [p, .row 90]), (90, .row 5 1 t.size (bytesG t)), (902, .frame a.tmps (lst l))] ⟨Le.refl _, Le.refl _, Le.refl _, Le.refl _, trivial⟩ ⟨by rcases hp with rfl | rfl <;> exact MOle.refl _, MOle.refl _, MOle.refl _, trivial⟩ ?_
  have hfr : MOle (.frame a.tmps (fun i => scrub 35 (lst l i))) (.frame a.tmps (lst l)) := ⟨rfl, fun i => by show Le (scrub 35 (lst l i)) _; rw [(cleanL_at hl i).2.1]; exact Le.refl _⟩
  have hbx : ∀ X Y, MOle (.box 95 [repl 35 X Y p, .row 90]) (.box 95 [p, .row 90]) := fun X Y => by rcases hp with rfl | rfl <;> exact MOle.refl _
  have hrp : ∀ X Y, MOle (.frame a.tmps (fun i => repl 35 X Y (lst l i))) (.frame a.tmps (lst l)) := fun X Y => ⟨rfl, fun i => by show Le (repl 35 X Y (lst l i)) _; rw [(cleanL_at hl i).2.2.2]; exact Le.refl _⟩
  have hp35 : scrub 35 p = p := by rcases hp with rfl | rfl <;> rfl
  apply Run.cutAt (A := fun CC kk' => dropV r kk.val = false → Run CC kk' (lst [(0, .box 6 0), (2, .int .i64 kk.val), (3, tF.L (stepsF kk.val)), (9, .row 35), (37, .int .i32 r)]) (lstH [(6, .box 95 [p, .row 90]), (90, .row 5 1 t.size (bytesG t)), (902, .frame a.tmps (lst l)), (35, tRn.R 21 [r])]))
  · intro HA
    refine Run.go ?_; (conv => whnf); repeat' (first | ((with_reducible refine Know.mk fun _ => ?_); conv => whnf) | ((with_reducible refine Need.mk ?_ ?_); exact nd; conv => whnf) | ((with_reducible first | refine Both.mk ?_ ?_ | refine Any.mk fun b hb => ?_ | refine AskB.dec (fun hb => ?_) (fun hb => ?_) | refine AskB.ndec (fun hb => ?_) (fun hb => ?_) | refine AskB.mk (fun hb => ?_) (fun hb => ?_)) <;> conv => whnf) | ((with_reducible first | refine Run.drawX rfl (by decide +kernel) ?_ | refine Run.drawT rfl (by decide +kernel) ?_ | refine Run.drawW rfl (by decide +kernel) ?_); conv => whnf))
    refine Run.callBX (of_fn r) rfl rfl ⟨Le.refl _, trivial⟩ rfl rfl rfl ?_
    (conv => whnf); repeat' (first | ((with_reducible refine Know.mk fun _ => ?_); conv => whnf) | ((with_reducible refine Need.mk ?_ ?_); exact nd; conv => whnf) | ((with_reducible first | refine Both.mk ?_ ?_ | refine Any.mk fun b hb => ?_ | refine AskB.dec (fun hb => ?_) (fun hb => ?_) | refine AskB.ndec (fun hb => ?_) (fun hb => ?_) | refine AskB.mk (fun hb => ?_) (fun hb => ?_)) <;> conv => whnf) | ((with_reducible first | refine Run.drawX rfl (by decide +kernel) ?_ | refine Run.drawT rfl (by decide +kernel) ?_ | refine Run.drawW rfl (by decide +kernel) ?_); conv => whnf))
    all_goals first
      | (refine Run.back 902 (ts := []) hsz hdf (.inr ⟨_, rfl⟩) (by rfl) Tryd.func66 rfl ?_
         have hemp : t ++ foldR r kk.val = t := by
           unfold foldR
           rw [if_pos (show dropV r kk.val = true from decide_eq_true (by omega))]
           exact ByteArray.append_empty
         rw [hemp] at next
         refine to_next (fun i => rfl) ?_ (next p hp)
         exact ⟨MOle.refl _, MOle.refl _, trivial⟩)
      | (refine Run.to _ _ ?_ ?_ (HA (decide_eq_false (by omega)))
         · exact ⟨Le.refl _, Le.refl _, Le.refl _, Le.refl _, Le.refl _, trivial⟩
         · refine ⟨?_, MOle.refl _, hfr, ⟨rfl, rfl, rfl, fun i j hi hj => ?_⟩, trivial⟩
           · show MOle (.box 95 [scrub 35 p, .row 90]) _
             rw [hp35]; exact MOle.refl _
           · obtain rfl : i = 0 := by have : i < 1 := hi; omega
             obtain rfl : j = 0 := by have : j < 1 := hj; omega
             exact Le.refl _)
  intro hdrop
  apply Run.cutAt (A := fun CC kk' => Run CC kk' (lst [(0, .box 6 0), (3, tF.L (stepsF kk.val)), (49, tRn.L (runesV r kk.val)), (50, .int .i64 (runesV r kk.val).length), (51, .int .i64 0)]) (lstH [(6, .box 95 [p, .row 90]), (90, .row 5 1 t.size (bytesG t)), (902, .frame a.tmps (lst l))]))
  · intro HB
    refine Run.callBX (ligature59_fn r) rfl rfl ⟨Le.refl _, trivial⟩ rfl rfl rfl ?_
    (conv => whnf); repeat' (first | ((with_reducible refine Know.mk fun _ => ?_); conv => whnf) | ((with_reducible refine Need.mk ?_ ?_); exact nd; conv => whnf) | ((with_reducible first | refine Both.mk ?_ ?_ | refine Any.mk fun b hb => ?_ | refine AskB.dec (fun hb => ?_) (fun hb => ?_) | refine AskB.ndec (fun hb => ?_) (fun hb => ?_) | refine AskB.mk (fun hb => ?_) (fun hb => ?_)) <;> conv => whnf) | ((with_reducible first | refine Run.drawX rfl (by decide +kernel) ?_ | refine Run.drawT rfl (by decide +kernel) ?_ | refine Run.drawW rfl (by decide +kernel) ?_); conv => whnf))
    case _ =>
      have hrv : runesV r kk.val = [r] := if_neg (fun h => by omega)
      rw [hrv] at HB
      refine Run.freeze 35 rfl ?_
      refine Run.to _ _ ?_ ?_ HB
      · exact ⟨Le.refl _, Le.refl _, Le.refl _, Le.refl _, Le.refl _, trivial⟩
      · exact ⟨hbx _ _, MOle.refl _, hrp _ _, trivial⟩
    case _ =>
      have hrv : runesV r kk.val = runesE (ligB r) 0 := if_pos (by constructor <;> first | assumption | omega)
      rw [hrv] at HB
      refine Run.toRunes (e := 21) (ligB r) rfl rfl rfl rfl rfl (by have := ligB_size r; omega) (by kernel_rfl) (by kernel_rfl) (by kernel_rfl) ?_
      refine Run.go ?_; (conv => whnf); repeat' (first | ((with_reducible refine Know.mk fun _ => ?_); conv => whnf) | ((with_reducible refine Need.mk ?_ ?_); exact nd; conv => whnf) | ((with_reducible first | refine Both.mk ?_ ?_ | refine Any.mk fun b hb => ?_ | refine AskB.dec (fun hb => ?_) (fun hb => ?_) | refine AskB.ndec (fun hb => ?_) (fun hb => ?_) | refine AskB.mk (fun hb => ?_) (fun hb => ?_)) <;> conv => whnf) | ((with_reducible first | refine Run.drawX rfl (by decide +kernel) ?_ | refine Run.drawT rfl (by decide +kernel) ?_ | refine Run.drawW rfl (by decide +kernel) ?_); conv => whnf))
      refine Run.to _ _ ?_ ?_ HB
      · exact ⟨Le.refl _, Le.refl _, Le.refl _, Le.refl _, Le.refl _, trivial⟩
      · exact ⟨MOle.refl _, MOle.refl _, MOle.refl _, trivial⟩
    case _ =>
      have hrv : runesV r kk.val = [r] := if_neg (fun h => by rw [hb] at h; exact Bool.noConfusion h.1)
      rw [hrv] at HB
      refine Run.freeze 35 rfl ?_
      refine Run.to _ _ ?_ ?_ HB
      · exact ⟨Le.refl _, Le.refl _, Le.refl _, Le.refl _, Le.refl _, trivial⟩
      · exact ⟨hbx _ _, MOle.refl _, hrp _ _, trivial⟩
  have hlen := runesV_len r kk.val
  have hfold : foldR r kk.val = catE kk.val (runesV r kk.val) := by unfold foldR; rw [hdrop]; rfl
  rw [hfold] at next
  generalize runesV r kk.val = rs at hlen next ⊢
  have hT : ∀ j, (t ++ catE kk.val (rs.take j)).size ≤ 100000000012 := fun j => by
    have h1 := catE_size kk.val (rs.take j)
    have h2 : (rs.take j).length ≤ 3 := by rw [List.length_take]; omega
    rw [ByteArray.size_append]; omega
  refine Run.loop [0, 3, 49, 50] (fun (a : Nat × AV) => [(51, .int .i64 (a.1 : Int))]) (fun b => [(6, .box 95 [b.2, .row 90]), (90, .row 5 1 (t ++ catE kk.val (rs.take b.1)).size (bytesG (t ++ catE kk.val (rs.take b.1)))), (902, .frame a.tmps (lst l))]) (fun a => a.1 ≤ rs.length ∧ (a.2 = .nilp ∨ a.2 = .box 6 0)) (fun a => rs.length - a.1) (0, p) ⟨Nat.zero_le _, hp⟩ ⟨Le.refl _, trivial⟩ ⟨MOle.refl _, ?_, MOle.refl _, trivial⟩ ?_
  · simp only [List.take_zero, catE]
    rw [ByteArray.append_empty]; exact MOle.refl _
  have hwf : MOle (.frame a.tmps (fun i => scrW 90 (lst l i))) (.frame a.tmps (lst l)) := ⟨rfl, fun i => by show Le (scrW 90 (lst l i)) _; rw [(cleanL_at hl i).2.2.1]; exact Le.refl _⟩
  have hfl := stepsF_len kk.val
  have hfm : ∀ m, m < (stepsF kk.val).length → (stepsF kk.val).getD m 81 = 81 ∨ (stepsF kk.val).getD m 81 = 82 ∨ (stepsF kk.val).getD m 81 = 83 := fun m hm => stepsF_mem (by rw [List.getD, List.getElem?_eq_getElem hm]; exact List.getElem_mem hm)
  have hsv : ∀ x, stepV kk.val x = appL ((stepsF kk.val).take (stepsF kk.val).length) x := fun x => by rw [List.take_length]; rfl
  intro ⟨j, p2⟩ ⟨hj, hp2⟩ IH
  simp only [] at hj hp2 ⊢
  have hwj : IntKind.i64.wrap ((j : Int) + 1) = ((j + 1 : Nat) : Int) := wrap64 (by omega) (by omega)
  have hTj := hT j
  refine Run.go ?_; (conv => whnf); repeat' (first | ((with_reducible refine Know.mk fun _ => ?_); conv => whnf) | ((with_reducible refine Need.mk ?_ ?_); exact nd; conv => whnf) | ((with_reducible first | refine Both.mk ?_ ?_ | refine Any.mk fun b hb => ?_ | refine AskB.dec (fun hb => ?_) (fun hb => ?_) | refine AskB.ndec (fun hb => ?_) (fun hb => ?_) | refine AskB.mk (fun hb => ?_) (fun hb => ?_)) <;> conv => whnf) | ((with_reducible first | refine Run.drawX rfl (by decide +kernel) ?_ | refine Run.drawT rfl (by decide +kernel) ?_ | refine Run.drawW rfl (by decide +kernel) ?_); conv => whnf))
  · have hjl : j < rs.length := by omega
    refine Run.loop [0, 3, 49, 50, 51, 55, 56] (fun (m : Nat) => [(13, .int .i32 (appL ((stepsF kk.val).take m) (rs.getD j 0))), (57, .int .i64 m)]) (fun _ => [(6, .box 95 [p2, .row 90]), (90, .row 5 1 (t ++ catE kk.val (rs.take j)).size (bytesG (t ++ catE kk.val (rs.take j)))), (902, .frame a.tmps (lst l))]) (fun m => m ≤ (stepsF kk.val).length) (fun m => (stepsF kk.val).length - m) 0 (Nat.zero_le _) ⟨Le.refl _, Le.refl _, trivial⟩ ⟨MOle.refl _, MOle.refl _, MOle.refl _, trivial⟩ ?_
    intro m hm IHm
    have hwm : IntKind.i64.wrap ((m : Int) + 1) = ((m + 1 : Nat) : Int) := wrap64 (by omega) (by omega)
    refine Run.go ?_; (conv => whnf); repeat' (first | ((with_reducible refine Know.mk fun _ => ?_); conv => whnf) | ((with_reducible refine Need.mk ?_ ?_); exact nd; conv => whnf) | ((with_reducible first | refine Both.mk ?_ ?_ | refine Any.mk fun b hb => ?_ | refine AskB.dec (fun hb => ?_) (fun hb => ?_) | refine AskB.ndec (fun hb => ?_) (fun hb => ?_) | refine AskB.mk (fun hb => ?_) (fun hb => ?_)) <;> conv => whnf) | ((with_reducible first | refine Run.drawX rfl (by decide +kernel) ?_ | refine Run.drawT rfl (by decide +kernel) ?_ | refine Run.drawW rfl (by decide +kernel) ?_); conv => whnf))
    · have hml : m < (stepsF kk.val).length := by omega
      refine Run.callV (stepFn (appL ((stepsF kk.val).take m) (rs.getD j 0)) (hfm m hml)) rfl rfl rfl rfl ⟨Le.refl _, trivial⟩ rfl rfl rfl ?_
      refine Run.go ?_; (conv => whnf); repeat' (first | ((with_reducible refine Know.mk fun _ => ?_); conv => whnf) | ((with_reducible refine Need.mk ?_ ?_); exact nd; conv => whnf) | ((with_reducible first | refine Both.mk ?_ ?_ | refine Any.mk fun b hb => ?_ | refine AskB.dec (fun hb => ?_) (fun hb => ?_) | refine AskB.ndec (fun hb => ?_) (fun hb => ?_) | refine AskB.mk (fun hb => ?_) (fun hb => ?_)) <;> conv => whnf) | ((with_reducible first | refine Run.drawX rfl (by decide +kernel) ?_ | refine Run.drawT rfl (by decide +kernel) ?_ | refine Run.drawW rfl (by decide +kernel) ?_); conv => whnf))
      refine Run.to _ _ ?_ ?_ (IHm (m + 1) (by omega) (by omega))
      · exact ⟨Le.refl _, Le.refl _, Le.refl _, Le.refl _, Le.refl _, Le.refl _, Le.refl _, Le.int (appL_take _ _ m hml).symm, Le.int hwm, trivial⟩
      · exact ⟨MOle.refl _, MOle.refl _, MOle.refl _, trivial⟩
    · obtain rfl : m = (stepsF kk.val).length := by omega
      refine Run.bldr 95 5 6 90 p2 (t ++ catE kk.val (rs.take j)) (MOle.refl _) (MOle.refl _) ?_
      refine ws6 p2 _ (Utf8.encode (stepV kk.val (rs.getD j 0))) rfl rfl rfl rfl rfl ?_ ?_ hp2 ?_
      · rw [hsv]; rfl
      · have := encode_small (stepV kk.val (rs.getD j 0)); omega
      refine Run.go ?_; (conv => whnf); repeat' (first | ((with_reducible refine Know.mk fun _ => ?_); conv => whnf) | ((with_reducible refine Need.mk ?_ ?_); exact nd; conv => whnf) | ((with_reducible first | refine Both.mk ?_ ?_ | refine Any.mk fun b hb => ?_ | refine AskB.dec (fun hb => ?_) (fun hb => ?_) | refine AskB.ndec (fun hb => ?_) (fun hb => ?_) | refine AskB.mk (fun hb => ?_) (fun hb => ?_)) <;> conv => whnf) | ((with_reducible first | refine Run.drawX rfl (by decide +kernel) ?_ | refine Run.drawT rfl (by decide +kernel) ?_ | refine Run.drawW rfl (by decide +kernel) ?_); conv => whnf))
      refine Run.to _ _ ?_ ?_ (IH (j + 1, .box 6 0) (by simp only []; omega) ⟨by simp only []; omega, .inr rfl⟩)
      · exact ⟨Le.refl _, Le.refl _, Le.refl _, Le.refl _, Le.int hwj, trivial⟩
      · refine ⟨MOle.refl _, ?_, hwf, trivial⟩
        simp only []
        rw [catE_take _ _ _ hjl, ← ByteArray.append_assoc]
        exact MOle.refl _
  · obtain rfl : j = rs.length := by omega
    rw [List.take_length]
    refine Run.back 902 (ts := []) hsz hdf (.inl rfl) (by rfl) Tryd.func66 rfl ?_
    refine to_next (fun i => rfl) ?_ (next p2 hp2)
    exact ⟨MOle.refl _, MOle.refl _, trivial⟩
end Go.Proofs.YtnadacaoehpdnaaDoor.V

namespace Go.Proofs.YtnadacaoehpdnaaDoor.V
set_option linter.unusedVariables false
set_option linter.unusedSimpArgs false
open Go Go.Proofs Go.RowKit
set_option maxRecDepth 100000
set_option maxHeartbeats 4000000
open Go Go.Proofs Go.Proofs.YtnadacaoehpdnaaDoor.V
theorem wb6 {N : Nat} {w0 : World} {S : Nat → Prop} {gl : GlobOk S w0} {f : FuncId} {R : Ending → World → Prop} {ops : Array Oper} {i : Nat} {rest : List Nat} {k : List Item} {env : Env} {h : Heap} {o : Oper} {x y : Operand}
    (p : AV) (t : ByteArray) (u : UInt8) (ho : ops.toList[i]? = some o) (hc : calls? o = some (48, [x, y])) (hd : okD N o.dst = true) (hr : ready env ops o = true) (hx : ev (scrubE 900 env) x = .box 6 0) (hy : ev (scrubE 900 env) y = .int .u8 (u.toNat : Int))
    (hs : t.size + 1 ≤ 34359738368) (hp : p = .nilp ∨ p = .box 6 0)
    (next : Run ⟨Tryd.prog, TB, tbOk, N, w0, S, gl, f, R⟩ (.inRegion ops rest :: k) (putE (envB 90 env) o.dst .u) (bldr 95 5 6 90 (heapB 90 h) (.box 6 0) (t ++ ⟨#[u]⟩))) :
    Run ⟨Tryd.prog, TB, tbOk, N, w0, S, gl, f, R⟩ (.inRegion ops (i :: rest) :: k) env (bldr 95 5 6 90 h p t) := by
  refine Run.inline 900 Tryd.f48 _ 17 ho hc Tryd.func48 rfl (by decide) rfl (by show 2 ≤ 17; decide) hd hr (fun a hsz hdf => ?_)
  simp only [List.map, hx, hy]
  have fin : ∀ (E : Env) (H : Heap) (X : AV), (∀ i, E i = scrub 14 (scrub 13 (scrub 901 (scrub 900 (env i))))) → (∀ id, Nat.beq id 6 = false → Nat.beq id 90 = false → Nat.beq id 14 = false → Nat.beq id 13 = false → Nat.beq id 901 = false → Nat.beq id 900 = false → H id = scrubM 90 (scrubM 14 (scrubM 13 (scrubM 901 (scrubM 900 (h id)))))) →
      MOle (H 6) (.box 95 [.box 6 0, .row 90]) → MOle (H 90) (.row 5 1 (t ++ ⟨#[u]⟩).size (bytesG (t ++ ⟨#[u]⟩))) → Run ⟨Tryd.prog, TB, tbOk, N, w0, S, gl, f, R⟩ (.inRegion ops rest :: k) (scrubE 90 (putE E o.dst X)) H := by
    intro E H X hE hH h5 h90
    refine Run.weaken (fun i => ?_) (fun id => ?_) next
    · cases hdst : o.dst with
      | none => show Le (scrub 90 (E i)) _; rw [hE]; exact Le.refl _
      | some d =>
        show Le (scrub 90 (upd E d X i)) (upd (envB 90 env) d .u i)
        by_cases e : i = d
        · subst e; rw [upd_same, upd_same]; exact Le.u _
        · rw [upd_other _ _ e, upd_other _ _ e, hE]; exact Le.refl _
    · unfold bldr heapB
      cases e5 : Nat.beq id 6 with
      | true => have := Nat.eq_of_beq_eq_true e5; subst this; exact h5
      | false =>
      cases e90 : Nat.beq id 90 with
      | true => have := Nat.eq_of_beq_eq_true e90; subst this; exact h90
      | false =>
      cases e900 : Nat.beq id 900 with
      | true => simp only [upd, e5, e90, e900, cond_true, cond_false]; exact mole_dead _
      | false =>
      cases e901 : Nat.beq id 901 with
      | true => simp only [upd, e5, e90, e900, e901, cond_true, cond_false]; exact mole_dead _
      | false =>
      cases e13 : Nat.beq id 13 with
      | true => simp only [upd, e5, e90, e900, e901, e13, cond_true, cond_false]; exact mole_dead _
      | false =>
      cases e14 : Nat.beq id 14 with
      | true => simp only [upd, e5, e90, e900, e901, e13, e14, cond_true, cond_false]; exact mole_dead _
      | false =>
        rw [hH id e5 e90 e14 e13 e901 e900]
        simp only [upd, e5, e90, e900, e901, e13, e14, cond_true, cond_false]
        exact MOle.refl _
  rcases hp with rfl | rfl
  · refine Run.go ?_; (conv => whnf); repeat' (first | ((with_reducible refine Know.mk fun _ => ?_); conv => whnf) | ((with_reducible refine Need.mk ?_ ?_); exact nd; conv => whnf) | ((with_reducible first | refine Both.mk ?_ ?_ | refine Any.mk fun b hb => ?_ | refine AskB.dec (fun hb => ?_) (fun hb => ?_) | refine AskB.ndec (fun hb => ?_) (fun hb => ?_) | refine AskB.mk (fun hb => ?_) (fun hb => ?_)) <;> conv => whnf) | ((with_reducible first | refine Run.drawX rfl (by decide +kernel) ?_ | refine Run.drawT rfl (by decide +kernel) ?_ | refine Run.drawW rfl (by decide +kernel) ?_); conv => whnf))
    refine Run.inline 901 Tryd.f61 _ 20 rfl rfl Tryd.func61 rfl (by decide) rfl (by decide) rfl rfl (fun a2 hsz2 hdf2 => ?_)
    refine Run.go ?_; (conv => whnf); repeat' (first | ((with_reducible refine Know.mk fun _ => ?_); conv => whnf) | ((with_reducible refine Need.mk ?_ ?_); exact nd; conv => whnf) | ((with_reducible first | refine Both.mk ?_ ?_ | refine Any.mk fun b hb => ?_ | refine AskB.dec (fun hb => ?_) (fun hb => ?_) | refine AskB.ndec (fun hb => ?_) (fun hb => ?_) | refine AskB.mk (fun hb => ?_) (fun hb => ?_)) <;> conv => whnf) | ((with_reducible first | refine Run.drawX rfl (by decide +kernel) ?_ | refine Run.drawT rfl (by decide +kernel) ?_ | refine Run.drawW rfl (by decide +kernel) ?_); conv => whnf))
    refine Run.toUnsafe (id := 6) (l := [.nilp, .row 90]) (e := 95) (t := 95) (src := 92) (dst := 136) (x := .tmp 8) rfl rfl rfl rfl rfl rfl (by decide) (by kernel_rfl) (by kernel_rfl) (j := (Tryd.prog.info? 95).get (by kernel_rfl)) (by kernel_rfl) (by decide +kernel) ?_
    refine Run.noEscape (f := 79) (x := .tmp 9) rfl rfl rfl rfl Tryd.func79 (by kernel_rfl) (by kernel_rfl) (by kernel_rfl) (by kernel_rfl) ?_
    refine Run.fromUnsafe (id := 6) (l := [.nilp, .row 90]) (e := 95) (u := 95) (src := 136) (dst := 92) (x := .tmp 10) rfl rfl rfl rfl rfl rfl (by kernel_rfl) (by kernel_rfl) (j := (Tryd.prog.info? 95).get (by kernel_rfl)) (by kernel_rfl) (by kernel_rfl) ?_
    refine Run.go ?_; (conv => whnf); repeat' (first | ((with_reducible refine Know.mk fun _ => ?_); conv => whnf) | ((with_reducible refine Need.mk ?_ ?_); exact nd; conv => whnf) | ((with_reducible first | refine Both.mk ?_ ?_ | refine Any.mk fun b hb => ?_ | refine AskB.dec (fun hb => ?_) (fun hb => ?_) | refine AskB.ndec (fun hb => ?_) (fun hb => ?_) | refine AskB.mk (fun hb => ?_) (fun hb => ?_)) <;> conv => whnf) | ((with_reducible first | refine Run.drawX rfl (by decide +kernel) ?_ | refine Run.drawT rfl (by decide +kernel) ?_ | refine Run.drawW rfl (by decide +kernel) ?_); conv => whnf))
    refine Run.back 901 (ts := []) hsz2 hdf2 (.inl rfl) (by rfl) Tryd.func61 rfl ?_
    refine Run.go ?_; (conv => whnf); repeat' (first | ((with_reducible refine Know.mk fun _ => ?_); conv => whnf) | ((with_reducible refine Need.mk ?_ ?_); exact nd; conv => whnf) | ((with_reducible first | refine Both.mk ?_ ?_ | refine Any.mk fun b hb => ?_ | refine AskB.dec (fun hb => ?_) (fun hb => ?_) | refine AskB.ndec (fun hb => ?_) (fun hb => ?_) | refine AskB.mk (fun hb => ?_) (fun hb => ?_)) <;> conv => whnf) | ((with_reducible first | refine Run.drawX rfl (by decide +kernel) ?_ | refine Run.drawT rfl (by decide +kernel) ?_ | refine Run.drawW rfl (by decide +kernel) ?_); conv => whnf))
    refine Run.back 900 (ts := [4]) hsz hdf (.inr ⟨_, rfl⟩) (by rfl) Tryd.func48 rfl ?_
    refine Run.holdBoxRow 6 1 90 14 (by rfl) (by rfl) (by rfl) rfl rfl rfl ?_
    refine fin _ _ _ (fun i => rfl) (fun id e5 e90 e14 e13 e901 e900 => ?_) (MOle.refl _) (bytesG_push 5 t u _ rfl)
    simp only [upd, scrubH, scrubM, bldr, e5, e90, e14, e13, e901, e900, cond_false]
  · refine Run.go ?_; (conv => whnf); repeat' (first | ((with_reducible refine Know.mk fun _ => ?_); conv => whnf) | ((with_reducible refine Need.mk ?_ ?_); exact nd; conv => whnf) | ((with_reducible first | refine Both.mk ?_ ?_ | refine Any.mk fun b hb => ?_ | refine AskB.dec (fun hb => ?_) (fun hb => ?_) | refine AskB.ndec (fun hb => ?_) (fun hb => ?_) | refine AskB.mk (fun hb => ?_) (fun hb => ?_)) <;> conv => whnf) | ((with_reducible first | refine Run.drawX rfl (by decide +kernel) ?_ | refine Run.drawT rfl (by decide +kernel) ?_ | refine Run.drawW rfl (by decide +kernel) ?_); conv => whnf))
    refine Run.inline 901 Tryd.f61 _ 20 rfl rfl Tryd.func61 rfl (by decide) rfl (by decide) rfl rfl (fun a2 hsz2 hdf2 => ?_)
    refine Run.go ?_; (conv => whnf); repeat' (first | ((with_reducible refine Know.mk fun _ => ?_); conv => whnf) | ((with_reducible refine Need.mk ?_ ?_); exact nd; conv => whnf) | ((with_reducible first | refine Both.mk ?_ ?_ | refine Any.mk fun b hb => ?_ | refine AskB.dec (fun hb => ?_) (fun hb => ?_) | refine AskB.ndec (fun hb => ?_) (fun hb => ?_) | refine AskB.mk (fun hb => ?_) (fun hb => ?_)) <;> conv => whnf) | ((with_reducible first | refine Run.drawX rfl (by decide +kernel) ?_ | refine Run.drawT rfl (by decide +kernel) ?_ | refine Run.drawW rfl (by decide +kernel) ?_); conv => whnf))
    refine Run.back 901 (ts := []) hsz2 hdf2 (.inl rfl) (by rfl) Tryd.func61 rfl ?_
    refine Run.go ?_; (conv => whnf); repeat' (first | ((with_reducible refine Know.mk fun _ => ?_); conv => whnf) | ((with_reducible refine Need.mk ?_ ?_); exact nd; conv => whnf) | ((with_reducible first | refine Both.mk ?_ ?_ | refine Any.mk fun b hb => ?_ | refine AskB.dec (fun hb => ?_) (fun hb => ?_) | refine AskB.ndec (fun hb => ?_) (fun hb => ?_) | refine AskB.mk (fun hb => ?_) (fun hb => ?_)) <;> conv => whnf) | ((with_reducible first | refine Run.drawX rfl (by decide +kernel) ?_ | refine Run.drawT rfl (by decide +kernel) ?_ | refine Run.drawW rfl (by decide +kernel) ?_); conv => whnf))
    refine Run.back 900 (ts := [4]) hsz hdf (.inr ⟨_, rfl⟩) (by rfl) Tryd.func48 rfl ?_
    refine Run.holdBoxRow 6 1 90 14 (by rfl) (by rfl) (by rfl) rfl rfl rfl ?_
    refine fin _ _ _ (fun i => rfl) (fun id e5 e90 e14 e13 e901 e900 => ?_) (MOle.refl _) (bytesG_push 5 t u _ rfl)
    simp only [upd, scrubH, scrubM, bldr, e5, e90, e14, e13, e901, e900, cond_false]

theorem bs6 {N : Nat} {w0 : World} {S : Nat → Prop} {gl : GlobOk S w0} {f : FuncId} {R : Ending → World → Prop} {ops : Array Oper} {i : Nat} {rest : List Nat} {k : List Item} {env : Env} {h : Heap} {o : Oper} {x : Operand}
    (p : AV) (t : ByteArray) (ho : ops.toList[i]? = some o) (hc : calls? o = some (49, [x])) (hd : okD N o.dst = true) (hr : ready env ops o = true) (hx : ev (scrubE 900 env) x = .box 6 0)
    (next : Run ⟨Tryd.prog, TB, tbOk, N, w0, S, gl, f, R⟩ (.inRegion ops rest :: k) (putE (scrubE 900 env) o.dst (.str t)) (upd (upd (upd (scrubH 900 h) 900 .dead) 6 .dead) 90 .dead)) :
    Run ⟨Tryd.prog, TB, tbOk, N, w0, S, gl, f, R⟩ (.inRegion ops (i :: rest) :: k) env (bldr 95 5 6 90 h p t) := by
  refine Run.inline 900 Tryd.f49 _ 14 ho hc Tryd.func49 rfl (by decide) rfl (by show 1 ≤ 14; decide) hd hr (fun a hsz hdf => ?_)
  simp only [List.map, hx]
  have fin : ∀ (H : Heap), (∀ id, Nat.beq id 6 = false → Nat.beq id 90 = false → Nat.beq id 900 = false → H id = scrubM 900 (h id)) →
      Run ⟨Tryd.prog, TB, tbOk, N, w0, S, gl, f, R⟩ (.inRegion ops rest :: k) (putE (scrubE 900 env) o.dst (.str t)) H := by
    intro H hH
    refine Run.weaken (fun i => Le.refl _) (fun id => ?_) next
    cases e5 : Nat.beq id 6 with
    | true => simp only [upd, e5, cond_true, cond_false]; cases Nat.beq id 90 <;> exact mole_dead _
    | false =>
    cases e90 : Nat.beq id 90 with
    | true => simp only [upd, e5, e90, cond_true, cond_false]; exact mole_dead _
    | false =>
    cases e900 : Nat.beq id 900 with
    | true => simp only [upd, e5, e90, e900, cond_true, cond_false]; exact mole_dead _
    | false =>
      rw [hH id e5 e90 e900]
      simp only [upd, e5, e90, e900, cond_true, cond_false]
      exact MOle.refl _
  refine Run.go ?_; (conv => whnf); repeat' (first | ((with_reducible refine Know.mk fun _ => ?_); conv => whnf) | ((with_reducible refine Need.mk ?_ ?_); exact nd; conv => whnf) | ((with_reducible first | refine Both.mk ?_ ?_ | refine Any.mk fun b hb => ?_ | refine AskB.dec (fun hb => ?_) (fun hb => ?_) | refine AskB.ndec (fun hb => ?_) (fun hb => ?_) | refine AskB.mk (fun hb => ?_) (fun hb => ?_)) <;> conv => whnf) | ((with_reducible first | refine Run.drawX rfl (by decide +kernel) ?_ | refine Run.drawT rfl (by decide +kernel) ?_ | refine Run.drawW rfl (by decide +kernel) ?_); conv => whnf))
  · refine Run.unsafeString0 (i := 10) (rest := [11]) (k := [.code .ret]) (x := .tmp 7) (y := .tmp 12) (c := ⟨.builtin .unsafeString, #[.tmp 7, .tmp 12], #[113, 3]⟩) rfl rfl rfl rfl rfl rfl rfl (.inl rfl) (by show AV.int .i64 (t.size : Int) = _; rw [hb]; rfl) ?_
    have ht : t = .empty := by simpa using hb
    refine Run.go ?_; (conv => whnf); repeat' (first | ((with_reducible refine Know.mk fun _ => ?_); conv => whnf) | ((with_reducible refine Need.mk ?_ ?_); exact nd; conv => whnf) | ((with_reducible first | refine Both.mk ?_ ?_ | refine Any.mk fun b hb => ?_ | refine AskB.dec (fun hb => ?_) (fun hb => ?_) | refine AskB.ndec (fun hb => ?_) (fun hb => ?_) | refine AskB.mk (fun hb => ?_) (fun hb => ?_)) <;> conv => whnf) | ((with_reducible first | refine Run.drawX rfl (by decide +kernel) ?_ | refine Run.drawT rfl (by decide +kernel) ?_ | refine Run.drawW rfl (by decide +kernel) ?_); conv => whnf))
    refine Run.back 900 (ts := [2]) hsz hdf (.inr ⟨_, rfl⟩) (by rfl) Tryd.func49 rfl ?_
    rw [ht] at fin next ⊢
    exact fin _ (fun id e5 e90 e900 => by simp only [upd, scrubH, bldr, e5, e90, e900, cond_false])
  · refine Run.unsafeString (i := 10) (rest := [11]) (k := [.code .ret]) (x := .tmp 7) (y := .tmp 12) (c := ⟨.builtin .unsafeString, #[.tmp 7, .tmp 12], #[113, 3]⟩) t rfl rfl rfl rfl rfl rfl rfl rfl rfl (e := 5) (n := t.size) (q := 90) (get := bytesG t) rfl rfl hb (fun _ _ => rfl) (by kernel_rfl) (by kernel_rfl) ?_
    refine Run.go ?_; (conv => whnf); repeat' (first | ((with_reducible refine Know.mk fun _ => ?_); conv => whnf) | ((with_reducible refine Need.mk ?_ ?_); exact nd; conv => whnf) | ((with_reducible first | refine Both.mk ?_ ?_ | refine Any.mk fun b hb => ?_ | refine AskB.dec (fun hb => ?_) (fun hb => ?_) | refine AskB.ndec (fun hb => ?_) (fun hb => ?_) | refine AskB.mk (fun hb => ?_) (fun hb => ?_)) <;> conv => whnf) | ((with_reducible first | refine Run.drawX rfl (by decide +kernel) ?_ | refine Run.drawT rfl (by decide +kernel) ?_ | refine Run.drawW rfl (by decide +kernel) ?_); conv => whnf))
    refine Run.back 900 (ts := [2]) hsz hdf (.inr ⟨_, rfl⟩) (by rfl) Tryd.func49 rfl ?_
    exact fin _ (fun id e5 e90 e900 => by simp only [upd, scrubH, bldr, e5, e90, e900, cond_false])

/-- What a cell becomes. -/
def cellF (o : Int) (c : Cel) : ByteArray := if c.bad = true then ⟨#[UInt8.ofNat c.byte.toNat]⟩ else foldR c.r o
def catC (o : Int) : List Cel → ByteArray
  | [] => .empty
  | c :: r => cellF o c ++ catC o r
theorem catC_app (o : Int) : ∀ a b : List Cel, catC o (a ++ b) = catC o a ++ catC o b
  | [], b => by simp [catC]
  | x :: a, b => by simp only [List.cons_append, catC]; rw [catC_app o a b, ByteArray.append_assoc]
theorem catC_take (o : Int) (l : List Cel) (j : Nat) (h : j < l.length) : catC o (l.take (j + 1)) = catC o (l.take j) ++ cellF o (l.getD j tCel.z) := by
  rw [List.take_succ_eq_append_getElem h, catC_app, List.getD, List.getElem?_eq_getElem h]; simp [catC]
theorem cellF_size (o : Int) (c : Cel) : (cellF o c).size ≤ 12 := by
  unfold cellF
  split
  · exact Nat.le_of_ble_eq_true rfl
  · exact foldR_size _ _
theorem catC_size (o : Int) : ∀ l : List Cel, (catC o l).size ≤ 12 * l.length
  | [] => by simp [catC]
  | x :: r => by
    have h1 := catC_size o r
    have h2 := cellF_size o x
    simp only [catC, ByteArray.size_append, List.length_cons]; omega
/-- What a text becomes. -/
def textF (s : ByteArray) (o : Int) : ByteArray := catC o (cells s 0)
def badO (o : Int) : Prop := o < 0 ∨ 31 < o
instance (o : Int) : Decidable (badO o) := by unfold badO; infer_instance
def textL (s : ByteArray) (o : Int) : AV := tupL [.str (if badO o then .empty else textF s o), .int .i64 (if badO o then 2 else 0)]
theorem cell_byte (s : ByteArray) (p : Nat) : ∀ c ∈ cells s p, ((UInt8.ofNat c.byte.toNat).toNat : Int) = c.byte := by
  intro c hc
  by_cases h : p < s.size
  · have hw := Lib.width_pos s p
    rw [cells_in h] at hc
    rcases List.mem_cons.mp hc with rfl | hc
    · unfold cellAt
      split
      · have := bt_lt s p
        simp only [UInt8.toNat_ofNat']
        omega
      · rfl
    · exact cell_byte s (p + (Utf8.decode s p).2) c hc
  · rw [cells_out h] at hc; cases hc
termination_by s.size - p
theorem text26_fn (s : ByteArray) (o : Int) (hs : s.size ≤ 134217728) : Fn Tryd.prog 51 [.str s, .int .i64 o] (textL s o) := by
  refine Fn.of Tryd.f51 _ Tryd.func51 rfl (by decide) (by show 2 ≤ _; decide) tbOk 33 rfl fun S w0 gl => ?_
  refine Run.go ?_; (conv => whnf); repeat' (first | ((with_reducible refine Know.mk fun _ => ?_); conv => whnf) | ((with_reducible refine Need.mk ?_ ?_); exact nd; conv => whnf) | ((with_reducible first | refine Both.mk ?_ ?_ | refine Any.mk fun b hb => ?_ | refine AskB.dec (fun hb => ?_) (fun hb => ?_) | refine AskB.ndec (fun hb => ?_) (fun hb => ?_) | refine AskB.mk (fun hb => ?_) (fun hb => ?_)) <;> conv => whnf) | ((with_reducible first | refine Run.drawX rfl (by decide +kernel) ?_ | refine Run.drawT rfl (by decide +kernel) ?_ | refine Run.drawW rfl (by decide +kernel) ?_); conv => whnf))
  refine Run.callBX (wrong37_fn o) rfl rfl ⟨Le.refl _, trivial⟩ rfl rfl rfl ?_
  (conv => whnf); repeat' (first | ((with_reducible refine Know.mk fun _ => ?_); conv => whnf) | ((with_reducible refine Need.mk ?_ ?_); exact nd; conv => whnf) | ((with_reducible first | refine Both.mk ?_ ?_ | refine Any.mk fun b hb => ?_ | refine AskB.dec (fun hb => ?_) (fun hb => ?_) | refine AskB.ndec (fun hb => ?_) (fun hb => ?_) | refine AskB.mk (fun hb => ?_) (fun hb => ?_)) <;> conv => whnf) | ((with_reducible first | refine Run.drawX rfl (by decide +kernel) ?_ | refine Run.drawT rfl (by decide +kernel) ?_ | refine Run.drawW rfl (by decide +kernel) ?_); conv => whnf))
  · have hbad : badO o := hb
    unfold textL
    rw [if_pos hbad, if_pos hbad]
    exact Run.leave (ts := [4,5]) (.inr ⟨_, rfl⟩) rfl Tryd.func51 rfl (resT ⟨Le.refl _, Le.refl _, trivial⟩)
  have hok : ¬ badO o := hb
  unfold textL
  rw [if_neg hok, if_neg hok]
  have ho : 0 ≤ o ∧ o ≤ 31 := by unfold badO at hok; omega
  refine Run.callBX (steps38_fn o ho.1 ho.2) rfl rfl ⟨Le.refl _, trivial⟩ rfl rfl rfl ?_
  (conv => whnf); repeat' (first | ((with_reducible refine Know.mk fun _ => ?_); conv => whnf) | ((with_reducible refine Need.mk ?_ ?_); exact nd; conv => whnf) | ((with_reducible first | refine Both.mk ?_ ?_ | refine Any.mk fun b hb => ?_ | refine AskB.dec (fun hb => ?_) (fun hb => ?_) | refine AskB.ndec (fun hb => ?_) (fun hb => ?_) | refine AskB.mk (fun hb => ?_) (fun hb => ?_)) <;> conv => whnf) | ((with_reducible first | refine Run.drawX rfl (by decide +kernel) ?_ | refine Run.drawT rfl (by decide +kernel) ?_ | refine Run.drawW rfl (by decide +kernel) ?_); conv => whnf))
  refine Run.callBX (cells_fn s hs) rfl rfl ⟨Le.refl _, trivial⟩ rfl rfl rfl ?_
  (conv => whnf); repeat' (first | ((with_reducible refine Know.mk fun _ => ?_); conv => whnf) | ((with_reducible refine Need.mk ?_ ?_); exact nd; conv => whnf) | ((with_reducible first | refine Both.mk ?_ ?_ | refine Any.mk fun b hb => ?_ | refine AskB.dec (fun hb => ?_) (fun hb => ?_) | refine AskB.ndec (fun hb => ?_) (fun hb => ?_) | refine AskB.mk (fun hb => ?_) (fun hb => ?_)) <;> conv => whnf) | ((with_reducible first | refine Run.drawX rfl (by decide +kernel) ?_ | refine Run.drawT rfl (by decide +kernel) ?_ | refine Run.drawW rfl (by decide +kernel) ?_); conv => whnf))
  refine Run.holdBoxNil 6 1 90 5 1 (bytesG .empty) rfl rfl rfl rfl ?_
  have hcl := cells_len s 0
  have hT : ∀ j, (catC o ((cells s 0).take j)).size ≤ 2000000000 := fun j => by
    have h1 := catC_size o ((cells s 0).take j)
    have h2 : ((cells s 0).take j).length ≤ (cells s 0).length := by rw [List.length_take]; omega
    omega
  have hby := cell_byte s 0
  unfold textF
  generalize cells s 0 = L at hcl hT hby ⊢
  refine Run.loop [1, 6, 7, 15, 16] (fun (a : Nat × AV) => [(17, .int .i64 (a.1 : Int))]) (fun b => [(6, .box 95 [b.2, .row 90]), (90, .row 5 1 (catC o (L.take b.1)).size (bytesG (catC o (L.take b.1))))]) (fun a => a.1 ≤ L.length ∧ (a.2 = .nilp ∨ a.2 = .box 6 0)) (fun a => L.length - a.1) (0, .nilp) ⟨Nat.zero_le _, .inl rfl⟩ ⟨Le.refl _, trivial⟩ ⟨MOle.refl _, MOle.refl _, trivial⟩ ?_
  intro ⟨j, p⟩ ⟨hj, hp⟩ IH
  simp only [] at hj hp ⊢
  have hwj : IntKind.i64.wrap ((j : Int) + 1) = ((j + 1 : Nat) : Int) := wrap64 (by omega) (by omega)
  have hTj := hT j
  refine Run.go ?_; (conv => whnf); repeat' (first | ((with_reducible refine Know.mk fun _ => ?_); conv => whnf) | ((with_reducible refine Need.mk ?_ ?_); exact nd; conv => whnf) | ((with_reducible first | refine Both.mk ?_ ?_ | refine Any.mk fun b hb => ?_ | refine AskB.dec (fun hb => ?_) (fun hb => ?_) | refine AskB.ndec (fun hb => ?_) (fun hb => ?_) | refine AskB.mk (fun hb => ?_) (fun hb => ?_)) <;> conv => whnf) | ((with_reducible first | refine Run.drawX rfl (by decide +kernel) ?_ | refine Run.drawT rfl (by decide +kernel) ?_ | refine Run.drawW rfl (by decide +kernel) ?_); conv => whnf))
  case _ =>
    have hjl : j < L.length := by omega
    have hb2 : (L.getD j tCel.z).bad = true := hb
    have hcf : cellF o (L.getD j tCel.z) = ⟨#[UInt8.ofNat (L.getD j tCel.z).byte.toNat]⟩ := if_pos hb2
    refine Run.bldr 95 5 6 90 p (catC o (L.take j)) (by rcases hp with rfl | rfl <;> exact MOle.refl _) (MOle.refl _) ?_
    refine wb6 p _ (UInt8.ofNat (L.getD j tCel.z).byte.toNat) rfl rfl rfl rfl rfl ?_ (by omega) hp ?_
    · rw [hby _ (by rw [List.getD, List.getElem?_eq_getElem hjl]; exact List.getElem_mem hjl)]; rfl
    refine Run.go ?_; (conv => whnf); repeat' (first | ((with_reducible refine Know.mk fun _ => ?_); conv => whnf) | ((with_reducible refine Need.mk ?_ ?_); exact nd; conv => whnf) | ((with_reducible first | refine Both.mk ?_ ?_ | refine Any.mk fun b hb => ?_ | refine AskB.dec (fun hb => ?_) (fun hb => ?_) | refine AskB.ndec (fun hb => ?_) (fun hb => ?_) | refine AskB.mk (fun hb => ?_) (fun hb => ?_)) <;> conv => whnf) | ((with_reducible first | refine Run.drawX rfl (by decide +kernel) ?_ | refine Run.drawT rfl (by decide +kernel) ?_ | refine Run.drawW rfl (by decide +kernel) ?_); conv => whnf))
    refine Run.to _ _ ?_ ?_ (IH (j + 1, .box 6 0) (by simp only []; omega) ⟨by simp only []; omega, .inr rfl⟩)
    · exact ⟨Le.refl _, Le.refl _, Le.refl _, Le.refl _, Le.refl _, Le.int hwj, trivial⟩
    · refine ⟨MOle.refl _, ?_, trivial⟩
      simp only []
      rw [catC_take _ _ _ hjl, hcf]
      exact MOle.refl _
  case _ =>
    have hjl : j < L.length := by omega
    have hb2 : (L.getD j tCel.z).bad = false := hb
    have hcf : cellF o (L.getD j tCel.z) = foldR (L.getD j tCel.z).r o := if_neg (by rw [hb2]; exact Bool.noConfusion)
    refine Run.to [(1, .int .i64 o), (6, .box 6 0), (7, tF.L (stepsF o)), (15, tCel.L L), (16, .int .i64 L.length), (17, .int .i64 j), (27, .int .i32 (L.getD j tCel.z).r), (28, .int .i64 o), (29, tF.L (stepsF o))] [(6, .box 95 [p, .row 90]), (90, .row 5 1 (catC o (L.take j)).size (bytesG (catC o (L.take j))))]
      ⟨Le.refl _, Le.refl _, Le.refl _, Le.refl _, Le.refl _, Le.refl _, Le.refl _, Le.refl _, Le.refl _, trivial⟩ ⟨by rcases hp with rfl | rfl <;> exact MOle.refl _, MOle.refl _, trivial⟩ ?_
    refine fold41 _ p _ (L.getD j tCel.z).r o rfl rfl rfl rfl rfl rfl rfl rfl ?_ (by omega) hp ho.1 ho.2 ?_
    · exact ⟨⟨rfl, rfl, rfl, fun _ _ => rfl⟩, ⟨rfl, rfl, rfl, fun _ _ => rfl⟩, ⟨rfl, rfl, rfl, fun _ _ => rfl⟩, ⟨rfl, rfl, rfl, fun _ _ => rfl⟩, ⟨rfl, rfl, rfl, fun _ _ => rfl⟩, ⟨rfl, rfl, rfl, fun _ _ => rfl⟩, ⟨rfl, rfl, rfl, fun _ _ => rfl⟩, ⟨rfl, rfl, rfl, fun _ _ => rfl⟩, ⟨rfl, rfl, rfl, fun _ _ => rfl⟩, trivial⟩
    intro p' hp'
    refine Run.go ?_; (conv => whnf); repeat' (first | ((with_reducible refine Know.mk fun _ => ?_); conv => whnf) | ((with_reducible refine Need.mk ?_ ?_); exact nd; conv => whnf) | ((with_reducible first | refine Both.mk ?_ ?_ | refine Any.mk fun b hb => ?_ | refine AskB.dec (fun hb => ?_) (fun hb => ?_) | refine AskB.ndec (fun hb => ?_) (fun hb => ?_) | refine AskB.mk (fun hb => ?_) (fun hb => ?_)) <;> conv => whnf) | ((with_reducible first | refine Run.drawX rfl (by decide +kernel) ?_ | refine Run.drawT rfl (by decide +kernel) ?_ | refine Run.drawW rfl (by decide +kernel) ?_); conv => whnf))
    refine Run.to _ _ ?_ ?_ (IH (j + 1, p') (by simp only []; omega) ⟨by simp only []; omega, hp'⟩)
    · exact ⟨Le.refl _, Le.refl _, Le.refl _, Le.refl _, Le.refl _, Le.int hwj, trivial⟩
    · refine ⟨MOle.refl _, ?_, trivial⟩
      simp only []
      rw [catC_take _ _ _ hjl, hcf]
      exact MOle.refl _
  case _ =>
    obtain rfl : j = L.length := by omega
    refine Run.bldr 95 5 6 90 p (catC o (L.take L.length)) (MOle.refl _) (MOle.refl _) ?_
    refine bs6 p _ rfl rfl rfl rfl rfl ?_
    rw [List.take_length]
    refine Run.go ?_; (conv => whnf); repeat' (first | ((with_reducible refine Know.mk fun _ => ?_); conv => whnf) | ((with_reducible refine Need.mk ?_ ?_); exact nd; conv => whnf) | ((with_reducible first | refine Both.mk ?_ ?_ | refine Any.mk fun b hb => ?_ | refine AskB.dec (fun hb => ?_) (fun hb => ?_) | refine AskB.ndec (fun hb => ?_) (fun hb => ?_) | refine AskB.mk (fun hb => ?_) (fun hb => ?_)) <;> conv => whnf) | ((with_reducible first | refine Run.drawX rfl (by decide +kernel) ?_ | refine Run.drawT rfl (by decide +kernel) ?_ | refine Run.drawW rfl (by decide +kernel) ?_); conv => whnf))
    exact Run.leave (ts := [4,5]) (.inr ⟨_, rfl⟩) rfl Tryd.func51 rfl (resT ⟨Le.refl _, Le.refl _, trivial⟩)
end Go.Proofs.YtnadacaoehpdnaaDoor.V

namespace Go.Proofs.YtnadacaoehpdnaaDoor.V
set_option linter.unusedVariables false
set_option linter.unusedSimpArgs false
open Go Go.Proofs Go.RowKit
set_option maxRecDepth 100000
set_option maxHeartbeats 4000000
open Go Go.Proofs Go.Proofs.YtnadacaoehpdnaaDoor.V
theorem bt_get! (s : ByteArray) (i : Nat) : ((s.get! i).toNat : Int) = bt s i := by
  unfold bt
  cases s with | mk a => 
  show ((a[i]!).toNat : Int) = _
  simp only [List.getD_eq_getElem?_getD, Array.getElem?_toList]
  rw [← Array.getD_eq_getD_getElem?]
  rfl
/-- A text of small bytes: its runes are its bytes. -/
theorem dec_ascii {s : ByteArray} {p : Nat} (h : bt s p < 128) : Utf8.decode s p = ((bt s p).toNat, 1) := by
  unfold Utf8.decode
  have e := bt_get! s p
  have h1 : (s.get! p).toNat < 128 := by omega
  simp only [Nat.add_zero, if_pos h1]
  rw [← e]; rfl
end Go.Proofs.YtnadacaoehpdnaaDoor.V

namespace Go.Proofs.YtnadacaoehpdnaaDoor.V
set_option linter.unusedVariables false
set_option linter.unusedSimpArgs false
open Go Go.Proofs Go.RowKit
theorem getD_app1 {α : Type} {l : List α} {x z : α} {i : Nat} (h : i < l.length) : (l ++ [x]).getD i z = l.getD i z := by
  rw [List.getD, List.getD, List.getElem?_append_left h]
theorem getD_app2 {α : Type} {l : List α} {x z : α} : (l ++ [x]).getD l.length z = x := by simp [List.getD]
structure Rd where
  none : Bool
  text : ByteArray
  wits : List Int
deriving DecidableEq
def rd0 : Rd := ⟨false, .empty, []⟩
def tRd : Ty Rd := ⟨3, fun r j => match j with | 0 => .bool r.none | 1 => .str r.text | _ => tI.L r.wits, rd0⟩
def rdG (l : List Rd) : Nat → Nat → AV := fun i j => match j with | 0 => .bool (l.getD i rd0).none | _ => .str (l.getD i rd0).text
def rdN (l : List Rd) : Nat → Nat := fun i => (l.getD i rd0).wits.length
def rdW (l : List Rd) : Nat → Nat → Nat → AV := fun i => tI.G (l.getD i rd0).wits
/-- Readings as nested rows. -/
def rdM (l : List Rd) : MO := .mat 47 3 l.length (rdG l) 2 3 1 (rdN l) (rdW l) none
/-- Is it the reading of these witnesses? -/
def sameR (o : Int) (nn : Bool) (key : ByteArray) (r : Rd) : Bool := r.none == nn && decide (textF r.text o = key)
def ensR (l : List Rd) (k : Nat) (nn : Bool) (text : ByteArray) : List Rd := if k = l.length then l ++ [⟨nn, text, []⟩] else l
def pushW (l : List Rd) (k : Nat) (i : Int) : List Rd := l.set k ⟨(l.getD k rd0).none, (l.getD k rd0).text, (l.getD k rd0).wits ++ [i]⟩
def addR (o : Int) (l : List Rd) (i : Int) (nn : Bool) (text key : ByteArray) : List Rd := pushW (ensR l (l.findIdx (sameR o nn key)) nn text) (l.findIdx (sameR o nn key)) i
/-- A cell's text. -/
def textAt (t : Tab) (c i : Nat) : ByteArray := if atC t c i < 0 then .empty else ((witAt t i).words.getD (atC t c i).toNat tWrd.z).text
def keyAt (t : Tab) (c : Nat) (o : Int) (i : Nat) : ByteArray := if atC t c i < 0 then .empty else textF (textAt t c i) o
/-- The readings of the first witnesses. -/
def readE (t : Tab) (c : Nat) (o : Int) : Nat → List Rd
  | 0 => []
  | i + 1 => addR o (readE t c o i) i (decide (atC t c i < 0)) (textAt t c i) (keyAt t c o i)
theorem ens_len (l : List Rd) (k : Nat) (nn : Bool) (text : ByteArray) (h : k ≤ l.length) : k < (ensR l k nn text).length ∧ (ensR l k nn text).length ≤ l.length + 1 := by
  unfold ensR
  split
  · rw [List.length_append, List.length_singleton]; omega
  · omega
theorem push_len (l : List Rd) (k : Nat) (i : Int) : (pushW l k i).length = l.length := by simp [pushW]
theorem add_len (o : Int) (l : List Rd) (i : Int) (nn : Bool) (text key : ByteArray) : (addR o l i nn text key).length ≤ l.length + 1 := by
  unfold addR
  rw [push_len]
  exact (ens_len l _ nn text List.findIdx_le_length).2
theorem read_len (t : Tab) (c : Nat) (o : Int) : ∀ n, (readE t c o n).length ≤ n
  | 0 => Nat.le_refl _
  | n + 1 => Nat.le_trans (add_len _ _ _ _ _ _) (Nat.succ_le_succ (read_len t c o n))
/-- No reading has more witnesses than there are. -/
theorem wits_le (t : Tab) (c : Nat) (o : Int) : ∀ n, ∀ r ∈ readE t c o n, r.wits.length ≤ n
  | 0, r, h => by cases h
  | n + 1, r, h => by
    have ih := wits_le t c o n
    have key : ∀ (l : List Rd) k i (r : Rd), (∀ x ∈ l, x.wits.length ≤ n) → r ∈ pushW l k i → r.wits.length ≤ n + 1 := by
      intro l k i r hl hr
      unfold pushW at hr
      rcases List.mem_or_eq_of_mem_set hr with h1 | h1
      · have := hl r h1; omega
      · subst h1
        simp only [List.length_append, List.length_singleton]
        have : (l.getD k rd0).wits.length ≤ n := by
          by_cases hk : k < l.length
          · exact hl _ (getD_mem' k hk)
          · rw [List.getD, List.getElem?_eq_none (by omega)]; exact Nat.zero_le _
        omega
    refine key _ _ _ r (fun x hx => ?_) h
    unfold ensR at hx
    split at hx
    · rcases List.mem_append.mp hx with h1 | h1
      · exact ih x h1
      · rw [List.mem_singleton] at h1; subst h1; exact Nat.zero_le _
    · exact ih x hx
theorem fidx_hit {α : Type} {p : α → Bool} {z : α} : ∀ {l : List α} {k : Nat}, k ≤ l.findIdx p → k < l.length → p (l.getD k z) = true → l.findIdx p = k
  | [], k, _, h, _ => absurd h (Nat.not_lt_zero _)
  | x :: l, 0, _, _, h => by rw [List.findIdx_cons]; rw [List.getD_cons_zero] at h; rw [h]; rfl
  | x :: l, k + 1, hk, hl, h => by
    rw [List.findIdx_cons] at hk ⊢
    cases hx : p x with
    | true => rw [hx] at hk; exact absurd hk (by simp)
    | false =>
      rw [hx] at hk
      simp only [cond_false] at hk ⊢
      rw [fidx_hit (p := p) (l := l) (k := k) (z := z) (by omega) (by simpa using hl) (by rw [List.getD_cons_succ] at h; exact h)]
theorem fidx_miss {α : Type} {p : α → Bool} {z : α} : ∀ {l : List α} {k : Nat}, k ≤ l.findIdx p → k < l.length → p (l.getD k z) = false → k + 1 ≤ l.findIdx p
  | [], k, _, h, _ => absurd h (Nat.not_lt_zero _)
  | x :: l, 0, _, _, h => by rw [List.findIdx_cons]; rw [List.getD_cons_zero] at h; rw [h]; simp
  | x :: l, k + 1, hk, hl, h => by
    rw [List.findIdx_cons] at hk ⊢
    cases hx : p x with
    | true => rw [hx] at hk; exact absurd hk (by simp)
    | false =>
      rw [hx] at hk
      simp only [cond_false] at hk ⊢
      have := fidx_miss (p := p) (l := l) (z := z) (k := k) (by omega) (by simpa using hl) (by rw [List.getD_cons_succ] at h; exact h)
      omega
/-! ### readings as nested rows -/
theorem rdM_nil (g : Nat → Nat → AV) (gg : Nat → Nat → Nat → AV) (len : Nat → Nat) : MOle (.mat 47 3 0 g 2 3 1 len gg none) (rdM []) :=
  MOle.mat' rfl (fun i j hi => absurd hi (Nat.not_lt_zero _)) (fun i hi => absurd hi (Nat.not_lt_zero _))
theorem rdM_app (l : List Rd) (nn : Bool) (text : ByteArray) (g : Nat → Nat → AV) (h0 : Le (g 0 0) (.bool nn)) (h1 : Le (g 0 1) (.str text)) :
    MOle (.mat 47 3 (l.length + 1) (joinRow l.length (rdG l) g) 2 3 1 (fun i => if i < l.length then rdN l i else 0) (fun i => if i < l.length then rdW l i else fun _ _ => .u) none) (rdM (l ++ [⟨nn, text, []⟩])) := by
  have ha : ∀ i, i < l.length → (l ++ [(⟨nn, text, []⟩ : Rd)]).getD i rd0 = l.getD i rd0 := fun i hi => getD_app1 hi
  have hz : (l ++ [(⟨nn, text, []⟩ : Rd)]).getD l.length rd0 = ⟨nn, text, []⟩ := getD_app2
  refine MOle.mat' (by simp) (fun i j hi hj hne => ?_) (fun i hi _ => ?_)
  · unfold joinRow rdG
    by_cases hil : i < l.length
    · rw [if_pos hil, ha i hil]; exact Le.refl _
    · obtain rfl : i = l.length := by omega
      rw [if_neg hil, hz, Nat.sub_self]
      match j, hj, hne with
      | 0, _, _ => exact h0
      | 1, _, _ => exact h1
      | 2, _, h => exact absurd rfl h
  · unfold rdN rdW
    by_cases hil : i < l.length
    · rw [if_pos hil, if_pos hil, ha i hil]
      exact ⟨rfl, fun _ _ _ _ => Le.refl _⟩
    · obtain rfl : i = l.length := by omega
      rw [if_neg hil, if_neg hil, hz]
      exact ⟨rfl, fun a b ha' => absurd ha' (Nat.not_lt_zero _)⟩
theorem rdM_push (l : List Rd) (k : Nat) (i : Int) (hk : k < l.length) (g : Nat → Nat → AV) (hg : g 0 0 = .int .i64 i) :
    MOle (.mat 47 3 l.length (rdG l) 2 3 1 (updIn (rdN l) k (rdN l k + 1)) (updIn (rdW l) k (joinRow (rdN l k) (rdW l k) g)) none) (rdM (pushW l k i)) := by
  have ho : ∀ j, j ≠ k → (pushW l k i).getD j rd0 = l.getD j rd0 := fun j hj => by unfold pushW; simp [List.getD, List.getElem?_set_ne (Ne.symm hj)]
  have hs : (pushW l k i).getD k rd0 = ⟨(l.getD k rd0).none, (l.getD k rd0).text, (l.getD k rd0).wits ++ [i]⟩ := by unfold pushW; rw [List.getD, List.getElem?_set_self hk]; rfl
  refine MOle.mat' (push_len l k i).symm (fun j c hj hc hne => ?_) (fun j hj _ => ?_)
  · unfold rdG
    by_cases e : j = k
    · subst e; rw [hs]; exact Le.refl _
    · rw [ho j e]; exact Le.refl _
  · unfold updIn
    by_cases e : j = k
    · subst e
      rw [if_pos rfl, if_pos rfl]
      unfold rdN rdW
      rw [hs]
      refine ⟨by simp, fun a b ha hb => ?_⟩
      obtain rfl : b = 0 := by omega
      unfold joinRow Ty.G
      by_cases hal : a < (l.getD j rd0).wits.length
      · rw [if_pos hal]
        rw [getD_app1 hal]; exact Le.refl _
      · rw [if_neg hal]
        obtain rfl : a = (l.getD j rd0).wits.length := by omega
        rw [getD_app2, Nat.sub_self, hg]; exact Le.refl _
    · rw [if_neg e, if_neg e]
      unfold rdN rdW
      rw [ho j e]
      exact ⟨rfl, fun _ _ _ _ => Le.refl _⟩
/-- Readings handed back. -/
theorem rdM_out (l : List Rd) : Le (.sl l.length 3 (fun i j => cond (Nat.beq j 2) (.sl (rdN l i) 1 (rdW l i)) (rdG l i j))) (tRd.L l) :=
  Le.sl (fun i j hi hj => by
    match j, hj with
    | 0, _ => exact Le.refl _
    | 1, _ => exact Le.refl _
    | 2, _ => exact Le.refl _)
end Go.Proofs.YtnadacaoehpdnaaDoor.V

namespace Go.Proofs.YtnadacaoehpdnaaDoor.V
set_option linter.unusedVariables false
set_option linter.unusedSimpArgs false
open Go Go.Proofs Go.RowKit
set_option maxRecDepth 100000
set_option maxHeartbeats 4000000
/-- A small rune is its byte. -/
theorem dec_small (s : ByteArray) (p : Nat) (h : (Utf8.decode s p).1 < 128) : bt s p = ((Utf8.decode s p).1 : Nat) ∧ (Utf8.decode s p).2 = 1 := by
  have hb := bt_lt s p
  rw [dec_at] at h ⊢
  have k0 := bt_lt s (p + 1)
  rcases Lib.decodeN_shape (s.size - p) (bt s p).toNat (bt s (p + 1)).toNat (bt s (p + 2)).toNat (bt s (p + 3)).toNat with ⟨c, e⟩ | ⟨c1, c2, c3, cv, e⟩ | ⟨c1, c2, c3, c4, cv, cs, e⟩ | ⟨c1, c2, c3, c4, c5, cv, cw, e⟩ | e
  all_goals (rw [e] at h ⊢; simp only at h ⊢)
  · exact ⟨by omega, trivial⟩
  all_goals (exfalso; omega)
theorem named_fn (s : ByteArray) : Fn Tryd.prog 42 [.str s] (.bool (decide (NameOk s))) := by
  refine Fn.of Tryd.f42 _ Tryd.func42 rfl (by decide) (by show 1 ≤ _; decide) tbOk 40 rfl fun S w0 gl => ?_
  have hno : ¬ NameOk s → decide (NameOk s) = false := fun h => decide_eq_false h
  have hz : s.size = 0 ↔ s = ⟨#[]⟩ := ⟨fun h => by
    apply ByteArray.ext
    exact Array.eq_empty_of_size_eq_zero h, fun h => by rw [h]; rfl⟩
  refine Run.go ?_; (conv => whnf); repeat' (first | ((with_reducible refine Know.mk fun _ => ?_); conv => whnf) | ((with_reducible refine Need.mk ?_ ?_); exact nd; conv => whnf) | ((with_reducible first | refine Both.mk ?_ ?_ | refine Any.mk fun b hb => ?_ | refine AskB.dec (fun hb => ?_) (fun hb => ?_) | refine AskB.ndec (fun hb => ?_) (fun hb => ?_) | refine AskB.mk (fun hb => ?_) (fun hb => ?_)) <;> conv => whnf) | ((with_reducible first | refine Run.drawX rfl (by decide +kernel) ?_ | refine Run.drawT rfl (by decide +kernel) ?_ | refine Run.drawW rfl (by decide +kernel) ?_); conv => whnf))
  · exact Run.leave (ts := [2]) (.inr ⟨_, rfl⟩) rfl Tryd.func42 rfl (Le.ff.trans (Le.bool (hno (fun h => by have := h.1; have := hz.mpr hb; omega)).symm))
  · exact Run.leave (ts := [2]) (.inr ⟨_, rfl⟩) rfl Tryd.func42 rfl (Le.ff.trans (Le.bool (hno (fun h => by have := h.2.1; omega)).symm))
  rename_i hne _
  have hs8 : s.size ≤ 8 := by omega
  have hs1 : 1 ≤ s.size := by
    have := mt hz.mp hne
    omega
  refine Run.loop [0, 13] (fun (p : Nat) => []) (fun p => [(13, .iter s p)]) (fun p => p ≤ s.size ∧ ∀ i, i < p → alnum (bt s i)) (fun p => s.size - p) 0 ⟨Nat.zero_le _, fun i hi => absurd hi (Nat.not_lt_zero _)⟩ trivial ⟨MOle.refl _, trivial⟩ ?_
  intro p ⟨hp, ha⟩ IH
  have hsm := dec_small s p
  show Run _ _ (lst (_ ++ [])) (lstH [(13, .iter s p)])
  refine Run.go ?_; (conv => whnf); repeat' (first | ((with_reducible refine Know.mk fun _ => ?_); conv => whnf) | ((with_reducible refine Need.mk ?_ ?_); exact nd; conv => whnf) | ((with_reducible refine Both.mk ?_ ?_) <;> conv => whnf) | ((with_reducible refine Any.mk fun b hb => ?_); conv => whnf) | ((with_reducible first | refine AskB.dec (fun hb => ?_) (fun hb => ?_) | refine AskB.ndec (fun hb => ?_) (fun hb => ?_) | refine AskB.mk (fun hb => ?_) (fun hb => ?_)) <;> first | (exfalso; omega) | (conv => whnf)) | ((with_reducible first | refine Run.drawX rfl (by decide +kernel) ?_ | refine Run.drawT rfl (by decide +kernel) ?_ | refine Run.drawW rfl (by decide +kernel) ?_); conv => whnf))
  all_goals try (
    have hps : p < s.size := by omega
    have hr : (Utf8.decode s p).1 < 128 := by omega
    obtain ⟨h1, h2⟩ := hsm hr
    have hal : alnum (bt s p) := by unfold alnum; omega
    refine Run.to _ _ ?_ ?_ (IH (p + 1) (by omega) ⟨by omega, fun i hi => ?_⟩)
    · exact ⟨Le.refl _, Le.refl _, trivial⟩
    · rw [h2]; exact ⟨MOle.refl _, trivial⟩
    · by_cases e : i = p
      · subst e; exact hal
      · exact ha i (by omega))
  all_goals try (
    have hps : p < s.size := by omega
    refine Run.leave (ts := [2]) (.inr ⟨_, rfl⟩) rfl Tryd.func42 rfl (Le.ff.trans (Le.bool (hno (fun h => ?_)).symm))
    have hal := h.2.2 p hps
    have h128 : bt s p < 128 := by unfold alnum at hal; omega
    have hd := dec_ascii h128
    have hbl := bt_lt s p
    have h1 : (((Utf8.decode s p).1 : Nat) : Int) = bt s p := by rw [hd]; simp only []; omega
    unfold alnum at hal
    omega)
  all_goals (
    refine Run.leave (ts := [2]) (.inr ⟨_, rfl⟩) rfl Tryd.func42 rfl (Le.tt.trans (Le.bool (decide_eq_true ⟨hs1, hs8, fun i hi => ha i (by omega)⟩).symm)))
end Go.Proofs.YtnadacaoehpdnaaDoor.V

namespace Go.Proofs.YtnadacaoehpdnaaDoor.V
set_option linter.unusedVariables false
set_option linter.unusedSimpArgs false
open Go Go.Proofs Go.RowKit
set_option maxRecDepth 100000
set_option maxHeartbeats 4000000
theorem tot_le {t : Tab} (hf : FitT t) : ∀ n, n ≤ t.wits.length → sumR (lens t) n ≤ n * 2000000
  | 0, _ => by simp [sumR]
  | n + 1, h => by
    have h1 := tot_le hf n (by omega)
    have h2 := (hf.wit (t.wits.getD n wit0) (getD_mem' n (by omega))).2.1
    simp only [sumR, lens, witAt] at *
    rw [Nat.add_mul]; omega
theorem ins_mem {α : Type} [DecidableEq α] (k : α) : ∀ (l : List α) (x : α), x ∈ ins k l ↔ x = k ∨ x ∈ l
  | [], x => by simp [ins]
  | p :: l, x => by
    unfold ins
    split
    · rename_i e; subst e; simp
    · rw [List.mem_cons, ins_mem k l x, List.mem_cons]
      constructor
      · rintro (h | h | h)
        · exact .inr (.inl h)
        · exact .inl h
        · exact .inr (.inr h)
      · rintro (h | h | h)
        · exact .inr (.inl h)
        · exact .inl h
        · exact .inr (.inr h)
theorem check_fn (t : Tab) (hf : FitT t) : Fn Tryd.prog 18 [tbA t] (.int .i64 (chkT t)) := by
  refine Fn.of Tryd.f18 _ Tryd.func18 rfl (by decide) (by show 1 ≤ _; decide) tbOk 124 rfl fun S w0 gl => ?_
  have hno : ∀ {P : Prop}, (OkT t → ¬ P) → P → chkT t = 121 := fun h p => chk_no (fun o => h o p)
  have hfw := hf.wits
  have hfc := hf.cols
  refine Run.go ?_; (conv => whnf); repeat' (first | ((with_reducible refine Know.mk fun _ => ?_); conv => whnf) | ((with_reducible refine Need.mk ?_ ?_); exact nd; conv => whnf) | ((with_reducible first | refine Both.mk ?_ ?_ | refine Any.mk fun b hb => ?_ | refine AskB.dec (fun hb => ?_) (fun hb => ?_) | refine AskB.ndec (fun hb => ?_) (fun hb => ?_) | refine AskB.mk (fun hb => ?_) (fun hb => ?_)) <;> conv => whnf) | ((with_reducible first | refine Run.drawX rfl (by decide +kernel) ?_ | refine Run.drawT rfl (by decide +kernel) ?_ | refine Run.drawW rfl (by decide +kernel) ?_); conv => whnf))
  · exact Run.leave (ts := [2]) (.inr ⟨_, rfl⟩) rfl Tryd.func18 rfl (Le.int (hno (fun o h => by have := o.n1; omega) hb).symm)
  · exact Run.leave (ts := [2]) (.inr ⟨_, rfl⟩) rfl Tryd.func18 rfl (Le.int (hno (fun o h => by have := o.n12; omega) hb).symm)
  · exact Run.leave (ts := [2]) (.inr ⟨_, rfl⟩) rfl Tryd.func18 rfl (Le.int (hno (fun o h => by have := o.nc; omega) hb).symm)
  have hn1 : 1 ≤ t.wits.length := by omega
  have hn12 : t.wits.length ≤ 12 := by omega
  have hnc : t.cols.length ≤ 4096 := by omega
  have htl := tot_le hf
  refine Run.loop [3, 31, 32] (fun (a : Nat × List ByteArray) => [(1, .box 1 0), (4, .int .i64 ((sumR (lens t) a.1 : Nat) : Int)), (33, .int .i64 (a.1 : Int))]) (fun a => [(1, .box 25 [tWit.L t.wits, tIL.L t.cols]), (29, .mp (.sb a.2))])
    (fun a => a.1 ≤ t.wits.length ∧ (∀ i, i < a.1 → WitOk t i) ∧ ∀ s, s ∈ a.2 ↔ ∃ k, k < a.1 ∧ (witAt t k).name = s) (fun a => t.wits.length - a.1) (0, []) ⟨Nat.zero_le _, fun i hi => absurd hi (Nat.not_lt_zero _), fun s => ⟨fun h => (by cases h), fun ⟨k, hk, _⟩ => absurd hk (Nat.not_lt_zero _)⟩⟩
    ⟨Le.refl _, Le.refl _, Le.refl _, trivial⟩ ⟨MOle.refl _, MOle.refl _, trivial⟩ ?_
  intro ⟨i, l⟩ ⟨hi, hwk, hl⟩ IH
  simp only [] at hi hwk hl ⊢
  have hwi : IntKind.i64.wrap ((i : Int) + 1) = ((i + 1 : Nat) : Int) := wrap64 (by omega) (by omega)
  have hti := htl i hi
  refine Run.go ?_; (conv => whnf); repeat' (first | ((with_reducible refine Know.mk fun _ => ?_); conv => whnf) | ((with_reducible refine Need.mk ?_ ?_); exact nd; conv => whnf) | ((with_reducible first | refine Both.mk ?_ ?_ | refine Any.mk fun b hb => ?_ | refine AskB.dec (fun hb => ?_) (fun hb => ?_) | refine AskB.ndec (fun hb => ?_) (fun hb => ?_) | refine AskB.mk (fun hb => ?_) (fun hb => ?_)) <;> conv => whnf) | ((with_reducible first | refine Run.drawX rfl (by decide +kernel) ?_ | refine Run.drawT rfl (by decide +kernel) ?_ | refine Run.drawW rfl (by decide +kernel) ?_); conv => whnf))
  · have hil : i < t.wits.length := by omega
    have hwt := hf.wit (witAt t i) (getD_mem' i hil)
    refine Run.callBX (named_fn (witAt t i).name) rfl rfl ⟨Le.refl _, trivial⟩ rfl rfl rfl ?_
    (conv => whnf); repeat' (first | ((with_reducible refine Know.mk fun _ => ?_); conv => whnf) | ((with_reducible refine Need.mk ?_ ?_); exact nd; conv => whnf) | ((with_reducible first | refine Both.mk ?_ ?_ | refine Any.mk fun b hb => ?_ | refine AskB.dec (fun hb => ?_) (fun hb => ?_) | refine AskB.ndec (fun hb => ?_) (fun hb => ?_) | refine AskB.mk (fun hb => ?_) (fun hb => ?_)) <;> conv => whnf) | ((with_reducible first | refine Run.drawX rfl (by decide +kernel) ?_ | refine Run.drawT rfl (by decide +kernel) ?_ | refine Run.drawW rfl (by decide +kernel) ?_); conv => whnf))
    · have hk : ¬ WitOk t i := fun h => by
        have hd := (hasK_iff _ _).mp hb
        obtain ⟨k, hk1, hk2⟩ := (hl _).mp hd
        exact h.2.2 k hk1 hk2
      exact Run.leave (ts := [2]) (.inr ⟨_, rfl⟩) rfl Tryd.func18 rfl (Le.int (hno (fun o h => h (o.wit i hil)) hk).symm)
    · refine Run.callBX (right19_fn (witAt t i).head (witAt t i).words hwt.1) rfl rfl ⟨Le.refl _, Le.refl _, trivial⟩ rfl rfl rfl ?_
      (conv => whnf); repeat' (first | ((with_reducible refine Know.mk fun _ => ?_); conv => whnf) | ((with_reducible refine Need.mk ?_ ?_); exact nd; conv => whnf) | ((with_reducible first | refine Both.mk ?_ ?_ | refine Any.mk fun b hb => ?_ | refine AskB.dec (fun hb => ?_) (fun hb => ?_) | refine AskB.ndec (fun hb => ?_) (fun hb => ?_) | refine AskB.mk (fun hb => ?_) (fun hb => ?_)) <;> conv => whnf) | ((with_reducible first | refine Run.drawX rfl (by decide +kernel) ?_ | refine Run.drawT rfl (by decide +kernel) ?_ | refine Run.drawW rfl (by decide +kernel) ?_); conv => whnf))
      · have hk : ¬ WitOk t i := fun h => by rw [h.2.1] at hb; cases hb
        exact Run.leave (ts := [2]) (.inr ⟨_, rfl⟩) rfl Tryd.func18 rfl (Le.int (hno (fun o h => h (o.wit i hil)) hk).symm)
      · have hwt2 := hwt.2.1
        have hok : WitOk t i := ⟨by assumption, by simpa using hb, fun k hk e => (hasK_not _ _).mp (by assumption) ((hl _).mpr ⟨k, hk, e⟩)⟩
        refine Run.to _ _ ?_ ?_ (IH (i + 1, ins (witAt t i).name l) (by simp only []; omega) ⟨by simp only []; omega, fun k hk => ?_, fun s => ?_⟩)
        · refine ⟨Le.refl _, Le.refl _, Le.refl _, Le.refl _, Le.int ?_, Le.int hwi, trivial⟩
          show IntKind.i64.wrap ((sumR (lens t) i : Nat) + ((witAt t i).words.length : Int)) = _
          rw [wrap64 (by omega) (by omega)]
          simp only [sumR, lens]; omega
        · exact ⟨MOle.refl _, MOle.refl _, trivial⟩
        · by_cases e : k = i
          · subst e; exact hok
          · exact hwk k (by omega)
        · rw [ins_mem, hl]
          constructor
          · rintro (rfl | ⟨k, hk, rfl⟩)
            · exact ⟨i, Nat.lt_succ_self i, rfl⟩
            · exact ⟨k, Nat.lt_succ_of_lt hk, rfl⟩
          · rintro ⟨k, hk, rfl⟩
            by_cases e : k = i
            · subst e; exact .inl rfl
            · exact .inr ⟨k, by omega, rfl⟩
    · have hk : ¬ WitOk t i := fun h => hb h.1
      exact Run.leave (ts := [2]) (.inr ⟨_, rfl⟩) rfl Tryd.func18 rfl (Le.int (hno (fun o h => h (o.wit i hil)) hk).symm)
  obtain rfl : i = t.wits.length := by omega
  clear IH
  have htot : tot t ≤ 24000000 := by
    have := htl t.wits.length (Nat.le_refl _)
    unfold tot; omega
  refine Run.loop [1, 69, 70] (fun (c : Nat) => [(4, .int .i64 ((tot t - sumN t c 0 : Nat) : Int)), (7, .row 67), (71, .int .i64 (c : Int))]) (fun c => [(1, .box 25 [tWit.L t.wits, tIL.L t.cols]), (67, tI.R 3 (nextL t c 0))])
    (fun c => c ≤ t.cols.length ∧ (∀ k, k < c → ColOk t k) ∧ LeT t c 0) (fun c => t.cols.length - c) 0 ⟨Nat.zero_le _, fun i hi => absurd hi (Nat.not_lt_zero _), fun j hj => by simp [nx, cnt]⟩
    ⟨Le.int ?_, Le.refl _, Le.refl _, trivial⟩ ⟨MOle.refl _, ?_, trivial⟩ ?_
  · have : sumN t 0 0 = 0 := by
      unfold sumN
      have h0 : ∀ n, sumR (nx t 0 0) n = 0 := fun n => by
        induction n with
        | zero => rfl
        | succ n ih => simp only [sumR, ih]; simp [nx, cnt]
      exact h0 _
    rw [this, Nat.sub_zero]; rfl
  · rw [nextL_zero]
    refine ⟨rfl, rfl, by simp, fun i j hi hj => ?_⟩
    obtain rfl : j = 0 := by have : j < 1 := hj; omega
    refine Le.int ?_
    have hi' : i < t.wits.length := by simpa using hi
    rw [List.getD, List.getElem?_replicate, if_pos hi']; rfl
  intro c ⟨hc, hck, hle⟩ IH
  have hwc : IntKind.i64.wrap ((c : Int) + 1) = ((c + 1 : Nat) : Int) := wrap64 (by omega) (by omega)
  have hs0 := le_sum hle
  have hnl := nextL_len t c 0
  show Run _ _ (lst (_ ++ [(4, .int .i64 ((tot t - sumN t c 0 : Nat) : Int)), (7, .row 67), (71, .int .i64 (c : Int))])) (lstH [(1, .box 25 [tWit.L t.wits, tIL.L t.cols]), (67, tI.R 3 (nextL t c 0))])
  have hcl : c < t.cols.length → (t.cols.getD (c : Int).toNat tIL.z).length ≤ 2000000 := fun h => hf.col _ (getD_mem' c h)
  refine Run.go ?_; (conv => whnf); repeat' (first | ((with_reducible refine Know.mk fun _ => ?_); conv => whnf) | ((with_reducible refine Need.mk ?_ ?_); exact nd; conv => whnf) | ((with_reducible refine Both.mk ?_ ?_) <;> conv => whnf) | ((with_reducible refine Any.mk fun b hb => ?_); conv => whnf) | ((with_reducible first | refine AskB.dec (fun hb => ?_) (fun hb => ?_) | refine AskB.ndec (fun hb => ?_) (fun hb => ?_) | refine AskB.mk (fun hb => ?_) (fun hb => ?_)) <;> first | (exfalso; omega) | (conv => whnf)) | ((with_reducible first | refine Run.drawX rfl (by decide +kernel) ?_ | refine Run.drawT rfl (by decide +kernel) ?_ | refine Run.drawW rfl (by decide +kernel) ?_); conv => whnf))
  all_goals try (exfalso; omega)
  · have hcc : c < t.cols.length := by omega
    have hlen : (t.cols.getD c []).length = t.wits.length := by
      have h2 : (t.cols.getD (c : Int).toNat tIL.z).length = t.wits.length := by omega
      exact h2
    refine Run.loop [1, 10, 69, 70, 71, 81, 82] (fun (i : Nat) => [(4, .int .i64 ((tot t - sumN t c i : Nat) : Int)), (7, .row 67), (83, .int .i64 (i : Int))]) (fun i => [(1, .box 25 [tWit.L t.wits, tIL.L t.cols]), (67, tI.R 3 (nextL t c i))])
      (fun i => i ≤ t.wits.length ∧ LeT t c i ∧ (∀ k, k < i → atC t c k = -1 ∨ (atC t c k = (cnt (t.cols.take c) k : Nat) ∧ cnt (t.cols.take c) k < (witAt t k).words.length)) ∧ (sumN t c i = sumN t c 0 → ∀ k, k < i → atC t c k = -1)) (fun i => t.wits.length - i) 0 ⟨Nat.zero_le _, hle, fun i hi => absurd hi (Nat.not_lt_zero _), fun _ i hi => absurd hi (Nat.not_lt_zero _)⟩
      ⟨Le.refl _, Le.refl _, Le.refl _, trivial⟩ ⟨MOle.refl _, MOle.refl _, trivial⟩ ?_
    intro i ⟨hi, hlei, hcells, hsame⟩ IHi
    have hwi : IntKind.i64.wrap ((i : Int) + 1) = ((i + 1 : Nat) : Int) := wrap64 (by omega) (by omega)
    have hsi := le_sum hlei
    have hnli := nextL_len t c i
    have hge : sumN t c 0 ≤ sumN t c i := sumR_le _ (fun j hj => by
      unfold nx
      rw [if_neg (Nat.not_lt_zero _)]
      split
      · rw [cnt_take _ _ _ hcc]; omega
      · exact Nat.le_refl _)
    show Run _ _ (lst (_ ++ [(4, .int .i64 ((tot t - sumN t c i : Nat) : Int)), (7, .row 67), (83, .int .i64 (i : Int))])) (lstH [(1, .box 25 [tWit.L t.wits, tIL.L t.cols]), (67, tI.R 3 (nextL t c i))])
    by_cases hil : i < t.wits.length
    · have hx : (t.cols.getD (c : Int).toNat tIL.z).getD (i : Int).toNat tI.z = atC t c i := rfl
      have hn : (nextL t c i).getD (i : Int).toNat tI.z = ((cnt (t.cols.take c) i : Nat) : Int) := by
        have := nextL_at t c i i hil
        rw [nx_same] at this; exact this
      have hlw : lens t i ≤ 2000000 := (hf.wit (witAt t i) (getD_mem' i hil)).2.1
      have hcnt : cnt (t.cols.take c) i ≤ lens t i := by
        have := hlei i hil
        rw [nx_same] at this; exact this
      have hlw2 : (t.wits.getD (i : Int).toNat tWit.z).words.length = lens t i := rfl
      refine Run.go ?_; (conv => whnf); repeat' (first | ((with_reducible refine Know.mk fun _ => ?_); conv => whnf) | ((with_reducible refine Need.mk ?_ ?_); exact nd; conv => whnf) | ((with_reducible refine Both.mk ?_ ?_) <;> conv => whnf) | ((with_reducible refine Any.mk fun b hb => ?_); conv => whnf) | ((with_reducible first | refine AskB.dec (fun hb => ?_) (fun hb => ?_) | refine AskB.ndec (fun hb => ?_) (fun hb => ?_) | refine AskB.mk (fun hb => ?_) (fun hb => ?_)) <;> first | (exfalso; omega) | (conv => whnf)) | ((with_reducible first | refine Run.drawX rfl (by decide +kernel) ?_ | refine Run.drawT rfl (by decide +kernel) ?_ | refine Run.drawW rfl (by decide +kernel) ?_); conv => whnf))
      all_goals try (exfalso; omega)
      · have hm : atC t c i = -1 := by omega
        refine Run.to _ _ ?_ ?_ (IHi (i + 1) (by omega) ⟨by omega, le_none hcc hlei hm, fun k hk => ?_, fun he k hk => ?_⟩)
        · refine ⟨Le.refl _, Le.refl _, Le.refl _, Le.refl _, Le.refl _, Le.refl _, Le.refl _, ?_, Le.refl _, Le.int hwi, trivial⟩
          rw [sumN_none hcc hm]; exact Le.refl _
        · refine ⟨MOle.refl _, ?_, trivial⟩
          rw [nextL_none hcc hm]; exact MOle.refl _
        · by_cases e : k = i
          · subst e; exact .inl hm
          · exact hcells k (by omega)
        · rw [sumN_none hcc hm] at he
          by_cases e : k = i
          · subst e; exact hm
          · exact hsame he k (by omega)
      · have hxe : atC t c i = ((cnt (t.cols.take c) i : Nat) : Int) := by omega
        have hne : atC t c i ≠ -1 := by omega
        have hlt : cnt (t.cols.take c) i < lens t i := by omega
        have hle2 := le_some hcc hlei hne (by rw [nx_same]; exact hlt)
        have hs2 := le_sum hle2
        have hsm := sumN_some hcc hil hne
        refine Run.to _ _ ?_ ?_ (IHi (i + 1) (by omega) ⟨by omega, hle2, fun k hk => ?_, fun he => ?_⟩)
        · refine ⟨Le.refl _, Le.refl _, Le.refl _, Le.refl _, Le.refl _, Le.refl _, Le.refl _, Le.int ?_, Le.refl _, Le.int hwi, trivial⟩
          rw [wrap64 (by omega) (by omega)]; omega
        · refine ⟨MOle.refl _, ?_, trivial⟩
          rw [nextL_some hcc hil hne]
          refine tI.set 3 (nextL t c i) i _ (by omega) _ rfl (Le.one (Le.int ?_))
          rw [hn, nx_same, wrap64 (by omega) (by omega)]
        · by_cases e : k = i
          · subst e; exact .inr ⟨hxe, hlt⟩
          · exact hcells k (by omega)
        · omega
      all_goals
        have hk : ¬ ColOk t c := fun h => by
          rcases h.2.1 i hil with h1 | ⟨h1, h2⟩
          · omega
          · have h3 : cnt (t.cols.take c) i < lens t i := h2
            omega
        exact Run.leave (ts := [2]) (.inr ⟨_, rfl⟩) rfl Tryd.func18 rfl (Le.int (hno (fun o h => h (o.col c hcc)) hk).symm)
    · obtain rfl : i = t.wits.length := by omega
      refine Run.go ?_; (conv => whnf); repeat' (first | ((with_reducible refine Know.mk fun _ => ?_); conv => whnf) | ((with_reducible refine Need.mk ?_ ?_); exact nd; conv => whnf) | ((with_reducible refine Both.mk ?_ ?_) <;> conv => whnf) | ((with_reducible refine Any.mk fun b hb => ?_); conv => whnf) | ((with_reducible first | refine AskB.dec (fun hb => ?_) (fun hb => ?_) | refine AskB.ndec (fun hb => ?_) (fun hb => ?_) | refine AskB.mk (fun hb => ?_) (fun hb => ?_)) <;> first | (exfalso; omega) | (conv => whnf)) | ((with_reducible first | refine Run.drawX rfl (by decide +kernel) ?_ | refine Run.drawT rfl (by decide +kernel) ?_ | refine Run.drawW rfl (by decide +kernel) ?_); conv => whnf))
      all_goals try (exfalso; omega)
      · have hk : ¬ ColOk t c := fun h => by
          obtain ⟨k, hk1, hk2⟩ := h.2.2
          exact hk2 (hsame (by omega) k hk1)
        exact Run.leave (ts := [2]) (.inr ⟨_, rfl⟩) rfl Tryd.func18 rfl (Le.int (hno (fun o h => h (o.col c hcc)) hk).symm)
      · have hok : ColOk t c := ⟨hlen, hcells, by
          refine Classical.byContradiction fun hno' => ?_
          have hall : ∀ k, k < t.wits.length → atC t c k = -1 := fun k hk => Classical.byContradiction fun h => hno' ⟨k, hk, h⟩
          have hz : ∀ n, n ≤ t.wits.length → sumN t c n = sumN t c 0 := fun n => by
            induction n with
            | zero => intro _; rfl
            | succ n ih => intro h; rw [sumN_none hcc (hall n (by omega)), ih (by omega)]
          have := hz _ (Nat.le_refl _)
          omega⟩
        refine Run.to _ _ ?_ ?_ (IH (c + 1) (by omega) ⟨by omega, fun k hk => ?_, le_end hlei⟩)
        · refine ⟨Le.refl _, Le.refl _, Le.refl _, ?_, Le.refl _, Le.int hwc, trivial⟩
          rw [← sumN_end]; exact Le.refl _
        · refine ⟨MOle.refl _, ?_, trivial⟩
          rw [← nextL_end]; exact MOle.refl _
        · by_cases e : k = c
          · subst e; exact hok
          · exact hck k (by omega)
  · have hcc : c < t.cols.length := by omega
    have hk : ¬ ColOk t c := fun h => by
      have h1 := h.1
      have h2 : (t.cols.getD (c : Int).toNat tIL.z).length = t.wits.length := h1
      omega
    exact Run.leave (ts := [2]) (.inr ⟨_, rfl⟩) rfl Tryd.func18 rfl (Le.int (hno (fun o h => h (o.col c hcc)) hk).symm)
  all_goals obtain rfl : c = t.cols.length := by omega
  · refine Run.leave (ts := [2]) (.inr ⟨_, rfl⟩) rfl Tryd.func18 rfl (Le.int (hno (fun o h => ?_) hb).symm)
    have := sum_of o.all
    omega
  · refine Run.leave (ts := [2]) (.inr ⟨_, rfl⟩) rfl Tryd.func18 rfl (Le.int (chk_ok ⟨hn1, hn12, hnc, hwk, hck, all_of hle (by omega)⟩).symm)
end Go.Proofs.YtnadacaoehpdnaaDoor.V

namespace Go.Proofs.YtnadacaoehpdnaaDoor.V
set_option linter.unusedVariables false
set_option linter.unusedSimpArgs false
open Go Go.Proofs Go.RowKit
set_option maxRecDepth 100000
set_option maxHeartbeats 4000000
theorem textF_empty (o : Int) : textF .empty o = .empty := by
  unfold textF
  rw [cells_out (by decide)]; rfl
/-- What a table's cells are. -/
theorem at_ok {t : Tab} (h : OkT t) {c i : Nat} (hc : c < t.cols.length) (hi : i < t.wits.length) : (t.cols.getD c []).length = t.wits.length ∧ (atC t c i = -1 ∨ (0 ≤ atC t c i ∧ (atC t c i).toNat < (witAt t i).words.length)) := by
  obtain ⟨h1, h2, h3⟩ := h.col c hc
  refine ⟨h1, ?_⟩
  rcases h2 i hi with h4 | ⟨h4, h5⟩
  · exact .inl h4
  · exact .inr ⟨by omega, by omega⟩
theorem text_small {t : Tab} (hf : FitT t) (hok : OkT t) {c : Nat} (hc : c < t.cols.length) (j : Nat) (hj : j < t.wits.length) : (textAt t c j).size ≤ 134217728 := by
  obtain ⟨_, h⟩ := at_ok hok hc hj
  unfold textAt
  split
  · exact Nat.zero_le _
  · rcases h with h | ⟨h1, h2⟩
    · omega
    · exact (hf.wit (witAt t j) (getD_mem' j hj)).2.2 _ (getD_mem' _ h2)
end Go.Proofs.YtnadacaoehpdnaaDoor.V

namespace Go.Proofs.YtnadacaoehpdnaaDoor.V
set_option linter.unusedVariables false
set_option linter.unusedSimpArgs false
open Go Go.Proofs Go.RowKit
set_option maxRecDepth 100000
set_option maxHeartbeats 4000000
theorem mget_mset' {α β : Type} [DecidableEq α] (k k' : α) (v : β) : ∀ l : List (α × β), mget k' (mset k v l) = if k' = k then some v else mget k' l
  | [] => by
    unfold mset mget
    by_cases h : k' = k
    · rw [if_pos h, if_pos h]
    · rw [if_neg h, if_neg h]; rfl
  | p :: l => by
    unfold mset
    by_cases h1 : k = p.1
    · rw [if_pos h1]
      unfold mget
      by_cases h : k' = k
      · rw [if_pos h, if_pos h]
      · rw [if_neg h, if_neg h, if_neg (fun e => h (e.trans h1.symm))]
    · rw [if_neg h1]
      unfold mget
      by_cases h2 : k' = p.1
      · rw [if_pos h2, if_pos h2, if_neg (fun e => h1 (e.symm.trans h2))]
      · rw [if_neg h2, if_neg h2, mget_mset' k k' v l]
theorem fidx_none {α : Type} {p : α → Bool} {z : α} : ∀ {l : List α}, (∀ k, k < l.length → p (l.getD k z) = false) → l.findIdx p = l.length
  | [], _ => rfl
  | x :: l, h => by
    have h0 := h 0 (by simp)
    rw [List.getD_cons_zero] at h0
    rw [List.findIdx_cons, h0, cond_false, fidx_none (z := z) (l := l) (fun k hk => by have := h (k + 1) (by simpa using hk); rw [List.getD_cons_succ] at this; exact this)]; rfl
theorem fidx_at {α : Type} {p : α → Bool} {z : α} {l : List α} {k : Nat} (hk : k < l.length) (h : p (l.getD k z) = true) (hj : ∀ j, j < k → p (l.getD j z) = false) : l.findIdx p = k := by
  refine fidx_hit (z := z) ?_ hk h
  have : ∀ m, m ≤ k → m ≤ l.findIdx p := fun m => by
    induction m with
    | zero => intro _; exact Nat.zero_le _
    | succ m ih => intro hm; exact fidx_miss (z := z) (ih (by omega)) (by omega) (hj m (by omega))
  exact this k (Nat.le_refl _)
theorem push_same (l : List Rd) (k : Nat) (i : Int) (j : Nat) : ((pushW l k i).getD j rd0).none = (l.getD j rd0).none ∧ ((pushW l k i).getD j rd0).text = (l.getD j rd0).text := by
  unfold pushW
  by_cases e : j = k
  · subst e
    by_cases hj : j < l.length
    · rw [List.getD, List.getElem?_set_self hj]; exact ⟨rfl, rfl⟩
    · rw [List.set_eq_of_length_le (by omega)]; exact ⟨rfl, rfl⟩
  · rw [List.getD, List.getElem?_set_ne (Ne.symm e)]; exact ⟨rfl, rfl⟩
/-- What the walk knows of its readings: where the one without words is, under which number each key is. -/
structure ColI (o : Int) (l : List Rd) (none : Int) (at' : List (ByteArray × Int)) : Prop where
  nn : (none = -1 ∧ ∀ k, k < l.length → (l.getD k rd0).none = false) ∨ (∃ k, k < l.length ∧ none = (k : Nat) ∧ (l.getD k rd0).none = true ∧ ∀ j, j < l.length → (l.getD j rd0).none = true → j = k)
  key : ∀ (s : ByteArray) (v : Int), mget s at' = some v ↔ ∃ k, k < l.length ∧ v = (k : Nat) ∧ (l.getD k rd0).none = false ∧ textF (l.getD k rd0).text o = s
  text : ∀ k, k < l.length → (l.getD k rd0).none = true → (l.getD k rd0).text = .empty
theorem ColI.push {o : Int} {l : List Rd} {none : Int} {at' : List (ByteArray × Int)} (h : ColI o l none at') (k : Nat) (i : Int) : ColI o (pushW l k i) none at' := by
  have hl := push_len l k i
  have hs := push_same l k i
  constructor
  · rcases h.nn with ⟨h1, h2⟩ | ⟨j, h1, h2, h3, h4⟩
    · exact .inl ⟨h1, fun m hm => by rw [(hs m).1]; exact h2 m (by omega)⟩
    · exact .inr ⟨j, by omega, h2, by rw [(hs j).1]; exact h3, fun m hm hn => h4 m (by omega) (by rw [← (hs m).1]; exact hn)⟩
  · intro s v
    rw [h.key s v]
    constructor
    · rintro ⟨m, h1, h2, h3, h4⟩; exact ⟨m, by omega, h2, by rw [(hs m).1]; exact h3, by rw [(hs m).2]; exact h4⟩
    · rintro ⟨m, h1, h2, h3, h4⟩; exact ⟨m, by omega, h2, by rw [← (hs m).1]; exact h3, by rw [← (hs m).2]; exact h4⟩
  · intro m hm hn
    rw [(hs m).2]
    exact h.text m (by omega) (by rw [← (hs m).1]; exact hn)
theorem ColI.start (o : Int) : ColI o [] (-1) [] := ⟨.inl ⟨rfl, fun k hk => absurd hk (Nat.not_lt_zero _)⟩, fun s v => ⟨fun h => (by cases h), fun ⟨k, hk, _⟩ => absurd hk (Nat.not_lt_zero _)⟩, fun k hk => absurd hk (Nat.not_lt_zero _)⟩
theorem app_at {l : List Rd} {r : Rd} {k : Nat} (hk : k < (l ++ [r]).length) : (k < l.length ∧ (l ++ [r]).getD k rd0 = l.getD k rd0) ∨ (k = l.length ∧ (l ++ [r]).getD k rd0 = r) := by
  rw [List.length_append, List.length_singleton] at hk
  by_cases h : k < l.length
  · exact .inl ⟨h, getD_app1 h⟩
  · obtain rfl : k = l.length := by omega
    exact .inr ⟨rfl, getD_app2⟩
theorem ColI.addNone {o : Int} {l : List Rd} {at' : List (ByteArray × Int)} (h : ColI o l (-1) at') : ColI o (l ++ [⟨true, .empty, []⟩]) (l.length : Nat) at' := by
  have hno : ∀ k, k < l.length → (l.getD k rd0).none = false := by
    rcases h.nn with ⟨_, h2⟩ | ⟨j, _, h2, _⟩
    · exact h2
    · omega
  have hlen : (l ++ [(⟨true, .empty, []⟩ : Rd)]).length = l.length + 1 := by simp
  constructor
  · refine .inr ⟨l.length, by omega, rfl, by rw [getD_app2], fun j hj hn => ?_⟩
    rcases app_at hj with ⟨h1, h2⟩ | ⟨h1, _⟩
    · rw [h2, hno j h1] at hn; cases hn
    · exact h1
  · intro s v
    rw [h.key s v]
    constructor
    · rintro ⟨m, h1, h2, h3, h4⟩; exact ⟨m, by omega, h2, by rw [getD_app1 h1]; exact h3, by rw [getD_app1 h1]; exact h4⟩
    · rintro ⟨m, h1, h2, h3, h4⟩
      rcases app_at h1 with ⟨e1, e2⟩ | ⟨e1, e2⟩
      · rw [e2] at h3 h4; exact ⟨m, e1, h2, h3, h4⟩
      · rw [e2] at h3; cases h3
  · intro m hm hn
    rcases app_at hm with ⟨e1, e2⟩ | ⟨e1, e2⟩
    · rw [e2] at hn ⊢; exact h.text m e1 hn
    · rw [e2]
theorem ColI.addKey {o : Int} {l : List Rd} {none : Int} {at' : List (ByteArray × Int)} (h : ColI o l none at') (text : ByteArray) (hno : mget (textF text o) at' = .none) : ColI o (l ++ [⟨false, text, []⟩]) none (mset (textF text o) ((l.length : Nat) : Int) at') := by
  have hlen : (l ++ [(⟨false, text, []⟩ : Rd)]).length = l.length + 1 := by simp
  constructor
  · rcases h.nn with ⟨h1, h2⟩ | ⟨j, h1, h2, h3, h4⟩
    · refine .inl ⟨h1, fun k hk => ?_⟩
      rcases app_at hk with ⟨e1, e2⟩ | ⟨e1, e2⟩
      · rw [e2]; exact h2 k e1
      · rw [e2]
    · refine .inr ⟨j, by omega, h2, by rw [getD_app1 h1]; exact h3, fun m hm hn => ?_⟩
      rcases app_at hm with ⟨e1, e2⟩ | ⟨e1, e2⟩
      · rw [e2] at hn; exact h4 m e1 hn
      · rw [e2] at hn; cases hn
  · intro s v
    rw [mget_mset']
    by_cases e : s = textF text o
    · subst e
      rw [if_pos rfl]
      constructor
      · intro hv; cases hv; exact ⟨l.length, by omega, rfl, by rw [getD_app2], by rw [getD_app2]⟩
      · rintro ⟨m, h1, h2, h3, h4⟩
        rcases app_at h1 with ⟨e1, e2⟩ | ⟨e1, e2⟩
        · rw [e2] at h3 h4
          have := (h.key _ ((m : Nat) : Int)).mpr ⟨m, e1, rfl, h3, h4⟩
          rw [hno] at this; cases this
        · rw [h2, e1]
    · rw [if_neg e, h.key s v]
      constructor
      · rintro ⟨m, h1, h2, h3, h4⟩; exact ⟨m, by omega, h2, by rw [getD_app1 h1]; exact h3, by rw [getD_app1 h1]; exact h4⟩
      · rintro ⟨m, h1, h2, h3, h4⟩
        rcases app_at h1 with ⟨e1, e2⟩ | ⟨e1, e2⟩
        · rw [e2] at h3 h4; exact ⟨m, e1, h2, h3, h4⟩
        · rw [e2] at h4; exact absurd h4.symm e
  · intro m hm hn
    rcases app_at hm with ⟨e1, e2⟩ | ⟨e1, e2⟩
    · rw [e2] at hn ⊢; exact h.text m e1 hn
    · rw [e2] at hn; cases hn
theorem ColI.findNone {o : Int} {l : List Rd} {none : Int} {at' : List (ByteArray × Int)} (h : ColI o l none at') : (none = -1 ∧ l.findIdx (sameR o true .empty) = l.length) ∨ (none = (l.findIdx (sameR o true .empty) : Nat) ∧ l.findIdx (sameR o true .empty) < l.length) := by
  rcases h.nn with ⟨h1, h2⟩ | ⟨k, h1, h2, h3, h4⟩
  · exact .inl ⟨h1, fidx_none (z := rd0) (fun k hk => by unfold sameR; rw [h2 k hk]; rfl)⟩
  · have := fidx_at (z := rd0) (p := sameR o true .empty) h1 (by unfold sameR; rw [h3, h.text k h1 h3, textF_empty]; rfl) (fun j hj => by
      unfold sameR
      cases hn : (l.getD j rd0).none with
      | false => rfl
      | true => exact absurd (h4 j (by omega) hn) (by omega))
    rw [this]
    exact .inr ⟨h2, h1⟩
theorem ColI.findKey {o : Int} {l : List Rd} {none : Int} {at' : List (ByteArray × Int)} (h : ColI o l none at') (s : ByteArray) : (mget s at' = .none ∧ l.findIdx (sameR o false s) = l.length) ∨ (mget s at' = some ((l.findIdx (sameR o false s) : Nat) : Int) ∧ l.findIdx (sameR o false s) < l.length) := by
  have hp : ∀ k, sameR o false s (l.getD k rd0) = true ↔ ((l.getD k rd0).none = false ∧ textF (l.getD k rd0).text o = s) := fun k => by
    unfold sameR
    rw [Bool.and_eq_true, decide_eq_true_iff]
    simp
  cases hg : mget s at' with
  | none =>
    refine .inl ⟨rfl, fidx_none (z := rd0) (fun k hk => ?_)⟩
    cases hq : sameR o false s (l.getD k rd0) with
    | false => rfl
    | true =>
      obtain ⟨h1, h2⟩ := (hp k).mp hq
      have := (h.key s ((k : Nat) : Int)).mpr ⟨k, hk, rfl, h1, h2⟩
      rw [hg] at this; cases this
  | some v =>
    obtain ⟨k, hk, hv, h1, h2⟩ := (h.key s v).mp hg
    have := fidx_at (z := rd0) (p := sameR o false s) hk ((hp k).mpr ⟨h1, h2⟩) (fun j hj => by
      cases hq : sameR o false s (l.getD j rd0) with
      | false => rfl
      | true =>
        obtain ⟨e1, e2⟩ := (hp j).mp hq
        have := (h.key s ((j : Nat) : Int)).mpr ⟨j, by omega, rfl, e1, e2⟩
        rw [hg] at this
        injection this with e
        omega)
    rw [this, hv]
    exact .inr ⟨rfl, hk⟩
theorem column_fn (t : Tab) (c : Nat) (o : Int) (hf : FitT t) (hok : OkT t) (hc : c < t.cols.length) (ho : ¬ badO o) : Fn Tryd.prog 39 [tbA t, .int .i64 c, .int .i64 o] (tRd.L (readE t c o t.wits.length)) := by
  refine Fn.of Tryd.f39 _ Tryd.func39 rfl (by decide) (by show 3 ≤ _; decide) tbOk 99 rfl fun S w0 gl => ?_
  have hn12 := hok.n12
  have hfc := hf.cols
  have hlen : (t.cols.getD (c : Int).toNat tIL.z).length = t.wits.length := (hok.col c hc).1
  refine Run.go ?_; (conv => whnf); repeat' (first | ((with_reducible refine Know.mk fun _ => ?_); conv => whnf) | ((with_reducible refine Need.mk ?_ ?_); exact nd; conv => whnf) | ((with_reducible first | refine Both.mk ?_ ?_ | refine Any.mk fun b hb => ?_ | refine AskB.dec (fun hb => ?_) (fun hb => ?_) | refine AskB.ndec (fun hb => ?_) (fun hb => ?_) | refine AskB.mk (fun hb => ?_) (fun hb => ?_)) <;> conv => whnf) | ((with_reducible first | refine Run.drawX rfl (by decide +kernel) ?_ | refine Run.drawT rfl (by decide +kernel) ?_ | refine Run.drawW rfl (by decide +kernel) ?_); conv => whnf))
  refine Run.holdNil 7 1000 47 3 (fun _ _ => .nils) rfl ?_
  refine Run.asMat 1000 2 3 1 (e := 47) (sz := 3) (n := 0) (get := fun _ _ => .nils) rfl (by decide) (fun i hi => absurd hi (Nat.not_lt_zero _)) ?_
  refine Run.loop [2, 22, 23] (fun (a : Nat × Int × List (ByteArray × Int)) => [(3, .box 3 0), (7, .row 1000), (8, .obj 17), (9, .int .i64 a.2.1), (24, .int .i64 (a.1 : Int))]) (fun a => [(3, .box 25 [tWit.L t.wits, tIL.L t.cols]), (1000, rdM (readE t c o a.1)), (17, .mp (.si a.2.2))])
    (fun a => a.1 ≤ t.wits.length ∧ ColI o (readE t c o a.1) a.2.1 a.2.2) (fun a => t.wits.length - a.1) (0, -1, []) ⟨Nat.zero_le _, ColI.start o⟩ ⟨Le.refl _, Le.refl _, Le.refl _, Le.refl _, Le.refl _, trivial⟩ ⟨MOle.refl _, rdM_nil _ _ _, MOle.refl _, trivial⟩ ?_
  intro ⟨i, no, at'⟩ ⟨hi, hI⟩ IH
  simp only [] at hi hI ⊢
  have hwi : IntKind.i64.wrap ((i : Int) + 1) = ((i + 1 : Nat) : Int) := wrap64 (by omega) (by omega)
  have hrl := read_len t c o i
  have hwl := wits_le t c o i
  show Run _ _ (lst (_ ++ [(3, .box 3 0), (7, .row 1000), (8, .obj 17), (9, .int .i64 no), (24, .int .i64 (i : Int))])) (lstH [(3, .box 25 [tWit.L t.wits, tIL.L t.cols]), (1000, rdM (readE t c o i)), (17, .mp (.si at'))])
  by_cases hil : i < t.wits.length
  · obtain ⟨_, hat⟩ := at_ok hok hc hil
    have hx : (t.cols.getD (c : Int).toNat tIL.z).getD (i : Int).toNat tI.z = atC t c i := rfl
    have hlw2 : (t.wits.getD (i : Int).toNat tWit.z).words.length = (witAt t i).words.length := rfl
    have hts := text_small hf hok hc i hil
    have hnx : readE t c o (i + 1) = addR o (readE t c o i) i (decide (atC t c i < 0)) (textAt t c i) (keyAt t c o i) := rfl
    generalize readE t c o i = l at hrl hwl hnx hI ⊢
    have hewl : ∀ k nn text, ∀ r ∈ ensR l k nn text, r.wits.length ≤ i := fun k nn text r hr => by
      unfold ensR at hr
      split at hr
      · rcases List.mem_append.mp hr with h1 | h1
        · exact hwl r h1
        · rw [List.mem_singleton] at h1; subst h1; exact Nat.zero_le _
      · exact hwl r hr
    refine Run.goS true 0 ?_; (conv => whnf); repeat' (first | ((with_reducible refine Know.mk fun _ => ?_); conv => whnf) | ((with_reducible refine Need.mk ?_ ?_); exact nd; conv => whnf) | ((with_reducible first | refine Both.mk ?_ ?_ | refine Any.mk fun b hb => ?_ | refine AskB.dec (fun hb => ?_) (fun hb => ?_) | refine AskB.ndec (fun hb => ?_) (fun hb => ?_) | refine AskB.mk (fun hb => ?_) (fun hb => ?_)) <;> conv => whnf) | ((with_reducible first | refine Run.drawX rfl (by decide +kernel) ?_ | refine Run.drawT rfl (by decide +kernel) ?_ | refine Run.drawW rfl (by decide +kernel) ?_); conv => whnf))
    refine Run.cond2 rfl (fun hb => ?_) (fun hb => absurd (of_decide_eq_false hb) (by omega))
    refine Run.goS true 0 ?_; (conv => whnf); repeat' (first | ((with_reducible refine Know.mk fun _ => ?_); conv => whnf) | ((with_reducible refine Need.mk ?_ ?_); exact nd; conv => whnf) | ((with_reducible first | refine Both.mk ?_ ?_ | refine Any.mk fun b hb => ?_ | refine AskB.dec (fun hb => ?_) (fun hb => ?_) | refine AskB.ndec (fun hb => ?_) (fun hb => ?_) | refine AskB.mk (fun hb => ?_) (fun hb => ?_)) <;> conv => whnf) | ((with_reducible first | refine Run.drawX rfl (by decide +kernel) ?_ | refine Run.drawT rfl (by decide +kernel) ?_ | refine Run.drawW rfl (by decide +kernel) ?_); conv => whnf))
    refine Run.cond2 rfl (fun hb => ?_) (fun hb => ?_)
    · have hx0 : atC t c i < 0 := of_decide_eq_true hb
      have hte : textAt t c i = .empty := by unfold textAt; rw [if_pos hx0]
      have hke : keyAt t c o i = .empty := by unfold keyAt; rw [if_pos hx0]
      rw [hte, hke, decide_eq_true hx0] at hnx
      obtain ⟨k, hkd⟩ : ∃ k, l.findIdx (sameR o true .empty) = k := ⟨_, rfl⟩
      have hfn := hI.findNone
      rw [hkd] at hfn
      have hkl : k ≤ l.length := by rw [← hkd]; exact List.findIdx_le_length
      have hens := ens_len l k true .empty hkl
      have hadd : readE t c o (i + 1) = pushW (ensR l k true .empty) k i := by rw [hnx]; unfold addR; rw [hkd]
      have hI2 : ColI o (ensR l k true .empty) (k : Nat) at' := by
        unfold ensR
        rcases hfn with ⟨h1, h2⟩ | ⟨h1, h2⟩
        · rw [if_pos h2, h2]
          rw [h1] at hI
          exact hI.addNone
        · rw [if_neg (by omega), ← h1]; exact hI
      refine Run.goS true 0 ?_; (conv => whnf); repeat' (first | ((with_reducible refine Know.mk fun _ => ?_); conv => whnf) | ((with_reducible refine Need.mk ?_ ?_); exact nd; conv => whnf) | ((with_reducible first | refine Both.mk ?_ ?_ | refine Any.mk fun b hb => ?_ | refine AskB.dec (fun hb => ?_) (fun hb => ?_) | refine AskB.ndec (fun hb => ?_) (fun hb => ?_) | refine AskB.mk (fun hb => ?_) (fun hb => ?_)) <;> conv => whnf) | ((with_reducible first | refine Run.drawX rfl (by decide +kernel) ?_ | refine Run.drawT rfl (by decide +kernel) ?_ | refine Run.drawW rfl (by decide +kernel) ?_); conv => whnf))
      refine Run.ifk [2, 3, 8, 10, 22, 23, 24] (fun (_ : Unit) => [(7, .row 1000), (9, .int .i64 (k : Int))]) (fun _ => [(3, .box 25 [tWit.L t.wits, tIL.L t.cols]), (1000, rdM (ensR l k true .empty)), (17, .mp (.si at'))]) (fun _ => True) rfl ⟨fun next => ⟨fun hb => ?_, fun hb => ?_⟩, fun _ _ => ?_⟩
      · have hb := of_decide_eq_true hb
        have hke : k = l.length := by omega
        have hee : ensR l k true .empty = l ++ [⟨true, .empty, []⟩] := if_pos hke
        refine Run.goS false 7 ?_; (conv => whnf); repeat' (first | ((with_reducible refine Know.mk fun _ => ?_); conv => whnf) | ((with_reducible refine Need.mk ?_ ?_); exact nd; conv => whnf) | ((with_reducible first | refine Both.mk ?_ ?_ | refine Any.mk fun b hb => ?_ | refine AskB.dec (fun hb => ?_) (fun hb => ?_) | refine AskB.ndec (fun hb => ?_) (fun hb => ?_) | refine AskB.mk (fun hb => ?_) (fun hb => ?_)) <;> conv => whnf) | ((with_reducible first | refine Run.drawX rfl (by decide +kernel) ?_ | refine Run.drawT rfl (by decide +kernel) ?_ | refine Run.drawW rfl (by decide +kernel) ?_); conv => whnf))
        refine Run.appendM (d := 38) (id := 1000) (z := 37) (t := 42) (t2 := 42) (e := 47) (sz := 3) (om := 2) (s := .tmp 35) (x := .tmp 37) rfl rfl rfl rfl rfl rfl rfl rfl rfl rfl rfl rfl rfl rfl rfl rfl (by decide) (Nat.le_of_ble_eq_true rfl) ⟨_, rfl, rfl⟩ ?_ ?_
        · show (l.length + 1) * 48 ≤ _
          omega
        refine Run.goS false 7 ?_; (conv => whnf); repeat' (first | ((with_reducible refine Know.mk fun _ => ?_); conv => whnf) | ((with_reducible refine Need.mk ?_ ?_); exact nd; conv => whnf) | ((with_reducible first | refine Both.mk ?_ ?_ | refine Any.mk fun b hb => ?_ | refine AskB.dec (fun hb => ?_) (fun hb => ?_) | refine AskB.ndec (fun hb => ?_) (fun hb => ?_) | refine AskB.mk (fun hb => ?_) (fun hb => ?_)) <;> conv => whnf) | ((with_reducible first | refine Run.drawX rfl (by decide +kernel) ?_ | refine Run.drawT rfl (by decide +kernel) ?_ | refine Run.drawW rfl (by decide +kernel) ?_); conv => whnf))
        refine Run.holdM 7 1000 (z := 38) rfl rfl rfl ?_
        refine Run.to _ _ ?_ ?_ (next () trivial)
        · exact ⟨Le.refl _, Le.refl _, Le.refl _, Le.refl _, Le.refl _, Le.refl _, Le.refl _, Le.refl _, Le.int (by show (l.length : Int) = k; omega), trivial⟩
        · refine ⟨MOle.refl _, ?_, MOle.refl _, trivial⟩
          rw [hee]
          exact rdM_app l _ _ _ (Le.tt.trans (Le.refl _)) (Le.refl _)
      · have hb := of_decide_eq_false hb
        have hke : ¬ k = l.length := by omega
        have hee : ensR l k true .empty = l := if_neg hke
        refine Run.goS false 7 ?_; (conv => whnf); repeat' (first | ((with_reducible refine Know.mk fun _ => ?_); conv => whnf) | ((with_reducible refine Need.mk ?_ ?_); exact nd; conv => whnf) | ((with_reducible first | refine Both.mk ?_ ?_ | refine Any.mk fun b hb => ?_ | refine AskB.dec (fun hb => ?_) (fun hb => ?_) | refine AskB.ndec (fun hb => ?_) (fun hb => ?_) | refine AskB.mk (fun hb => ?_) (fun hb => ?_)) <;> conv => whnf) | ((with_reducible first | refine Run.drawX rfl (by decide +kernel) ?_ | refine Run.drawT rfl (by decide +kernel) ?_ | refine Run.drawW rfl (by decide +kernel) ?_); conv => whnf))
        refine Run.to _ _ ?_ ?_ (next () trivial)
        · exact ⟨Le.refl _, Le.refl _, Le.refl _, Le.refl _, Le.refl _, Le.refl _, Le.refl _, Le.refl _, Le.int (by omega), trivial⟩
        · refine ⟨MOle.refl _, ?_, MOle.refl _, trivial⟩
          rw [hee]; exact MOle.refl _
      · have hwn : rdN (ensR l k true .empty) k ≤ i := hewl _ _ _ _ (getD_mem' k hens.1)
        generalize ensR l k true .empty = L at hens hadd hwn hI2 ⊢
        have hkL := hens.1
        have hwn2 : rdN L (k : Int).toNat ≤ i := hwn
        refine Run.go ?_; (conv => whnf); repeat' (first | ((with_reducible refine Know.mk fun _ => ?_); conv => whnf) | ((with_reducible refine Need.mk ?_ ?_); exact nd; conv => whnf) | ((with_reducible first | refine Both.mk ?_ ?_ | refine Any.mk fun b hb => ?_ | refine AskB.dec (fun hb => ?_) (fun hb => ?_) | refine AskB.ndec (fun hb => ?_) (fun hb => ?_) | refine AskB.mk (fun hb => ?_) (fun hb => ?_)) <;> conv => whnf) | ((with_reducible first | refine Run.drawX rfl (by decide +kernel) ?_ | refine Run.drawT rfl (by decide +kernel) ?_ | refine Run.drawW rfl (by decide +kernel) ?_); conv => whnf))
        refine Run.takeM 45 2000 rfl rfl rfl ?_
        refine Run.go ?_; (conv => whnf); repeat' (first | ((with_reducible refine Know.mk fun _ => ?_); conv => whnf) | ((with_reducible refine Need.mk ?_ ?_); exact nd; conv => whnf) | ((with_reducible first | refine Both.mk ?_ ?_ | refine Any.mk fun b hb => ?_ | refine AskB.dec (fun hb => ?_) (fun hb => ?_) | refine AskB.ndec (fun hb => ?_) (fun hb => ?_) | refine AskB.mk (fun hb => ?_) (fun hb => ?_)) <;> conv => whnf) | ((with_reducible first | refine Run.drawX rfl (by decide +kernel) ?_ | refine Run.drawT rfl (by decide +kernel) ?_ | refine Run.drawW rfl (by decide +kernel) ?_); conv => whnf))
        refine Run.to _ _ ?_ ?_ (IH (i + 1, k, at') (by simp only []; omega) ⟨by simp only []; omega, by simp only []; rw [hadd]; exact hI2.push k i⟩)
        · exact ⟨Le.refl _, Le.refl _, Le.refl _, Le.refl _, Le.refl _, Le.refl _, Le.refl _, Le.int hwi, trivial⟩
        · refine ⟨MOle.refl _, ?_, MOle.refl _, trivial⟩
          simp only []
          rw [hadd]
          exact rdM_push L k i hkL _ rfl
    · have hx0 : ¬ atC t c i < 0 := of_decide_eq_false hb
      have hxl : (atC t c i).toNat < (witAt t i).words.length := by omega
      have hte : textAt t c i = ((witAt t i).words.getD (atC t c i).toNat tWrd.z).text := by unfold textAt; rw [if_neg hx0]
      have hke : keyAt t c o i = textF (textAt t c i) o := by unfold keyAt; rw [if_neg hx0]
      have ht := text26_fn (textAt t c i) o hts
      unfold textL at ht
      rw [if_neg ho, if_neg ho] at ht
      rw [hke, decide_eq_false hx0] at hnx
      generalize hT : textAt t c i = T at hte hke ht hnx hts
      obtain ⟨k, hkd⟩ : ∃ k, l.findIdx (sameR o false (textF T o)) = k := ⟨_, rfl⟩
      have hfk := hI.findKey (textF T o)
      rw [hkd] at hfk
      have hkl : k ≤ l.length := by rw [← hkd]; exact List.findIdx_le_length
      have hens := ens_len l k false T hkl
      have hadd : readE t c o (i + 1) = pushW (ensR l k false T) k i := by rw [hnx]; unfold addR; rw [hkd]
      have hwn : rdN (ensR l k false T) k ≤ i := hewl _ _ _ _ (getD_mem' k hens.1)
      refine Run.go ?_; (conv => whnf); repeat' (first | ((with_reducible refine Know.mk fun _ => ?_); conv => whnf) | ((with_reducible refine Need.mk ?_ ?_); exact nd; conv => whnf) | ((with_reducible first | refine Both.mk ?_ ?_ | refine Any.mk fun b hb => ?_ | refine AskB.dec (fun hb => ?_) (fun hb => ?_) | refine AskB.ndec (fun hb => ?_) (fun hb => ?_) | refine AskB.mk (fun hb => ?_) (fun hb => ?_)) <;> conv => whnf) | ((with_reducible first | refine Run.drawX rfl (by decide +kernel) ?_ | refine Run.drawT rfl (by decide +kernel) ?_ | refine Run.drawW rfl (by decide +kernel) ?_); conv => whnf))
      refine Run.callBX ht rfl rfl ⟨Le.str hte.symm, Le.refl _, trivial⟩ rfl rfl rfl ?_
      rcases hfk with ⟨hg, hk⟩ | ⟨hg, hk⟩
      · have hs1 : (mget (textF T o) at').isSome = false := by rw [hg]; rfl
        have hee : ensR l k false T = l ++ [⟨false, T, []⟩] := if_pos hk
        have hI2 : ColI o (ensR l k false T) no (mset (textF T o) ((l.length : Nat) : Int) at') := by
          rw [hee]; exact hI.addKey T hg
        (conv => whnf); repeat' (first | ((with_reducible refine Know.mk fun _ => ?_); conv => whnf) | ((with_reducible refine Need.mk ?_ ?_); exact nd; conv => whnf) | ((with_reducible first | refine Both.mk ?_ ?_ | refine Any.mk fun b hb => ?_ | refine AskB.dec (fun hb => ?_) (fun hb => ?_) | refine AskB.ndec (fun hb => ?_) (fun hb => ?_) | refine AskB.mk (fun hb => ?_) (fun hb => ?_)) <;> conv => whnf) | ((with_reducible first | refine Run.drawX rfl (by decide +kernel) ?_ | refine Run.drawT rfl (by decide +kernel) ?_ | refine Run.drawW rfl (by decide +kernel) ?_); conv => whnf))
        all_goals try (rw [hs1] at hb; cases hb; done)
        refine Run.appendM (d := 84) (id := 1000) (z := 83) (t := 42) (t2 := 42) (e := 47) (sz := 3) (om := 2) (s := .tmp 80) (x := .tmp 83) rfl rfl rfl rfl rfl rfl rfl rfl rfl rfl rfl rfl rfl rfl rfl rfl (by decide) (Nat.le_of_ble_eq_true rfl) ⟨_, rfl, rfl⟩ ?_ ?_
        · show (l.length + 1) * 48 ≤ _
          omega
        refine aexec_ok 1 ?_; (conv => whnf); repeat' (first | ((with_reducible refine Know.mk fun _ => ?_); conv => whnf) | ((with_reducible refine Need.mk ?_ ?_); exact nd; conv => whnf) | ((with_reducible first | refine Both.mk ?_ ?_ | refine Any.mk fun b hb => ?_ | refine AskB.dec (fun hb => ?_) (fun hb => ?_) | refine AskB.ndec (fun hb => ?_) (fun hb => ?_) | refine AskB.mk (fun hb => ?_) (fun hb => ?_)) <;> conv => whnf) | ((with_reducible first | refine Run.drawX rfl (by decide +kernel) ?_ | refine Run.drawT rfl (by decide +kernel) ?_ | refine Run.drawW rfl (by decide +kernel) ?_); conv => whnf))
        refine Run.holdM 7 1000 (z := 84) rfl rfl rfl ?_
        refine Run.to [(2, .int .i64 o), (3, .box 3 0), (7, .row 1000), (8, .obj 17), (9, .int .i64 no), (10, .int .i64 i), (15, .int .i64 (k : Int)), (22, .sl (t.cols.getD (c : Int).toNat tIL.z).length tI.sz (tI.G (t.cols.getD (c : Int).toNat tIL.z))), (23, .int .i64 (t.cols.getD (c : Int).toNat tIL.z).length), (24, .int .i64 i)] [(3, .box 25 [tWit.L t.wits, tIL.L t.cols]), (1000, rdM (ensR l k false T)), (17, .mp (.si (mset (textF T o) ((l.length : Nat) : Int) at')))] ?_ ?_ ?_
        · exact ⟨Le.refl _, Le.refl _, Le.refl _, Le.refl _, Le.refl _, Le.refl _, Le.int (by show (l.length : Int) = k; omega), Le.refl _, Le.refl _, Le.refl _, trivial⟩
        · refine ⟨MOle.refl _, ?_, MOle.refl _, trivial⟩
          rw [hee]
          exact rdM_app l _ _ _ (Le.ff.trans (Le.refl _)) (Le.str hte.symm)
        generalize ensR l k false T = L at hens hadd hwn hI2 ⊢
        have hkL := hens.1
        have hwn2 : rdN L (k : Int).toNat ≤ i := hwn
        refine Run.go ?_; (conv => whnf); repeat' (first | ((with_reducible refine Know.mk fun _ => ?_); conv => whnf) | ((with_reducible refine Need.mk ?_ ?_); exact nd; conv => whnf) | ((with_reducible first | refine Both.mk ?_ ?_ | refine Any.mk fun b hb => ?_ | refine AskB.dec (fun hb => ?_) (fun hb => ?_) | refine AskB.ndec (fun hb => ?_) (fun hb => ?_) | refine AskB.mk (fun hb => ?_) (fun hb => ?_)) <;> conv => whnf) | ((with_reducible first | refine Run.drawX rfl (by decide +kernel) ?_ | refine Run.drawT rfl (by decide +kernel) ?_ | refine Run.drawW rfl (by decide +kernel) ?_); conv => whnf))
        refine Run.takeM 91 2000 rfl rfl rfl ?_
        refine Run.go ?_; (conv => whnf); repeat' (first | ((with_reducible refine Know.mk fun _ => ?_); conv => whnf) | ((with_reducible refine Need.mk ?_ ?_); exact nd; conv => whnf) | ((with_reducible first | refine Both.mk ?_ ?_ | refine Any.mk fun b hb => ?_ | refine AskB.dec (fun hb => ?_) (fun hb => ?_) | refine AskB.ndec (fun hb => ?_) (fun hb => ?_) | refine AskB.mk (fun hb => ?_) (fun hb => ?_)) <;> conv => whnf) | ((with_reducible first | refine Run.drawX rfl (by decide +kernel) ?_ | refine Run.drawT rfl (by decide +kernel) ?_ | refine Run.drawW rfl (by decide +kernel) ?_); conv => whnf))
        refine Run.to _ _ ?_ ?_ (IH (i + 1, no, mset (textF T o) ((l.length : Nat) : Int) at') (by simp only []; omega) ⟨by simp only []; omega, by simp only []; rw [hadd]; exact hI2.push k i⟩)
        · exact ⟨Le.refl _, Le.refl _, Le.refl _, Le.refl _, Le.refl _, Le.refl _, Le.refl _, Le.int hwi, trivial⟩
        · refine ⟨MOle.refl _, ?_, MOle.refl _, trivial⟩
          simp only []
          rw [hadd]
          exact rdM_push L k i hkL _ rfl
      · have hs1 : (mget (textF T o) at').isSome = true := by rw [hg]; rfl
        have hs2 : (mget (textF T o) at').getD 0 = (k : Nat) := by rw [hg]; rfl
        have hee : ensR l k false T = l := if_neg (by omega)
        rw [hee] at hadd hwn
        have hwn2 : rdN l ((mget (textF T o) at').getD 0).toNat ≤ i := by rw [hs2]; exact hwn
        (conv => whnf); repeat' (first | ((with_reducible refine Know.mk fun _ => ?_); conv => whnf) | ((with_reducible refine Need.mk ?_ ?_); exact nd; conv => whnf) | ((with_reducible first | refine Both.mk ?_ ?_ | refine Any.mk fun b hb => ?_ | refine AskB.dec (fun hb => ?_) (fun hb => ?_) | refine AskB.ndec (fun hb => ?_) (fun hb => ?_) | refine AskB.mk (fun hb => ?_) (fun hb => ?_)) <;> conv => whnf) | ((with_reducible first | refine Run.drawX rfl (by decide +kernel) ?_ | refine Run.drawT rfl (by decide +kernel) ?_ | refine Run.drawW rfl (by decide +kernel) ?_); conv => whnf))
        all_goals try (rw [hs1] at hb; cases hb; done)
        refine Run.takeM 91 2000 rfl rfl rfl ?_
        rw [hs2]
        have hwn3 : rdN l (k : Int).toNat ≤ i := hwn
        refine Run.go ?_; (conv => whnf); repeat' (first | ((with_reducible refine Know.mk fun _ => ?_); conv => whnf) | ((with_reducible refine Need.mk ?_ ?_); exact nd; conv => whnf) | ((with_reducible first | refine Both.mk ?_ ?_ | refine Any.mk fun b hb => ?_ | refine AskB.dec (fun hb => ?_) (fun hb => ?_) | refine AskB.ndec (fun hb => ?_) (fun hb => ?_) | refine AskB.mk (fun hb => ?_) (fun hb => ?_)) <;> conv => whnf) | ((with_reducible first | refine Run.drawX rfl (by decide +kernel) ?_ | refine Run.drawT rfl (by decide +kernel) ?_ | refine Run.drawW rfl (by decide +kernel) ?_); conv => whnf))
        refine Run.to _ _ ?_ ?_ (IH (i + 1, no, at') (by simp only []; omega) ⟨by simp only []; omega, by simp only []; rw [hadd]; exact hI.push k i⟩)
        · exact ⟨Le.refl _, Le.refl _, Le.refl _, Le.refl _, Le.refl _, Le.refl _, Le.refl _, Le.int hwi, trivial⟩
        · refine ⟨MOle.refl _, ?_, MOle.refl _, trivial⟩
          simp only []
          rw [hadd]
          exact rdM_push l k i hk _ rfl
  · obtain rfl : i = t.wits.length := by omega
    refine Run.go ?_; (conv => whnf); repeat' (first | ((with_reducible refine Know.mk fun _ => ?_); conv => whnf) | ((with_reducible refine Need.mk ?_ ?_); exact nd; conv => whnf) | ((with_reducible first | refine Both.mk ?_ ?_ | refine Any.mk fun b hb => ?_ | refine AskB.dec (fun hb => ?_) (fun hb => ?_) | refine AskB.ndec (fun hb => ?_) (fun hb => ?_) | refine AskB.mk (fun hb => ?_) (fun hb => ?_)) <;> conv => whnf) | ((with_reducible first | refine Run.drawX rfl (by decide +kernel) ?_ | refine Run.drawT rfl (by decide +kernel) ?_ | refine Run.drawW rfl (by decide +kernel) ?_); conv => whnf))
    all_goals try (exfalso; omega)
    refine Run.leave (ts := [6]) (.inr ⟨_, rfl⟩) rfl Tryd.func39 rfl (rdM_out _)
end Go.Proofs.YtnadacaoehpdnaaDoor.V

namespace Go.Proofs.YtnadacaoehpdnaaDoor.V
set_option linter.unusedVariables false
set_option linter.unusedSimpArgs false
open Go Go.Proofs Go.RowKit
set_option maxRecDepth 100000
set_option maxHeartbeats 4000000
theorem tb_le (t : Tab) {g : Nat → AV} (h0 : Le (g 0) (tWit.L t.wits)) (h1 : Le (g 1) (tIL.L t.cols)) : Le (.agg 2 g) (tbA t) := Le.agg fun j hj => by
  match j, hj with
  | 0, _ => exact h0
  | 1, _ => exact h1
theorem ints_fn (a b : List Int) (ha : a.length ≤ 1000000000) : Fn Tryd.prog 17 [tI.L a, tI.L b] (.bool (decide (a = b))) := by
  refine Fn.of Tryd.f17 _ Tryd.func17 rfl (by decide) (by show 2 ≤ _; decide) tbOk 26 rfl fun S w0 gl => ?_
  refine Run.go ?_; (conv => whnf); repeat' (first | ((with_reducible refine Know.mk fun _ => ?_); conv => whnf) | ((with_reducible refine Need.mk ?_ ?_); exact nd; conv => whnf) | ((with_reducible first | refine Both.mk ?_ ?_ | refine Any.mk fun b hb => ?_ | refine AskB.dec (fun hb => ?_) (fun hb => ?_) | refine AskB.ndec (fun hb => ?_) (fun hb => ?_) | refine AskB.mk (fun hb => ?_) (fun hb => ?_)) <;> conv => whnf) | ((with_reducible first | refine Run.drawX rfl (by decide +kernel) ?_ | refine Run.drawT rfl (by decide +kernel) ?_ | refine Run.drawW rfl (by decide +kernel) ?_); conv => whnf))
  · have hab : a.length = b.length := by omega
    refine Run.loop [0, 1] (fun (i : Nat) => [(5, .int .i64 (i : Int))]) (fun i => []) (fun i => i ≤ a.length ∧ a.take i = b.take i) (fun i => a.length - i) 0 ⟨Nat.zero_le _, rfl⟩ ⟨Le.refl _, trivial⟩ trivial ?_
    intro i ⟨hi, hc⟩ IH
    have hw : IntKind.i64.wrap ((i : Int) + 1) = ((i + 1 : Nat) : Int) := wrap64 (by omega) (by omega)
    refine Run.go ?_; (conv => whnf); repeat' (first | ((with_reducible refine Know.mk fun _ => ?_); conv => whnf) | ((with_reducible refine Need.mk ?_ ?_); exact nd; conv => whnf) | ((with_reducible first | refine Both.mk ?_ ?_ | refine Any.mk fun b hb => ?_ | refine AskB.dec (fun hb => ?_) (fun hb => ?_) | refine AskB.ndec (fun hb => ?_) (fun hb => ?_) | refine AskB.mk (fun hb => ?_) (fun hb => ?_)) <;> conv => whnf) | ((with_reducible first | refine Run.drawX rfl (by decide +kernel) ?_ | refine Run.drawT rfl (by decide +kernel) ?_ | refine Run.drawW rfl (by decide +kernel) ?_); conv => whnf))
    · have he : a.getD i tI.z = b.getD i tI.z := hb
      refine Run.to _ _ ?_ ?_ (IH (i + 1) (by omega) ⟨by omega, ?_⟩)
      · exact ⟨Le.refl _, Le.refl _, Le.int hw, trivial⟩
      · exact trivial
      · rw [take_at a i tI.z (by omega), take_at b i tI.z (by omega), hc, he]
    · refine Run.leave (ts := [4]) (.inr ⟨_, rfl⟩) rfl Tryd.func17 rfl (Le.ff.trans (Le.bool (decide_eq_false (fun h => ?_)).symm))
      subst h
      exact hb rfl
    · have hie : i = a.length := by omega
      refine Run.leave (ts := [4]) (.inr ⟨_, rfl⟩) rfl Tryd.func17 rfl (Le.tt.trans (Le.bool (decide_eq_true ?_).symm))
      rw [hie, List.take_length, hab, List.take_length] at hc
      exact hc
  · refine Run.leave (ts := [4]) (.inr ⟨_, rfl⟩) rfl Tryd.func17 rfl (Le.ff.trans (Le.bool (decide_eq_false (fun h => ?_)).symm))
    rw [h] at hb; exact hb rfl
def sitesE (t : Tab) (o : Int) : Nat → List Int
  | 0 => []
  | c + 1 => if 1 < (readE t c o t.wits.length).length then sitesE t o c ++ [(c : Int)] else sitesE t o c
theorem sites_len (t : Tab) (o : Int) : ∀ c, (sitesE t o c).length ≤ c
  | 0 => Nat.le_refl _
  | c + 1 => by
    have := sites_len t o c
    unfold sitesE
    split
    · rw [List.length_append, List.length_singleton]; omega
    · omega
open Classical in
noncomputable def siteCode (t : Tab) (o : Int) : Int := if ¬ OkT t then 121 else if badO o then 2 else 0
noncomputable def sitesL (t : Tab) (o : Int) : AV := tupL [tI.L (if siteCode t o = 0 then sitesE t o t.cols.length else []), .int .i64 (siteCode t o)]
theorem sitesL_no {t : Tab} (o : Int) (h : ¬ OkT t) : sitesL t o = tupL [tI.L [], .int .i64 121] := by
  unfold sitesL siteCode
  rw [if_pos h, if_neg (by decide)]
theorem sitesL_bad {t : Tab} {o : Int} (h : OkT t) (hb : badO o) : sitesL t o = tupL [tI.L [], .int .i64 2] := by
  have hc : siteCode t o = 2 := by unfold siteCode; rw [if_neg (not_not_intro h), if_pos hb]
  unfold sitesL
  rw [hc, if_neg (by decide)]
theorem sitesL_ok {t : Tab} {o : Int} (h : OkT t) (hb : ¬ badO o) : sitesL t o = tupL [tI.L (sitesE t o t.cols.length), .int .i64 0] := by
  have hc : siteCode t o = 0 := by unfold siteCode; rw [if_neg (not_not_intro h), if_neg hb]
  unfold sitesL
  rw [hc, if_pos rfl]
theorem sites_fn (t : Tab) (o : Int) (hf : FitT t) : Fn Tryd.prog 15 [tbA t, .int .i64 o] (sitesL t o) := by
  refine Fn.of Tryd.f15 _ Tryd.func15 rfl (by decide) (by show 2 ≤ _; decide) tbOk 38 rfl fun S w0 gl => ?_
  refine Run.go ?_; (conv => whnf); repeat' (first | ((with_reducible refine Know.mk fun _ => ?_); conv => whnf) | ((with_reducible refine Need.mk ?_ ?_); exact nd; conv => whnf) | ((with_reducible first | refine Both.mk ?_ ?_ | refine Any.mk fun b hb => ?_ | refine AskB.dec (fun hb => ?_) (fun hb => ?_) | refine AskB.ndec (fun hb => ?_) (fun hb => ?_) | refine AskB.mk (fun hb => ?_) (fun hb => ?_)) <;> conv => whnf) | ((with_reducible first | refine Run.drawX rfl (by decide +kernel) ?_ | refine Run.drawT rfl (by decide +kernel) ?_ | refine Run.drawW rfl (by decide +kernel) ?_); conv => whnf))
  refine Run.callBX (check_fn t hf) rfl rfl ⟨tb_le t (Le.refl _) (Le.refl _), trivial⟩ rfl rfl rfl ?_
  rcases chk_01 t with ⟨hok, he⟩ | ⟨hok, he⟩
  · rw [he]
    (conv => whnf); repeat' (first | ((with_reducible refine Know.mk fun _ => ?_); conv => whnf) | ((with_reducible refine Need.mk ?_ ?_); exact nd; conv => whnf) | ((with_reducible refine Both.mk ?_ ?_) <;> conv => whnf) | ((with_reducible refine Any.mk fun b hb => ?_); conv => whnf) | ((with_reducible first | refine AskB.dec (fun hb => ?_) (fun hb => ?_) | refine AskB.ndec (fun hb => ?_) (fun hb => ?_) | refine AskB.mk (fun hb => ?_) (fun hb => ?_)) <;> first | (exfalso; omega) | (conv => whnf)) | ((with_reducible first | refine Run.drawX rfl (by decide +kernel) ?_ | refine Run.drawT rfl (by decide +kernel) ?_ | refine Run.drawW rfl (by decide +kernel) ?_); conv => whnf))
    all_goals try (exfalso; omega)
    · rw [sitesL_bad hok (.inl (by omega))]
      exact Run.leave (ts := [4,5]) (.inr ⟨_, rfl⟩) rfl Tryd.func15 rfl (resT ⟨tI.nil, Le.refl _, trivial⟩)
    · rw [sitesL_bad hok (.inr (by omega))]
      exact Run.leave (ts := [4,5]) (.inr ⟨_, rfl⟩) rfl Tryd.func15 rfl (resT ⟨tI.nil, Le.refl _, trivial⟩)
    have hob : ¬ badO o := fun h => by unfold badO at h; omega
    rw [sitesL_ok hok hob]
    have hnc := hok.nc
    refine Run.holdNil 7 1000 3 1 (fun _ _ => .u) rfl ?_
    refine Run.loop [1, 22] (fun (c : Nat) => [(2, .box 2 0), (7, .row 1000), (23, .int .i64 (c : Int))]) (fun c => [(2, .box 25 [tWit.L t.wits, tIL.L t.cols]), (1000, tI.R 3 (sitesE t o c))]) (fun c => c ≤ t.cols.length) (fun c => t.cols.length - c) 0 (Nat.zero_le _) ⟨Le.refl _, Le.refl _, Le.refl _, trivial⟩ ⟨MOle.refl _, ⟨rfl, rfl, rfl, fun i j hi => absurd hi (Nat.not_lt_zero _)⟩, trivial⟩ ?_
    intro c hc IH
    have hwc : IntKind.i64.wrap ((c : Int) + 1) = ((c + 1 : Nat) : Int) := wrap64 (by omega) (by omega)
    have hsl := sites_len t o c
    have hnx : sitesE t o (c + 1) = if 1 < (readE t c o t.wits.length).length then sitesE t o c ++ [(c : Int)] else sitesE t o c := rfl
    show Run _ _ (lst (_ ++ [(2, .box 2 0), (7, .row 1000), (23, .int .i64 (c : Int))])) (lstH [(2, .box 25 [tWit.L t.wits, tIL.L t.cols]), (1000, tI.R 3 (sitesE t o c))])
    refine Run.go ?_; (conv => whnf); repeat' (first | ((with_reducible refine Know.mk fun _ => ?_); conv => whnf) | ((with_reducible refine Need.mk ?_ ?_); exact nd; conv => whnf) | ((with_reducible first | refine Both.mk ?_ ?_ | refine Any.mk fun b hb => ?_ | refine AskB.dec (fun hb => ?_) (fun hb => ?_) | refine AskB.ndec (fun hb => ?_) (fun hb => ?_) | refine AskB.mk (fun hb => ?_) (fun hb => ?_)) <;> conv => whnf) | ((with_reducible first | refine Run.drawX rfl (by decide +kernel) ?_ | refine Run.drawT rfl (by decide +kernel) ?_ | refine Run.drawW rfl (by decide +kernel) ?_); conv => whnf))
    · have hcl : c < t.cols.length := by omega
      refine Run.callBX (column_fn t c o hf hok hcl hob) rfl rfl ⟨tb_le t (Le.refl _) (Le.refl _), Le.refl _, Le.refl _, trivial⟩ rfl rfl rfl ?_
      generalize readE t c o t.wits.length = rs at hnx ⊢
      generalize sitesE t o c = L at hsl hnx ⊢
      (conv => whnf); repeat' (first | ((with_reducible refine Know.mk fun _ => ?_); conv => whnf) | ((with_reducible refine Need.mk ?_ ?_); exact nd; conv => whnf) | ((with_reducible first | refine Both.mk ?_ ?_ | refine Any.mk fun b hb => ?_ | refine AskB.dec (fun hb => ?_) (fun hb => ?_) | refine AskB.ndec (fun hb => ?_) (fun hb => ?_) | refine AskB.mk (fun hb => ?_) (fun hb => ?_)) <;> conv => whnf) | ((with_reducible first | refine Run.drawX rfl (by decide +kernel) ?_ | refine Run.drawT rfl (by decide +kernel) ?_ | refine Run.drawW rfl (by decide +kernel) ?_); conv => whnf))
      · rw [if_pos (by omega)] at hnx
        refine Run.hold (z := 35) 7 1000 (by rfl) (by rfl) (by rfl) ?_
        refine Run.to _ _ ?_ ?_ (IH (c + 1) (by omega) (by omega))
        · exact ⟨Le.refl _, Le.refl _, Le.refl _, Le.refl _, Le.int hwc, trivial⟩
        · refine ⟨MOle.refl _, ?_, trivial⟩
          rw [hnx]
          exact tI.push 3 L (c : Int) _ (one0 (Le.refl _))
      · rw [if_neg (by omega)] at hnx
        refine Run.to _ _ ?_ ?_ (IH (c + 1) (by omega) (by omega))
        · exact ⟨Le.refl _, Le.refl _, Le.refl _, Le.refl _, Le.int hwc, trivial⟩
        · refine ⟨MOle.refl _, ?_, trivial⟩
          rw [hnx]; exact MOle.refl _
    · obtain rfl : c = t.cols.length := by omega
      exact Run.leave (ts := [4,5]) (.inr ⟨_, rfl⟩) rfl Tryd.func15 rfl (resT ⟨Le.refl _, Le.refl _, trivial⟩)
  · rw [he, sitesL_no o hok]
    (conv => whnf); repeat' (first | ((with_reducible refine Know.mk fun _ => ?_); conv => whnf) | ((with_reducible refine Need.mk ?_ ?_); exact nd; conv => whnf) | ((with_reducible refine Both.mk ?_ ?_) <;> conv => whnf) | ((with_reducible refine Any.mk fun b hb => ?_); conv => whnf) | ((with_reducible first | refine AskB.dec (fun hb => ?_) (fun hb => ?_) | refine AskB.ndec (fun hb => ?_) (fun hb => ?_) | refine AskB.mk (fun hb => ?_) (fun hb => ?_)) <;> first | (exfalso; omega) | (conv => whnf)) | ((with_reducible first | refine Run.drawX rfl (by decide +kernel) ?_ | refine Run.drawT rfl (by decide +kernel) ?_ | refine Run.drawW rfl (by decide +kernel) ?_); conv => whnf))
    all_goals try (exfalso; omega)
    exact Run.leave (ts := [4,5]) (.inr ⟨_, rfl⟩) rfl Tryd.func15 rfl (resT ⟨tI.nil, Le.refl _, trivial⟩)
end Go.Proofs.YtnadacaoehpdnaaDoor.V

namespace Go.Proofs.YtnadacaoehpdnaaDoor.V
set_option linter.unusedVariables false
set_option linter.unusedSimpArgs false
open Go Go.Proofs Go.RowKit
set_option maxRecDepth 100000
set_option maxHeartbeats 4000000
def badC (t : Tab) (c : Int) : Prop := c < 0 ∨ (t.cols.length : Int) ≤ c
open Classical in
noncomputable def readCode (t : Tab) (c o : Int) : Int := if ¬ OkT t then 121 else if badO o ∨ badC t c then 2 else 0
noncomputable def readR (t : Tab) (c o : Int) : List Rd := if readCode t c o = 0 then readE t c.toNat o t.wits.length else []
noncomputable def readL (t : Tab) (c o : Int) : AV := tupL [tRd.L (readR t c o), .int .i64 (readCode t c o)]
theorem rc_no {t : Tab} (c o : Int) (h : ¬ OkT t) : readCode t c o = 121 ∧ readR t c o = [] := by
  have hc : readCode t c o = 121 := if_pos h
  exact ⟨hc, if_neg (by rw [hc]; decide)⟩
theorem rc_bad {t : Tab} {c o : Int} (h : OkT t) (hb : badO o ∨ badC t c) : readCode t c o = 2 ∧ readR t c o = [] := by
  have hc : readCode t c o = 2 := by unfold readCode; rw [if_neg (not_not_intro h), if_pos hb]
  exact ⟨hc, if_neg (by rw [hc]; decide)⟩
theorem rc_ok {t : Tab} {c o : Int} (h : OkT t) (hb : ¬ badO o) (hc : ¬ badC t c) : readCode t c o = 0 ∧ readR t c o = readE t c.toNat o t.wits.length := by
  have hd : readCode t c o = 0 := by unfold readCode; rw [if_neg (not_not_intro h), if_neg (fun g => g.elim hb hc)]
  exact ⟨hd, if_pos hd⟩
theorem rc_cases (t : Tab) (c o : Int) : (¬ OkT t ∧ readCode t c o = 121 ∧ readR t c o = []) ∨ (OkT t ∧ (badO o ∨ badC t c) ∧ readCode t c o = 2 ∧ readR t c o = []) ∨ (OkT t ∧ ¬ badO o ∧ ¬ badC t c ∧ readCode t c o = 0 ∧ readR t c o = readE t c.toNat o t.wits.length) := by
  by_cases h : OkT t
  · by_cases hb : badO o ∨ badC t c
    · exact .inr (.inl ⟨h, hb, rc_bad h hb⟩)
    · exact .inr (.inr ⟨h, fun g => hb (.inl g), fun g => hb (.inr g), rc_ok h (fun g => hb (.inl g)) (fun g => hb (.inr g))⟩)
  · exact .inl ⟨h, rc_no c o h⟩
theorem readings_fn (t : Tab) (c o : Int) (hf : FitT t) : Fn Tryd.prog 20 [tbA t, .int .i64 c, .int .i64 o] (readL t c o) := by
  refine Fn.of Tryd.f20 _ Tryd.func20 rfl (by decide) (by show 3 ≤ _; decide) tbOk 35 rfl fun S w0 gl => ?_
  refine Run.go ?_; (conv => whnf); repeat' (first | ((with_reducible refine Know.mk fun _ => ?_); conv => whnf) | ((with_reducible refine Need.mk ?_ ?_); exact nd; conv => whnf) | ((with_reducible first | refine Both.mk ?_ ?_ | refine Any.mk fun b hb => ?_ | refine AskB.dec (fun hb => ?_) (fun hb => ?_) | refine AskB.ndec (fun hb => ?_) (fun hb => ?_) | refine AskB.mk (fun hb => ?_) (fun hb => ?_)) <;> conv => whnf) | ((with_reducible first | refine Run.drawX rfl (by decide +kernel) ?_ | refine Run.drawT rfl (by decide +kernel) ?_ | refine Run.drawW rfl (by decide +kernel) ?_); conv => whnf))
  refine Run.callBX (check_fn t hf) rfl rfl ⟨tb_le t (Le.refl _) (Le.refl _), trivial⟩ rfl rfl rfl ?_
  have hfc := hf.cols
  unfold readL
  rcases chk_01 t with ⟨hok, he⟩ | ⟨hok, he⟩
  · rw [he]
    (conv => whnf); repeat' (first | ((with_reducible refine Know.mk fun _ => ?_); conv => whnf) | ((with_reducible refine Need.mk ?_ ?_); exact nd; conv => whnf) | ((with_reducible refine Both.mk ?_ ?_) <;> conv => whnf) | ((with_reducible refine Any.mk fun b hb => ?_); conv => whnf) | ((with_reducible first | refine AskB.dec (fun hb => ?_) (fun hb => ?_) | refine AskB.ndec (fun hb => ?_) (fun hb => ?_) | refine AskB.mk (fun hb => ?_) (fun hb => ?_)) <;> first | (exfalso; omega) | (conv => whnf)) | ((with_reducible first | refine Run.drawX rfl (by decide +kernel) ?_ | refine Run.drawT rfl (by decide +kernel) ?_ | refine Run.drawW rfl (by decide +kernel) ?_); conv => whnf))
    all_goals try (exfalso; omega)
    all_goals try (
      have hbad : badO o ∨ badC t c := by unfold badO badC; omega
      rw [(rc_bad hok hbad).1, (rc_bad hok hbad).2]
      exact Run.leave (ts := [6,7]) (.inr ⟨_, rfl⟩) rfl Tryd.func20 rfl (resT ⟨tRd.nil, Le.refl _, trivial⟩))
    have hbo : ¬ badO o := by unfold badO; omega
    have hbc : ¬ badC t c := by unfold badC; omega
    have hcc : c.toNat < t.cols.length := by omega
    rw [(rc_ok hok hbo hbc).1, (rc_ok hok hbo hbc).2]
    refine Run.callBX (column_fn t c.toNat o hf hok hcc hbo) rfl rfl ⟨tb_le t (Le.refl _) (Le.refl _), Le.int (by omega), Le.refl _, trivial⟩ rfl rfl rfl ?_
    (conv => whnf); repeat' (first | ((with_reducible refine Know.mk fun _ => ?_); conv => whnf) | ((with_reducible refine Need.mk ?_ ?_); exact nd; conv => whnf) | ((with_reducible first | refine Both.mk ?_ ?_ | refine Any.mk fun b hb => ?_ | refine AskB.dec (fun hb => ?_) (fun hb => ?_) | refine AskB.ndec (fun hb => ?_) (fun hb => ?_) | refine AskB.mk (fun hb => ?_) (fun hb => ?_)) <;> conv => whnf) | ((with_reducible first | refine Run.drawX rfl (by decide +kernel) ?_ | refine Run.drawT rfl (by decide +kernel) ?_ | refine Run.drawW rfl (by decide +kernel) ?_); conv => whnf))
    exact Run.leave (ts := [6,7]) (.inr ⟨_, rfl⟩) rfl Tryd.func20 rfl (resT ⟨Le.refl _, Le.refl _, trivial⟩)
  · rw [he, (rc_no c o hok).1, (rc_no c o hok).2]
    (conv => whnf); repeat' (first | ((with_reducible refine Know.mk fun _ => ?_); conv => whnf) | ((with_reducible refine Need.mk ?_ ?_); exact nd; conv => whnf) | ((with_reducible refine Both.mk ?_ ?_) <;> conv => whnf) | ((with_reducible refine Any.mk fun b hb => ?_); conv => whnf) | ((with_reducible first | refine AskB.dec (fun hb => ?_) (fun hb => ?_) | refine AskB.ndec (fun hb => ?_) (fun hb => ?_) | refine AskB.mk (fun hb => ?_) (fun hb => ?_)) <;> first | (exfalso; omega) | (conv => whnf)) | ((with_reducible first | refine Run.drawX rfl (by decide +kernel) ?_ | refine Run.drawT rfl (by decide +kernel) ?_ | refine Run.drawW rfl (by decide +kernel) ?_); conv => whnf))
    all_goals try (exfalso; omega)
    exact Run.leave (ts := [6,7]) (.inr ⟨_, rfl⟩) rfl Tryd.func20 rfl (resT ⟨tRd.nil, Le.refl _, trivial⟩)
/-- The first of those that none has more witnesses than. -/
def maxE (l : List Rd) : Nat → Nat
  | 0 => 0
  | k + 1 => if (l.getD (maxE l k) rd0).wits.length < (l.getD k rd0).wits.length then k else maxE l k
noncomputable def majR (t : Tab) (c o : Int) : Rd := (readR t c o).getD (maxE (readR t c o) (readR t c o).length) rd0
end Go.Proofs.YtnadacaoehpdnaaDoor.V

namespace Go.Proofs.YtnadacaoehpdnaaDoor.V
set_option linter.unusedVariables false
set_option linter.unusedSimpArgs false
open Go Go.Proofs Go.RowKit
set_option maxRecDepth 100000
set_option maxHeartbeats 4000000
theorem readR_fit (t : Tab) (c o : Int) (hf : FitT t) : (readR t c o).length ≤ 2000000 ∧ (∀ r ∈ readR t c o, r.wits.length ≤ 2000000) ∧ (majR t c o).wits.length ≤ 2000000 := by
  have hw := hf.wits
  have h : (readR t c o).length ≤ 2000000 ∧ ∀ r ∈ readR t c o, r.wits.length ≤ 2000000 := by
    rcases rc_cases t c o with ⟨_, _, h2⟩ | ⟨_, _, _, h2⟩ | ⟨_, _, _, _, h2⟩
    · rw [h2]; exact ⟨Nat.zero_le _, fun r h => absurd h List.not_mem_nil⟩
    · rw [h2]; exact ⟨Nat.zero_le _, fun r h => absurd h List.not_mem_nil⟩
    · rw [h2]
      exact ⟨Nat.le_trans (read_len t c.toNat o t.wits.length) hw, fun r hr => Nat.le_trans (wits_le t c.toNat o _ r hr) hw⟩
  refine ⟨h.1, h.2, ?_⟩
  unfold majR
  generalize maxE (readR t c o) (readR t c o).length = i
  by_cases hi : i < (readR t c o).length
  · exact h.2 _ (getD_mem' i hi)
  · rw [List.getD, List.getElem?_eq_none (by omega)]; exact Nat.zero_le _
end Go.Proofs.YtnadacaoehpdnaaDoor.V

namespace Go.Proofs.YtnadacaoehpdnaaDoor.V
set_option linter.unusedVariables false
set_option linter.unusedSimpArgs false
open Go Go.Proofs Go.RowKit
set_option maxRecDepth 100000
/-! ### folding by nothing -/
/-! ### a witness more -/
theorem add_miss {o : Int} {l : List Rd} {i : Int} {nn : Bool} {text key : ByteArray} (h : l.findIdx (sameR o nn key) = l.length) : addR o l i nn text key = l ++ [⟨nn, text, [i]⟩] := by
  unfold addR ensR pushW
  rw [h, if_pos rfl, getD_app2, List.set_append_right _ _ (Nat.le_refl _), Nat.sub_self]
  rfl
theorem add_hit {o : Int} {l : List Rd} {i : Int} {nn : Bool} {text key : ByteArray} (h : l.findIdx (sameR o nn key) < l.length) :
    addR o l i nn text key = pushW l (l.findIdx (sameR o nn key)) i ∧ (l.getD (l.findIdx (sameR o nn key)) rd0).none = nn ∧ textF (l.getD (l.findIdx (sameR o nn key)) rd0).text o = key := by
  unfold addR ensR
  rw [if_neg (by omega)]
  refine ⟨rfl, ?_⟩
  have h1 := List.findIdx_getElem (p := sameR o nn key) (xs := l) (w := h)
  have h2 : l.getD (l.findIdx (sameR o nn key)) rd0 = l[l.findIdx (sameR o nn key)] := by rw [List.getD, List.getElem?_eq_getElem h]; rfl
  rw [← h2] at h1
  generalize l.getD (l.findIdx (sameR o nn key)) rd0 = r at h1 ⊢
  unfold sameR at h1
  simpa using h1
theorem miss_not {o : Int} {l : List Rd} {nn : Bool} {key : ByteArray} (h : l.findIdx (sameR o nn key) = l.length) : ∀ r ∈ l, ¬ (r.none = nn ∧ textF r.text o = key) := fun r hr hh => by
  have h1 : l.findIdx (sameR o nn key) < l.length := List.findIdx_lt_length_of_exists ⟨r, hr, by unfold sameR; simp [hh.1, hh.2]⟩
  omega
theorem push_at (l : List Rd) (k : Nat) (i : Int) (hk : k < l.length) (j : Nat) : (pushW l k i).getD j rd0 = if j = k then ⟨(l.getD k rd0).none, (l.getD k rd0).text, (l.getD k rd0).wits ++ [i]⟩ else l.getD j rd0 := by
  unfold pushW
  rw [List.getD, List.getElem?_set]
  by_cases e : j = k
  · subst e; rw [if_pos rfl, if_pos hk, if_pos rfl]; rfl
  · rw [if_neg (fun x => e x.symm), if_neg e]; rfl
theorem sumL_set {α : Type} (f : α → Nat) (z y : α) : ∀ (l : List α) (k : Nat), k < l.length → sumL f (l.set k y) + f (l.getD k z) = sumL f l + f y
  | [], k, h => absurd h (Nat.not_lt_zero _)
  | x :: l, 0, _ => by simp only [List.set_cons_zero, sumL, List.getD_cons_zero]; omega
  | x :: l, k + 1, h => by
    have := sumL_set f z y l k (by simpa using h)
    simp only [List.set_cons_succ, sumL, List.getD_cons_succ]; omega
/-- What the witnesses of a reading have of it. -/
structure WsOk (t : Tab) (c : Nat) (o : Int) (n : Nat) (r : Rd) : Prop where
  pos : 0 < r.wits.length
  up : ∀ k, k + 1 < r.wits.length → r.wits.getD k 0 < r.wits.getD (k + 1) 0
  at' : ∀ k, k < r.wits.length → 0 ≤ r.wits.getD k 0 ∧ r.wits.getD k 0 < n ∧ r.none = decide (atC t c (r.wits.getD k 0).toNat < 0) ∧ textF r.text o = keyAt t c o (r.wits.getD k 0).toNat
  text : r.text = textAt t c (r.wits.getD 0 0).toNat
structure RInv (t : Tab) (c : Nat) (o : Int) (n : Nat) (l : List Rd) : Prop where
  hit : ∀ j, j < n → ∃ r ∈ l, r.none = decide (atC t c j < 0) ∧ textF r.text o = keyAt t c o j
  ws : ∀ i, i < l.length → WsOk t c o n (l.getD i rd0)
  up : ∀ i, i + 1 < l.length → (l.getD i rd0).wits.getD 0 0 < (l.getD (i + 1) rd0).wits.getD 0 0
  sum : sumL (fun r : Rd => r.wits.length) l = n
theorem WsOk.mono {t : Tab} {c n : Nat} {o : Int} {r : Rd} (h : WsOk t c o n r) : WsOk t c o (n + 1) r :=
  ⟨h.pos, h.up, fun k hk => by obtain ⟨a, b, d⟩ := h.at' k hk; exact ⟨a, by omega, d⟩, h.text⟩
theorem key_text (t : Tab) (c : Nat) (o : Int) (i : Nat) : textF (textAt t c i) o = keyAt t c o i := by
  unfold keyAt
  split
  · unfold textAt
    rw [if_pos (by assumption), textF_empty]
  · rfl
theorem read_inv (t : Tab) (c : Nat) (o : Int) : ∀ n, RInv t c o n (readE t c o n)
  | 0 => ⟨fun j h => absurd h (Nat.not_lt_zero _), fun i h => absurd h (Nat.not_lt_zero _), fun i h => absurd h (Nat.not_lt_zero _), rfl⟩
  | n + 1 => by
    have ih := read_inv t c o n
    have hstep : readE t c o (n + 1) = addR o (readE t c o n) n (decide (atC t c n < 0)) (textAt t c n) (keyAt t c o n) := rfl
    generalize readE t c o n = l at ih hstep
    rw [hstep]
    by_cases hk : l.findIdx (sameR o (decide (atC t c n < 0)) (keyAt t c o n)) < l.length
    · obtain ⟨e1, e2, e3⟩ := add_hit (i := (n : Int)) (text := textAt t c n) hk
      rw [e1]
      generalize l.findIdx (sameR o (decide (atC t c n < 0)) (keyAt t c o n)) = k at hk e2 e3
      have hw := ih.ws k hk
      have hlen : (pushW l k n).length = l.length := push_len l k n
      have hfirst : ∀ i, ((pushW l k n).getD i rd0).wits.getD 0 0 = (l.getD i rd0).wits.getD 0 0 := fun i => by
        rw [push_at l k n hk]
        split
        · rename_i e; subst e
          exact getD_app1 hw.pos
        · rfl
      refine ⟨fun j hj => ?_, fun i hi => ?_, fun i hi => ?_, ?_⟩
      · have key : ∀ r ∈ l, ∃ r' ∈ pushW l k n, r'.none = r.none ∧ r'.text = r.text := fun r hr => by
          obtain ⟨i, hi, rfl⟩ := List.getElem_of_mem hr
          have hg : l.getD i rd0 = l[i] := by rw [List.getD, List.getElem?_eq_getElem hi]; rfl
          refine ⟨(pushW l k n).getD i rd0, getD_mem' i (by rw [hlen]; exact hi), ?_⟩
          rw [push_at l k n hk, ← hg]
          split
          · rename_i e; subst e; exact ⟨rfl, rfl⟩
          · exact ⟨rfl, rfl⟩
        by_cases hjn : j < n
        · obtain ⟨r, hr, h1, h2⟩ := ih.hit j hjn
          obtain ⟨r', hr', g1, g2⟩ := key r hr
          exact ⟨r', hr', by rw [g1, h1], by rw [g2, h2]⟩
        · obtain rfl : j = n := by omega
          obtain ⟨r', hr', g1, g2⟩ := key _ (getD_mem' (z := rd0) k hk)
          exact ⟨r', hr', by rw [g1, e2], by rw [g2, e3]⟩
      · rw [hlen] at hi
        rw [push_at l k n hk]
        split
        · rename_i e; subst e
          have hl : ((l.getD i rd0).wits ++ [(n : Int)]).length = (l.getD i rd0).wits.length + 1 := by simp
          have hold : ∀ q, q < (l.getD i rd0).wits.length → ((l.getD i rd0).wits ++ [(n : Int)]).getD q 0 = (l.getD i rd0).wits.getD q 0 := fun q hq => getD_app1 hq
          have hnew : ((l.getD i rd0).wits ++ [(n : Int)]).getD (l.getD i rd0).wits.length 0 = n := getD_app2
          refine ⟨by show 0 < ((l.getD i rd0).wits ++ [(n : Int)]).length; omega, fun q hq => ?_, fun q hq => ?_, ?_⟩
          · replace hq : q + 1 < ((l.getD i rd0).wits ++ [(n : Int)]).length := hq
            show ((l.getD i rd0).wits ++ [(n : Int)]).getD q 0 < ((l.getD i rd0).wits ++ [(n : Int)]).getD (q + 1) 0
            rw [hold q (by omega)]
            by_cases e : q + 1 = (l.getD i rd0).wits.length
            · rw [e, hnew]; exact (hw.at' q (by omega)).2.1
            · rw [hold (q + 1) (by omega)]; exact hw.up q (by omega)
          · replace hq : q < ((l.getD i rd0).wits ++ [(n : Int)]).length := hq
            show 0 ≤ ((l.getD i rd0).wits ++ [(n : Int)]).getD q 0 ∧ ((l.getD i rd0).wits ++ [(n : Int)]).getD q 0 < ((n + 1 : Nat) : Int) ∧ (l.getD i rd0).none = decide (atC t c (((l.getD i rd0).wits ++ [(n : Int)]).getD q 0).toNat < 0) ∧ textF (l.getD i rd0).text o = keyAt t c o (((l.getD i rd0).wits ++ [(n : Int)]).getD q 0).toNat
            by_cases e : q = (l.getD i rd0).wits.length
            · rw [e, hnew]
              exact ⟨by omega, by omega, e2, e3⟩
            · rw [hold q (by omega)]
              obtain ⟨a, b, d⟩ := hw.at' q (by omega)
              exact ⟨a, by omega, d⟩
          · show (l.getD i rd0).text = textAt t c (((l.getD i rd0).wits ++ [(n : Int)]).getD 0 0).toNat
            rw [hold 0 hw.pos]; exact hw.text
        · exact (ih.ws i hi).mono
      · rw [hlen] at hi
        rw [hfirst, hfirst]; exact ih.up i hi
      · have h1 := sumL_set (fun r : Rd => r.wits.length) rd0 ⟨(l.getD k rd0).none, (l.getD k rd0).text, (l.getD k rd0).wits ++ [(n : Int)]⟩ l k hk
        have h2 := ih.sum
        simp only [List.length_append, List.length_singleton] at h1
        show sumL (fun r : Rd => r.wits.length) (l.set k _) = n + 1
        omega
    · have hm : l.findIdx (sameR o (decide (atC t c n < 0)) (keyAt t c o n)) = l.length := by
        have := List.findIdx_le_length (p := sameR o (decide (atC t c n < 0)) (keyAt t c o n)) (xs := l)
        omega
      rw [add_miss hm]
      have hold : ∀ i, i < l.length → (l ++ [(⟨decide (atC t c n < 0), textAt t c n, [(n : Int)]⟩ : Rd)]).getD i rd0 = l.getD i rd0 := fun i hi => getD_app1 hi
      have hnew : (l ++ [(⟨decide (atC t c n < 0), textAt t c n, [(n : Int)]⟩ : Rd)]).getD l.length rd0 = ⟨decide (atC t c n < 0), textAt t c n, [(n : Int)]⟩ := getD_app2
      have hl : (l ++ [(⟨decide (atC t c n < 0), textAt t c n, [(n : Int)]⟩ : Rd)]).length = l.length + 1 := by simp
      refine ⟨fun j hj => ?_, fun i hi => ?_, fun i hi => ?_, ?_⟩
      · by_cases hjn : j < n
        · obtain ⟨r, hr, h⟩ := ih.hit j hjn
          exact ⟨r, List.mem_append_left _ hr, h⟩
        · obtain rfl : j = n := by omega
          exact ⟨_, List.mem_append_right _ (List.mem_singleton.mpr rfl), rfl, key_text t c o j⟩
      · by_cases e : i = l.length
        · rw [e, hnew]
          refine ⟨Nat.one_pos, fun q hq => absurd hq (by simp), one0 ⟨Int.natCast_nonneg n, by show (n : Int) < ((n + 1 : Nat) : Int); omega, rfl, key_text t c o n⟩, rfl⟩
        · rw [hold i (by omega)]; exact (ih.ws i (by omega)).mono
      · rw [hold i (by omega)]
        by_cases e : i + 1 = l.length
        · rw [e, hnew]
          exact ((ih.ws i (by omega)).at' 0 (ih.ws i (by omega)).pos).2.1
        · rw [hold (i + 1) (by omega)]; exact ih.up i (by omega)
      · rw [sumL_append, ih.sum]; rfl
end Go.Proofs.YtnadacaoehpdnaaDoor.V

namespace Go.Proofs.YtnadacaoehpdnaaDoor.V
set_option linter.unusedVariables false
set_option linter.unusedSimpArgs false
open Go Go.Proofs Go.RowKit
set_option maxRecDepth 100000
set_option maxHeartbeats 4000000
noncomputable def cellL (t : Tab) (c i : Nat) : AV := tupL [.str (textAt t c i), .bool (!decide (atC t c i < 0)), .int .i64 0]
theorem tcell_fn (t : Tab) (c i : Nat) (hf : FitT t) (hok : OkT t) (hc : c < t.cols.length) (hi : i < t.wits.length) : Fn Tryd.prog 21 [tbA t, .int .i64 c, .int .i64 i] (cellL t c i) := by
  refine Fn.of Tryd.f21 _ Tryd.func21 rfl (by decide) (by show 3 ≤ _; decide) tbOk 56 rfl fun S w0 gl => ?_
  have hfc := hf.cols
  have hfw := hf.wits
  refine Run.go ?_; (conv => whnf); repeat' (first | ((with_reducible refine Know.mk fun _ => ?_); conv => whnf) | ((with_reducible refine Need.mk ?_ ?_); exact nd; conv => whnf) | ((with_reducible first | refine Both.mk ?_ ?_ | refine Any.mk fun b hb => ?_ | refine AskB.dec (fun hb => ?_) (fun hb => ?_) | refine AskB.ndec (fun hb => ?_) (fun hb => ?_) | refine AskB.mk (fun hb => ?_) (fun hb => ?_)) <;> conv => whnf) | ((with_reducible first | refine Run.drawX rfl (by decide +kernel) ?_ | refine Run.drawT rfl (by decide +kernel) ?_ | refine Run.drawW rfl (by decide +kernel) ?_); conv => whnf))
  refine Run.callBX (check_fn t hf) rfl rfl ⟨tb_le t (Le.refl _) (Le.refl _), trivial⟩ rfl rfl rfl ?_
  rw [chk_ok hok]
  obtain ⟨hlen, hat⟩ := at_ok hok hc hi
  have hfi : (witAt t i).words.length ≤ 2000000 := (hf.wit (witAt t i) (getD_mem' i hi)).2.1
  have hx : (t.cols.getD (c : Int).toNat tIL.z).getD (i : Int).toNat tI.z = atC t c i := rfl
  have hlc : (t.cols.getD (c : Int).toNat tIL.z).length = t.wits.length := hlen
  have hlw2 : (t.wits.getD (i : Int).toNat tWit.z).words.length = (witAt t i).words.length := rfl
  unfold cellL textAt
  (conv => whnf); repeat' (first | ((with_reducible refine Know.mk fun _ => ?_); conv => whnf) | ((with_reducible refine Need.mk ?_ ?_); exact nd; conv => whnf) | ((with_reducible refine Both.mk ?_ ?_) <;> conv => whnf) | ((with_reducible refine Any.mk fun b hb => ?_); conv => whnf) | ((with_reducible first | refine AskB.dec (fun hb => ?_) (fun hb => ?_) | refine AskB.ndec (fun hb => ?_) (fun hb => ?_) | refine AskB.mk (fun hb => ?_) (fun hb => ?_)) <;> first | (exfalso; omega) | (conv => whnf)) | ((with_reducible first | refine Run.drawX rfl (by decide +kernel) ?_ | refine Run.drawT rfl (by decide +kernel) ?_ | refine Run.drawW rfl (by decide +kernel) ?_); conv => whnf))
  all_goals try (exfalso; omega)
  · have hx0 : ¬ atC t c i < 0 := by omega
    rw [if_neg hx0]
    exact Run.leave (ts := [6,7,8]) (.inr ⟨_, rfl⟩) rfl Tryd.func21 rfl (resT ⟨Le.refl _, Le.tt.trans (Le.bool (by rw [decide_eq_false hx0]; rfl)), Le.refl _, trivial⟩)
  · have hx0 : atC t c i < 0 := by omega
    rw [if_pos hx0]
    exact Run.leave (ts := [6,7,8]) (.inr ⟨_, rfl⟩) rfl Tryd.func21 rfl (resT ⟨Le.refl _, Le.ff.trans (Le.bool (by rw [decide_eq_true hx0]; rfl)), Le.refl _, trivial⟩)
end Go.Proofs.YtnadacaoehpdnaaDoor.V

namespace Go.Proofs.YtnadacaoehpdnaaDoor.V
set_option linter.unusedVariables false
set_option linter.unusedSimpArgs false
open Go Go.Proofs Go.RowKit
set_option maxRecDepth 100000
set_option maxHeartbeats 1000000
/-- What stands for a gap in the text. -/
def dag : ByteArray := ⟨#[226, 151, 140]⟩
def thB (t : Tab) (c i : Nat) : Bool := !decide (atC t c i < 0)
def lacB (t : Tab) (c i : Nat) : Bool := thB t c i && decide (textAt t c i = dag)
def eqSt (t : Tab) (c : Nat) (o : Int) (i k : Nat) : Bool := decide (thB t c k = thB t c i) && decide (keyAt t c o k = keyAt t c o i)
def fndS (ms : List Int) (p : Nat → Bool) : Nat → Int
  | 0 => -1
  | k + 1 => if 0 ≤ fndS ms p k then fndS ms p k else if 0 ≤ ms.getD k 0 ∧ p k = true then ms.getD k 0 else -1
def stNx (t : Tab) (c : Nat) (o : Int) (i : Nat) (s : List Int × Nat) : List Int × Nat :=
  if lacB t c i = true then (s.1 ++ [-1], s.2) else if fndS s.1 (eqSt t c o i) i < 0 then (s.1 ++ [(s.2 : Int)], s.2 + 1) else (s.1 ++ [fndS s.1 (eqSt t c o i) i], s.2)
def stE (t : Tab) (c : Nat) (o : Int) : Nat → List Int × Nat
  | 0 => ([], 0)
  | i + 1 => stNx t c o i (stE t c o i)
theorem fndS_lt {ms : List Int} {p : Nat → Bool} {n : Int} (h : ∀ k, k < ms.length → ms.getD k 0 < n) (hn : 0 ≤ n) : ∀ k, k ≤ ms.length → -1 ≤ fndS ms p k ∧ fndS ms p k < n
  | 0, _ => ⟨Int.le_refl _, by show -1 < n; omega⟩
  | k + 1, hk => by
    have ih := fndS_lt (p := p) h hn k (by omega)
    have h2 := h k (by omega)
    unfold fndS
    split
    · exact ih
    · split
      · omega
      · omega
theorem stE_ok (t : Tab) (c : Nat) (o : Int) : ∀ i, (stE t c o i).1.length = i ∧ (stE t c o i).2 ≤ i ∧ ∀ k, k < i → -1 ≤ (stE t c o i).1.getD k 0 ∧ (stE t c o i).1.getD k 0 < ((stE t c o i).2 : Int)
  | 0 => ⟨rfl, Nat.le_refl _, fun k h => absurd h (Nat.not_lt_zero _)⟩
  | i + 1 => by
    obtain ⟨h1, h2, h3⟩ := stE_ok t c o i
    show (stNx t c o i (stE t c o i)).1.length = i + 1 ∧ _
    have hs : stE t c o (i + 1) = stNx t c o i (stE t c o i) := rfl
    rw [hs]
    generalize stE t c o i = s at h1 h2 h3
    obtain ⟨g1, g2⟩ := fndS_lt (ms := s.1) (p := eqSt t c o i) (n := (s.2 : Int)) (fun k hk => (h3 k (by omega)).2) (by omega) i (by omega)
    have key : ∀ (x : Int) (n : Nat), s.2 ≤ n → n ≤ i + 1 → -1 ≤ x → x < n → (s.1 ++ [x]).length = i + 1 ∧ n ≤ i + 1 ∧ ∀ k, k < i + 1 → -1 ≤ (s.1 ++ [x]).getD k 0 ∧ (s.1 ++ [x]).getD k 0 < (n : Int) := fun x n a1 a2 a3 a4 => by
      refine ⟨by simp [h1], a2, fun k hk => ?_⟩
      by_cases e : k = i
      · rw [e, ← h1, getD_app2]; exact ⟨a3, a4⟩
      · rw [getD_app1 (by omega)]; have := h3 k (by omega); omega
    unfold stNx
    split
    · exact key (-1) s.2 (Nat.le_refl _) (by omega) (Int.le_refl _) (by omega)
    · split
      · exact key s.2 (s.2 + 1) (by omega) (by omega) (by omega) (by omega)
      · exact key _ s.2 (Nat.le_refl _) (by omega) g1 g2
end Go.Proofs.YtnadacaoehpdnaaDoor.V

namespace Go.Proofs.YtnadacaoehpdnaaDoor.V
set_option linter.unusedVariables false
set_option linter.unusedSimpArgs false
open Go Go.Proofs Go.RowKit
set_option maxRecDepth 100000
structure RCov (t : Tab) (c : Nat) (o : Int) (n : Nat) (l : List Rd) : Prop where
  dist : ∀ i1 i2, i1 < l.length → i2 < l.length → i1 ≠ i2 → ¬ ((l.getD i1 rd0).none = (l.getD i2 rd0).none ∧ textF (l.getD i1 rd0).text o = textF (l.getD i2 rd0).text o)
  cov : ∀ j, j < n → ∃ i, i < l.length ∧ ∃ k, k < (l.getD i rd0).wits.length ∧ (l.getD i rd0).wits.getD k 0 = (j : Int)
theorem read_cov (t : Tab) (c : Nat) (o : Int) : ∀ n, RCov t c o n (readE t c o n)
  | 0 => ⟨fun i1 i2 h => absurd h (Nat.not_lt_zero _), fun j h => absurd h (Nat.not_lt_zero _)⟩
  | n + 1 => by
    have ih := read_cov t c o n
    have hstep : readE t c o (n + 1) = addR o (readE t c o n) n (decide (atC t c n < 0)) (textAt t c n) (keyAt t c o n) := rfl
    generalize readE t c o n = l at ih hstep
    rw [hstep]
    by_cases hk : l.findIdx (sameR o (decide (atC t c n < 0)) (keyAt t c o n)) < l.length
    · obtain ⟨e1, _, _⟩ := add_hit (i := (n : Int)) (text := textAt t c n) hk
      rw [e1]
      generalize l.findIdx (sameR o (decide (atC t c n < 0)) (keyAt t c o n)) = k at hk
      have hlen : (pushW l k n).length = l.length := push_len l k n
      have hsame : ∀ i, ((pushW l k n).getD i rd0).none = (l.getD i rd0).none ∧ ((pushW l k n).getD i rd0).text = (l.getD i rd0).text := fun i => by
        rw [push_at l k n hk]
        split
        · rename_i e; subst e; exact ⟨rfl, rfl⟩
        · exact ⟨rfl, rfl⟩
      have hw : ((pushW l k n).getD k rd0).wits = (l.getD k rd0).wits ++ [(n : Int)] := by rw [push_at l k n hk, if_pos rfl]
      refine ⟨fun i1 i2 h1 h2 hne => ?_, fun j hj => ?_⟩
      · rw [(hsame i1).1, (hsame i2).1, (hsame i1).2, (hsame i2).2]
        exact ih.dist i1 i2 (by omega) (by omega) hne
      · by_cases hjn : j < n
        · obtain ⟨i, hi, q, hq, he⟩ := ih.cov j hjn
          refine ⟨i, by omega, q, ?_⟩
          by_cases e : i = k
          · subst e
            rw [hw]
            exact ⟨by rw [List.length_append]; omega, by rw [getD_app1 hq]; exact he⟩
          · rw [push_at l k n hk, if_neg e]; exact ⟨hq, he⟩
        · obtain rfl : j = n := by omega
          refine ⟨k, by omega, (l.getD k rd0).wits.length, ?_⟩
          rw [hw]
          exact ⟨by simp, getD_app2⟩
    · have hm : l.findIdx (sameR o (decide (atC t c n < 0)) (keyAt t c o n)) = l.length := by
        have := List.findIdx_le_length (p := sameR o (decide (atC t c n < 0)) (keyAt t c o n)) (xs := l)
        omega
      rw [add_miss hm]
      have hold : ∀ i, i < l.length → (l ++ [(⟨decide (atC t c n < 0), textAt t c n, [(n : Int)]⟩ : Rd)]).getD i rd0 = l.getD i rd0 := fun i hi => getD_app1 hi
      have hnew : (l ++ [(⟨decide (atC t c n < 0), textAt t c n, [(n : Int)]⟩ : Rd)]).getD l.length rd0 = ⟨decide (atC t c n < 0), textAt t c n, [(n : Int)]⟩ := getD_app2
      have hl : (l ++ [(⟨decide (atC t c n < 0), textAt t c n, [(n : Int)]⟩ : Rd)]).length = l.length + 1 := by simp
      have hno := miss_not hm
      refine ⟨fun i1 i2 h1 h2 hne => ?_, fun j hj => ?_⟩
      · rw [hl] at h1 h2
        by_cases a1 : i1 < l.length
        · rw [hold i1 a1]
          by_cases a2 : i2 < l.length
          · rw [hold i2 a2]; exact ih.dist i1 i2 a1 a2 hne
          · obtain rfl : i2 = l.length := by omega
            rw [hnew]
            rintro ⟨b1, b2⟩
            exact hno _ (getD_mem' (z := rd0) i1 a1) ⟨b1, b2.trans (key_text t c o n)⟩
        · obtain rfl : i1 = l.length := by omega
          rw [hnew, hold i2 (by omega)]
          rintro ⟨b1, b2⟩
          exact hno _ (getD_mem' (z := rd0) i2 (by omega)) ⟨b1.symm, b2.symm.trans (key_text t c o n)⟩
      · by_cases hjn : j < n
        · obtain ⟨i, hi, q, hq, he⟩ := ih.cov j hjn
          exact ⟨i, by omega, q, by rw [hold i hi]; exact ⟨hq, he⟩⟩
        · obtain rfl : j = n := by omega
          exact ⟨l.length, by omega, 0, by rw [hnew]; exact ⟨Nat.one_pos, rfl⟩⟩
/-- A witness has one reading only, and in it one place. -/
theorem wit_once {t : Tab} {c n : Nat} {o : Int} {l : List Rd} (hi : RInv t c o n l) (hc : RCov t c o n l) {i1 i2 k1 k2 : Nat} (h1 : i1 < l.length) (h2 : i2 < l.length) (q1 : k1 < (l.getD i1 rd0).wits.length) (q2 : k2 < (l.getD i2 rd0).wits.length)
    (he : (l.getD i1 rd0).wits.getD k1 0 = (l.getD i2 rd0).wits.getD k2 0) : i1 = i2 := by
  obtain ⟨_, _, a3, a4⟩ := (hi.ws i1 h1).at' k1 q1
  obtain ⟨_, _, b3, b4⟩ := (hi.ws i2 h2).at' k2 q2
  rw [he] at a3 a4
  by_cases e : i1 = i2
  · exact e
  · exact absurd ⟨a3.trans b3.symm, a4.trans b4.symm⟩ (hc.dist i1 i2 h1 h2 e)
/-- Of which reading a witness is. -/
theorem class_iff {t : Tab} {c n : Nat} {o : Int} {l : List Rd} (hi : RInv t c o n l) (hc : RCov t c o n l) {i1 i2 k1 k2 : Nat} (h1 : i1 < l.length) (h2 : i2 < l.length) (q1 : k1 < (l.getD i1 rd0).wits.length) (q2 : k2 < (l.getD i2 rd0).wits.length) :
    eqSt t c o ((l.getD i2 rd0).wits.getD k2 0).toNat ((l.getD i1 rd0).wits.getD k1 0).toNat = true ↔ i1 = i2 := by
  obtain ⟨_, _, a3, a4⟩ := (hi.ws i1 h1).at' k1 q1
  obtain ⟨_, _, b3, b4⟩ := (hi.ws i2 h2).at' k2 q2
  unfold eqSt thB
  rw [← a3, ← b3, ← a4, ← b4, Bool.and_eq_true, decide_eq_true_eq, decide_eq_true_eq]
  constructor
  · rintro ⟨e1, e2⟩
    by_cases e : i1 = i2
    · exact e
    · exact absurd ⟨Bool.not_inj e1, e2⟩ (hc.dist i1 i2 h1 h2 e)
  · rintro rfl; exact ⟨rfl, rfl⟩
end Go.Proofs.YtnadacaoehpdnaaDoor.V

namespace Go.Proofs.YtnadacaoehpdnaaDoor.V
set_option linter.unusedVariables false
set_option linter.unusedSimpArgs false
open Go Go.Proofs Go.RowKit
set_option maxRecDepth 100000
theorem mget_mset {α β : Type} [DecidableEq α] (k : α) (v : β) (k' : α) : ∀ l : List (α × β), mget k' (mset k v l) = if k' = k then some v else mget k' l
  | [] => by simp only [mset, mget]
  | p :: l => by
    simp only [mset]
    by_cases e : k = p.1
    · rw [if_pos e]
      simp only [mget]
      by_cases e2 : k' = k
      · rw [if_pos e2, if_pos e2]
      · rw [if_neg e2, if_neg e2, if_neg (fun h => e2 (h.trans e.symm))]
    · rw [if_neg e]
      simp only [mget]
      by_cases e2 : k' = p.1
      · rw [if_pos e2, if_pos e2, if_neg (fun h => e (h.symm.trans e2))]
      · rw [if_neg e2, if_neg e2]; exact mget_mset k v k' l
theorem mset_len {α β : Type} [DecidableEq α] (k : α) (v : β) : ∀ l : List (α × β), mget k l = none → (mset k v l).length = l.length + 1
  | [], _ => rfl
  | p :: l, h => by
    simp only [mget] at h
    by_cases e : k = p.1
    · rw [if_pos e] at h; cases h
    · rw [if_neg e] at h
      simp only [mset]
      rw [if_neg e, List.length_cons, List.length_cons, mset_len k v l h]
/-- The map behind the first witnesses. -/
def numM (cls : Nat → Int) : Nat → List (Int × Int)
  | 0 => [(-1, -1)]
  | i + 1 => if (mget (cls i) (numM cls i)).isSome = true then numM cls i else mset (cls i) (((numM cls i).length : Int) - 1) (numM cls i)
/-- What the classes are of. -/
structure ClsOk (t : Tab) (c : Nat) (o : Int) (n : Nat) (cls : Nat → Int) : Prop where
  lac : ∀ i, i < n → lacB t c i = true → cls i = -1
  pos : ∀ i, i < n → ¬ lacB t c i = true → 0 ≤ cls i
  same : ∀ i k, i < n → k < n → ¬ lacB t c i = true → ¬ lacB t c k = true → (eqSt t c o i k = true ↔ cls k = cls i)
theorem fndS_hit {ms : List Int} {p : Nat → Bool} {v : Int} {N : Nat} (hv : 0 ≤ v) (h : ∀ k, k < N → 0 ≤ ms.getD k 0 → p k = true → ms.getD k 0 = v) : ∀ n, n ≤ N → (∃ k, k < n ∧ 0 ≤ ms.getD k 0 ∧ p k = true) → fndS ms p n = v
  | 0, _, ⟨k, hk, _⟩ => absurd hk (Nat.not_lt_zero _)
  | n + 1, hn, ⟨k, hk, h1, h2⟩ => by
    have hs : fndS ms p (n + 1) = if 0 ≤ fndS ms p n then fndS ms p n else if 0 ≤ ms.getD n 0 ∧ p n = true then ms.getD n 0 else -1 := rfl
    rw [hs]
    by_cases hex : ∃ q, q < n ∧ 0 ≤ ms.getD q 0 ∧ p q = true
    · rw [fndS_hit hv h n (by omega) hex, if_pos hv]
    · have hkn : k = n := by
        by_cases e : k < n
        · exact absurd ⟨k, e, h1, h2⟩ hex
        · omega
      subst hkn
      have hm : fndS ms p k = -1 := by
        have : ∀ m, m ≤ k → fndS ms p m = -1 := fun m => by
          induction m with
          | zero => intro _; rfl
          | succ m ih =>
            intro hm
            have hs2 : fndS ms p (m + 1) = if 0 ≤ fndS ms p m then fndS ms p m else if 0 ≤ ms.getD m 0 ∧ p m = true then ms.getD m 0 else -1 := rfl
            rw [hs2, ih (by omega), if_neg (by decide), if_neg (fun hh => hex ⟨m, by omega, hh.1, hh.2⟩)]
        exact this k (Nat.le_refl _)
      rw [hm, if_neg (by decide), if_pos ⟨h1, h2⟩]
      exact h k (by omega) h1 h2
theorem fndS_miss {ms : List Int} {p : Nat → Bool} : ∀ n, (∀ k, k < n → ¬ (0 ≤ ms.getD k 0 ∧ p k = true)) → fndS ms p n = -1
  | 0, _ => rfl
  | n + 1, h => by
    have ih := fndS_miss n (fun k hk => h k (by omega))
    have hs : fndS ms p (n + 1) = if 0 ≤ fndS ms p n then fndS ms p n else if 0 ≤ ms.getD n 0 ∧ p n = true then ms.getD n 0 else -1 := rfl
    rw [hs, ih, if_neg (by decide), if_neg (h n (by omega))]
structure NumOk (t : Tab) (c : Nat) (o : Int) (cls : Nat → Int) (i : Nat) : Prop where
  len : (numM cls i).length = (stE t c o i).2 + 1
  one : mget (-1) (numM cls i) = some (-1)
  at' : ∀ k, k < i → mget (cls k) (numM cls i) = some ((stE t c o i).1.getD k 0)
  key : ∀ s, s ≠ -1 → (mget s (numM cls i)).isSome = true → ∃ k, k < i ∧ cls k = s
  lac : ∀ k, k < i → (lacB t c k = true ↔ (stE t c o i).1.getD k 0 < 0)
theorem num_ok {t : Tab} {c n : Nat} {o : Int} {cls : Nat → Int} (h : ClsOk t c o n cls) : ∀ i, i ≤ n → NumOk t c o cls i
  | 0, _ => ⟨rfl, rfl, fun k hk => absurd hk (Nat.not_lt_zero _), fun s hs hh => by simp [numM, mget, hs] at hh, fun k hk => absurd hk (Nat.not_lt_zero _)⟩
  | i + 1, hi => by
    obtain ⟨g1, g2, g3, g4, g5⟩ := num_ok h i (by omega)
    obtain ⟨s1, s2, s3⟩ := stE_ok t c o i
    have hM : numM cls (i + 1) = if (mget (cls i) (numM cls i)).isSome = true then numM cls i else mset (cls i) (((numM cls i).length : Int) - 1) (numM cls i) := rfl
    have hS : stE t c o (i + 1) = stNx t c o i (stE t c o i) := rfl
    have hS2 : stNx t c o i (stE t c o i) = if lacB t c i = true then ((stE t c o i).1 ++ [-1], (stE t c o i).2) else if fndS (stE t c o i).1 (eqSt t c o i) i < 0 then ((stE t c o i).1 ++ [((stE t c o i).2 : Int)], (stE t c o i).2 + 1) else ((stE t c o i).1 ++ [fndS (stE t c o i).1 (eqSt t c o i) i], (stE t c o i).2) := rfl
    rw [hS2] at hS
    generalize numM cls i = M at g1 g2 g3 g4 hM
    generalize stE t c o i = st at g1 g3 g5 s1 s2 s3 hS
    have hap : ∀ (x : Int) k, k < i → (st.1 ++ [x]).getD k 0 = st.1.getD k 0 := fun x k hk => getD_app1 (by omega)
    have hae : ∀ x : Int, (st.1 ++ [x]).getD i 0 = x := fun x => by rw [← s1]; exact getD_app2
    by_cases hl : lacB t c i = true
    · have hc := h.lac i (by omega) hl
      rw [if_pos hl] at hS
      rw [hc, g2, if_pos (by rfl)] at hM
      refine ⟨by rw [hM, hS]; exact g1, by rw [hM]; exact g2, fun k hk => ?_, fun s hs hh => ?_, fun k hk => ?_⟩
      · rw [hM, hS]
        by_cases e : k = i
        · rw [e, hc, g2, hae]
        · rw [hap _ k (by omega)]; exact g3 k (by omega)
      · rw [hM] at hh
        obtain ⟨k, hk, e⟩ := g4 s hs hh
        exact ⟨k, by omega, e⟩
      · rw [hS]
        by_cases e : k = i
        · rw [e, hae]; exact ⟨fun _ => by decide, fun _ => hl⟩
        · rw [hap _ k (by omega)]; exact g5 k (by omega)
    · have hcp := h.pos i (by omega) hl
      rw [if_neg hl] at hS
      have hpos : ∀ k, k < i → (0 ≤ st.1.getD k 0 ∧ eqSt t c o i k = true ↔ cls k = cls i) := fun k hk => by
        constructor
        · rintro ⟨a, b⟩
          have hnl : ¬ lacB t c k = true := fun hh => by have := (g5 k hk).mp hh; omega
          exact (h.same i k (by omega) (by omega) hl hnl).mp b
        · intro e
          have hnl : ¬ lacB t c k = true := fun hh => by have := h.lac k (by omega) hh; omega
          have h5 := g5 k hk
          exact ⟨by by_cases hz : st.1.getD k 0 < 0; exact absurd (h5.mpr hz) hnl; omega, (h.same i k (by omega) (by omega) hl hnl).mpr e⟩
      cases hg : mget (cls i) M with
      | some v =>
        obtain ⟨k, hk, e⟩ := g4 (cls i) (by omega) (by rw [hg]; rfl)
        have hv : st.1.getD k 0 = v := by
          have := g3 k hk
          rw [e, hg] at this
          exact (Option.some.inj this).symm
        have hk2 := (hpos k hk).mpr e
        have hf : fndS st.1 (eqSt t c o i) i = v := fndS_hit (N := i) (by omega) (fun q hq a b => by
          have e2 := (hpos q hq).mp ⟨a, b⟩
          have := g3 q hq
          rw [e2, hg] at this
          exact (Option.some.inj this).symm) i (Nat.le_refl _) ⟨k, hk, hk2⟩
        have hv0 : 0 ≤ v := by omega
        rw [hf, if_neg (by omega)] at hS
        rw [hg, if_pos (by rfl)] at hM
        refine ⟨by rw [hM, hS]; exact g1, by rw [hM]; exact g2, fun q hq => ?_, fun s hs hh => ?_, fun q hq => ?_⟩
        · rw [hM, hS]
          by_cases e : q = i
          · rw [e, hg, hae]
          · rw [hap _ q (by omega)]; exact g3 q (by omega)
        · rw [hM] at hh
          obtain ⟨q, hq, e⟩ := g4 s hs hh
          exact ⟨q, by omega, e⟩
        · rw [hS]
          by_cases e : q = i
          · rw [e, hae]; exact ⟨fun x => absurd x hl, fun x => by omega⟩
          · rw [hap _ q (by omega)]; exact g5 q (by omega)
      | none =>
        have hf : fndS st.1 (eqSt t c o i) i = -1 := fndS_miss i fun q hq hh => by
          have e2 := (hpos q hq).mp hh
          have := g3 q hq
          rw [e2, hg] at this
          cases this
        rw [hf, if_pos (by decide)] at hS
        rw [hg, if_neg (by simp)] at hM
        have hlen : ((M.length : Nat) : Int) - 1 = (st.2 : Int) := by omega
        refine ⟨by rw [hM, hS, mset_len _ _ _ hg, g1], by rw [hM, mget_mset, if_neg (by omega)]; exact g2, fun q hq => ?_, fun s hs hh => ?_, fun q hq => ?_⟩
        · rw [hM, hS, mget_mset]
          by_cases e : q = i
          · rw [e, if_pos rfl, hae, hlen]
          · have h3 := g3 q (by omega)
            rw [if_neg (fun e2 => by rw [e2, hg] at h3; cases h3), hap _ q (by omega)]; exact h3
        · rw [hM, mget_mset] at hh
          by_cases e : s = cls i
          · exact ⟨i, by omega, e.symm⟩
          · rw [if_neg e] at hh
            obtain ⟨q, hq, e⟩ := g4 s hs hh
            exact ⟨q, by omega, e⟩
        · rw [hS]
          by_cases e : q = i
          · rw [e, hae]; exact ⟨fun x => absurd x hl, fun x => by omega⟩
          · rw [hap _ q (by omega)]; exact g5 q (by omega)
end Go.Proofs.YtnadacaoehpdnaaDoor.V

namespace Go.Proofs.YtnadacaoehpdnaaDoor.V
set_option linter.unusedVariables false
set_option linter.unusedSimpArgs false
open Go Go.Proofs Go.RowKit
set_option maxRecDepth 100000
set_option maxHeartbeats 2000000
open Go Go.Proofs Go.Proofs.YtnadacaoehpdnaaDoor.V
def tRow : Ty (List Int) := ⟨1, fun l _ => tI.L l, []⟩
def mxA (m : List (List Int)) : AV := .agg 1 (fun _ => tRow.L m)
def RowOk (m : List (List Int)) (i : Nat) : Prop := (m.getD i tRow.z).length = (m.getD 0 tRow.z).length ∧ (m.getD i tRow.z).length ≤ 4096 ∧ ∀ j, j < (m.getD i tRow.z).length → -1 ≤ (m.getD i tRow.z).getD j tI.z ∧ (m.getD i tRow.z).getD j tI.z < 12
def OkM (m : List (List Int)) : Prop := 0 < m.length ∧ m.length ≤ 12 ∧ ∀ i, i < m.length → RowOk m i
open Classical in
noncomputable def codeM (m : List (List Int)) : Int := if OkM m then 0 else 190
theorem codeM_yes {m : List (List Int)} (h : OkM m) : codeM m = 0 := if_pos h
theorem codeM_no {m : List (List Int)} (h : ¬ OkM m) : codeM m = 190 := if_neg h
theorem codeM_zero {m : List (List Int)} (h : codeM m = 0) : OkM m := by
  by_cases h2 : OkM m
  · exact h2
  · rw [codeM_no h2] at h; cases h
theorem check32_fn (m : List (List Int)) : Fn Tryd.prog 32 [mxA m] (.int .i64 (codeM m)) := by
  refine Fn.of Tryd.f32 _ Tryd.func32 rfl (by decide) (by show 1 ≤ _; decide) tbOk 51 rfl fun S w0 gl => ?_
  unfold mxA
  refine Run.go ?_; (conv => whnf); repeat' (first | ((with_reducible refine Know.mk fun _ => ?_); conv => whnf) | ((with_reducible refine Need.mk ?_ ?_); exact nd; conv => whnf) | ((with_reducible first | refine Both.mk ?_ ?_ | refine Any.mk fun b hb => ?_ | refine AskB.dec (fun hb => ?_) (fun hb => ?_) | refine AskB.ndec (fun hb => ?_) (fun hb => ?_) | refine AskB.mk (fun hb => ?_) (fun hb => ?_)) <;> conv => whnf) | ((with_reducible first | refine Run.drawX rfl (by decide +kernel) ?_ | refine Run.drawT rfl (by decide +kernel) ?_ | refine Run.drawW rfl (by decide +kernel) ?_); conv => whnf))
  case _ => exact Run.leave (ts := [2]) (.inr ⟨_, rfl⟩) rfl Tryd.func32 rfl (Le.int (codeM_no (fun h => by have := h.1; omega)).symm)
  case _ => exact Run.leave (ts := [2]) (.inr ⟨_, rfl⟩) rfl Tryd.func32 rfl (Le.int (codeM_no (fun h => by have := h.2.1; omega)).symm)
  refine Run.loop [1, 18, 19] (fun (i : Nat) => [(20, .int .i64 (i : Int))]) (fun i => [(1, .box 59 [tRow.L m])]) (fun i => i ≤ m.length ∧ ∀ i', i' < i → RowOk m i') (fun i => m.length - i) 0 ⟨Nat.zero_le _, fun _ h => absurd h (Nat.not_lt_zero _)⟩ ⟨Le.refl _, trivial⟩ ⟨MOle.refl _, trivial⟩ ?_
  intro i ⟨hi, hc⟩ IH
  have hw : IntKind.i64.wrap ((i : Int) + 1) = ((i + 1 : Nat) : Int) := wrap64 (by omega) (by omega)
  refine Run.go ?_; (conv => whnf); repeat' (first | ((with_reducible refine Know.mk fun _ => ?_); conv => whnf) | ((with_reducible refine Need.mk ?_ ?_); exact nd; conv => whnf) | ((with_reducible first | refine Both.mk ?_ ?_ | refine Any.mk fun b hb => ?_ | refine AskB.dec (fun hb => ?_) (fun hb => ?_) | refine AskB.ndec (fun hb => ?_) (fun hb => ?_) | refine AskB.mk (fun hb => ?_) (fun hb => ?_)) <;> conv => whnf) | ((with_reducible first | refine Run.drawX rfl (by decide +kernel) ?_ | refine Run.drawT rfl (by decide +kernel) ?_ | refine Run.drawW rfl (by decide +kernel) ?_); conv => whnf))
  · exact Run.leave (ts := [2]) (.inr ⟨_, rfl⟩) rfl Tryd.func32 rfl (Le.int (codeM_no (fun h => by have h2 := (h.2.2 i (by omega)).2.1; simp only [Int.toNat_natCast] at hb; omega)).symm)
  · have hlen : (m.getD i tRow.z).length ≤ 4096 := by simp only [Int.toNat_natCast] at *; omega
    have heq : (m.getD i tRow.z).length = (m.getD 0 tRow.z).length := by simp only [Int.toNat_natCast, Int.toNat_zero] at *; omega
    refine Run.loop [1, 18, 19, 20, 37, 38] (fun (j : Nat) => [(39, .int .i64 (j : Int))]) (fun j => [(1, .box 59 [tRow.L m])]) (fun j => j ≤ (m.getD i tRow.z).length ∧ ∀ j', j' < j → -1 ≤ (m.getD i tRow.z).getD j' tI.z ∧ (m.getD i tRow.z).getD j' tI.z < 12) (fun j => (m.getD i tRow.z).length - j) 0 ⟨Nat.zero_le _, fun _ h => absurd h (Nat.not_lt_zero _)⟩ ⟨Le.refl _, trivial⟩ ⟨MOle.refl _, trivial⟩ ?_
    intro j ⟨hj, hcj⟩ IHj
    have hwj : IntKind.i64.wrap ((j : Int) + 1) = ((j + 1 : Nat) : Int) := wrap64 (by omega) (by omega)
    refine Run.go ?_; (conv => whnf); repeat' (first | ((with_reducible refine Know.mk fun _ => ?_); conv => whnf) | ((with_reducible refine Need.mk ?_ ?_); exact nd; conv => whnf) | ((with_reducible first | refine Both.mk ?_ ?_ | refine Any.mk fun b hb => ?_ | refine AskB.dec (fun hb => ?_) (fun hb => ?_) | refine AskB.ndec (fun hb => ?_) (fun hb => ?_) | refine AskB.mk (fun hb => ?_) (fun hb => ?_)) <;> conv => whnf) | ((with_reducible first | refine Run.drawX rfl (by decide +kernel) ?_ | refine Run.drawT rfl (by decide +kernel) ?_ | refine Run.drawW rfl (by decide +kernel) ?_); conv => whnf))
    case _ => exact Run.leave (ts := [2]) (.inr ⟨_, rfl⟩) rfl Tryd.func32 rfl (Le.int (codeM_no (fun h => by have h2 := ((h.2.2 i (by omega)).2.2 j (by simp only [Int.toNat_natCast] at *; omega)).1; simp only [Int.toNat_natCast] at hb; omega)).symm)
    case _ => exact Run.leave (ts := [2]) (.inr ⟨_, rfl⟩) rfl Tryd.func32 rfl (Le.int (codeM_no (fun h => by have h2 := ((h.2.2 i (by omega)).2.2 j (by simp only [Int.toNat_natCast] at *; omega)).2; simp only [Int.toNat_natCast] at hb; omega)).symm)
    case _ =>
      refine Run.to _ _ ?_ ?_ (IHj (j + 1) (by simp only [Int.toNat_natCast] at *; omega) ⟨by simp only [Int.toNat_natCast] at *; omega, ?_⟩)
      · exact ⟨Le.refl _, Le.refl _, Le.refl _, Le.refl _, Le.refl _, Le.refl _, Le.int hwj, trivial⟩
      · exact ⟨MOle.refl _, trivial⟩
      · intro j' hj'
        rcases Nat.lt_succ_iff_lt_or_eq.mp hj' with h | h
        · exact hcj j' h
        · subst h; simp only [Int.toNat_natCast] at *; exact ⟨by omega, by omega⟩
    case _ =>
      refine Run.to _ _ ?_ ?_ (IH (i + 1) (by omega) ⟨by omega, ?_⟩)
      · exact ⟨Le.refl _, Le.refl _, Le.refl _, Le.int hw, trivial⟩
      · exact ⟨MOle.refl _, trivial⟩
      · intro i' hi'
        rcases Nat.lt_succ_iff_lt_or_eq.mp hi' with h | h
        · exact hc i' h
        · subst h
          have hje : j = (m.getD i' tRow.z).length := by simp only [Int.toNat_natCast] at *; omega
          subst hje
          exact ⟨heq, hlen, hcj⟩
  · exact Run.leave (ts := [2]) (.inr ⟨_, rfl⟩) rfl Tryd.func32 rfl (Le.int (codeM_no (fun h => hb (by exact_mod_cast (h.2.2 i (by omega)).1))).symm)
  · have hie : i = m.length := by omega
    subst hie
    exact Run.leave (ts := [2]) (.inr ⟨_, rfl⟩) rfl Tryd.func32 rfl (Le.int (codeM_yes ⟨by omega, by omega, hc⟩).symm)
end Go.Proofs.YtnadacaoehpdnaaDoor.V

namespace Go.Proofs.YtnadacaoehpdnaaDoor.V
set_option linter.unusedVariables false
set_option linter.unusedSimpArgs false
open Go
def bs (l : List UInt8) : ByteArray := ⟨l.toArray⟩
/-- A text's lines: what stands between newlines. -/
def splitL : List UInt8 → List (List UInt8)
  | [] => [[]]
  | b :: l => if b = 10 then [] :: splitL l else (b :: (splitL l).headD []) :: (splitL l).tail
def splitB (l : List UInt8) : List ByteArray := (splitL l).map bs
theorem splitL_ne : ∀ l, splitL l ≠ []
  | [] => by simp [splitL]
  | b :: l => by unfold splitL; split <;> simp
theorem splitL_len : ∀ l, (splitL l).length = Lib.countByte l 10 + 1
  | [] => rfl
  | b :: l => by
    have ih := splitL_len l
    unfold splitL
    by_cases h : b = 10
    · subst h
      rw [if_pos rfl]
      simp only [List.length_cons, ih, Lib.countByte, List.count_cons_self]
    · rw [if_neg h]
      have hc : Lib.countByte (b :: l) 10 = Lib.countByte l 10 := by
        unfold Lib.countByte
        rw [List.count_cons_of_ne h]
      simp only [List.length_cons, List.length_tail, hc, ih]
      omega
theorem splitL_no : ∀ l, Lib.indexByte l 10 = -1 → splitL l = [l]
  | [], _ => rfl
  | b :: l, h => by
    unfold Lib.indexByte at h
    have hge := Lib.indexByte_ge l 10
    by_cases hb : b = 10
    · subst hb; simp at h
    · have hb2 : (b == 10) = false := by simpa using hb
      rw [hb2] at h
      by_cases hi : Lib.indexByte l 10 = -1
      · unfold splitL
        rw [if_neg hb, splitL_no l hi]; rfl
      · have hi2 : (Lib.indexByte l 10 == -1) = false := by simpa using hi
        simp only [hi2, Bool.false_eq_true, if_false] at h
        omega
theorem splitL_at : ∀ (l : List UInt8) (k : Nat), Lib.indexByte l 10 = (k : Int) → k < l.length ∧ splitL l = l.take k :: splitL (l.drop (k + 1))
  | [], k, h => by simp only [Lib.indexByte] at h; omega
  | b :: l, k, h => by
    unfold Lib.indexByte at h
    by_cases hb : b = 10
    · subst hb
      simp at h
      have : k = 0 := by omega
      subst this
      have e : splitL (10 :: l) = [] :: splitL l := by rw [splitL, if_pos rfl]
      rw [e]
      exact ⟨by simp, rfl⟩
    · have hb2 : (b == 10) = false := by simpa using hb
      rw [hb2] at h
      by_cases hi : Lib.indexByte l 10 = -1
      · simp [hi] at h
      · have hi2 : (Lib.indexByte l 10 == -1) = false := by simpa using hi
        simp only [hi2, Bool.false_eq_true, if_false] at h
        obtain ⟨j, rfl⟩ : ∃ j, k = j + 1 := ⟨k - 1, by have := Lib.indexByte_ge l 10; omega⟩
        obtain ⟨h1, h2⟩ := splitL_at l j (by omega)
        refine ⟨by simp; omega, ?_⟩
        show splitL (b :: l) = _
        rw [splitL, if_neg hb, h2]; rfl
theorem splitL_two {l : List UInt8} (h : 2 ≤ (splitL l).length) : ∃ k : Nat, Lib.indexByte l 10 = (k : Int) := by
  have hge := Lib.indexByte_ge l 10
  by_cases hi : Lib.indexByte l 10 = -1
  · rw [splitL_no l hi] at h; simp at h
  · exact ⟨(Lib.indexByte l 10).toNat, by omega⟩
theorem bs_size (l : List UInt8) : (bs l).size = l.length := by simp [bs, ByteArray.size]
theorem bs_data (l : List UInt8) : (bs l).data.toList = l := by simp [bs]
theorem bs_extract (l : List UInt8) (a b : Nat) : (bs l).extract a b = bs ((l.drop a).take (b - a)) := by
  apply ByteArray.ext
  apply Array.ext'
  simp [bs]
/-- A list of which the first i are laid. -/
def partM {α : Type} (l : List α) (z : α) (i : Nat) : List α := l.take i ++ List.replicate (l.length - i) z
theorem partM_len {α : Type} (l : List α) (z : α) (i : Nat) (h : i ≤ l.length) : (partM l z i).length = l.length := by simp [partM]; omega
theorem partM_set {α : Type} (l : List α) (z : α) (i : Nat) (h : i < l.length) : (partM l z i).set i (l.getD i z) = partM l z (i + 1) := by
  unfold partM
  refine List.ext_getElem (by simp; omega) fun j h1 h2 => ?_
  rw [List.getElem_set]
  by_cases e : i = j
  · subst e
    rw [if_pos rfl, List.getElem_append_left (by simp; omega)]
    simp [List.getD, h]
  · rw [if_neg e]
    rcases Nat.lt_or_ge j i with h3 | h3
    · rw [List.getElem_append_left (by simp; omega), List.getElem_append_left (by simp; omega)]; simp
    · rw [List.getElem_append_right (by simp; omega), List.getElem_append_right (by simp; omega)]; simp
theorem partM_all {α : Type} (l : List α) (z : α) : partM l z l.length = l := by simp [partM]
theorem partM_none {α : Type} (l : List α) (z : α) : partM l z 0 = List.replicate l.length z := by simp [partM]
end Go.Proofs.YtnadacaoehpdnaaDoor.V

