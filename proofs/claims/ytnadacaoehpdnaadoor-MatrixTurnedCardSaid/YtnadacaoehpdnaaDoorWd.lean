/-
Print, of the program and of the document, walked.
-/
import Derived.Test.YtnadacaoehpdnaaDoorWc
namespace Go.Proofs.YtnadacaoehpdnaaDoor.V
open Go Go.Proofs Go.RowKit
set_option linter.unusedVariables false
set_option linter.unusedSimpArgs false
set_option maxRecDepth 100000
set_option maxHeartbeats 2000000
open Go Go.Proofs Go.Proofs.YtnadacaoehpdnaaDoor.V
theorem wb5 {N : Nat} {w0 : World} {S : Nat → Prop} {gl : GlobOk S w0} {f : FuncId} {R : Ending → World → Prop} {ops : Array Oper} {i : Nat} {rest : List Nat} {k : List Item} {env : Env} {h : Heap} {o : Oper} {x y : Operand}
    (p : AV) (t : ByteArray) (u : UInt8) (ho : ops.toList[i]? = some o) (hc : calls? o = some (48, [x, y])) (hd : okD N o.dst = true) (hr : ready env ops o = true) (hx : ev (scrubE 900 env) x = .box 5 0) (hy : ev (scrubE 900 env) y = .int .u8 (u.toNat : Int))
    (hs : t.size + 1 ≤ 34359738368) (hp : p = .nilp ∨ p = .box 5 0)
    (next : Run ⟨Tryd.prog, TB, tbOk, N, w0, S, gl, f, R⟩ (.inRegion ops rest :: k) (putE (envB 90 env) o.dst .u) (bldr 95 5 5 90 (heapB 90 h) (.box 5 0) (t ++ ⟨#[u]⟩))) :
    Run ⟨Tryd.prog, TB, tbOk, N, w0, S, gl, f, R⟩ (.inRegion ops (i :: rest) :: k) env (bldr 95 5 5 90 h p t) := by
  refine Run.inline 900 Tryd.f48 _ 17 ho hc Tryd.func48 rfl (by decide) rfl (by show 2 ≤ 17; decide) hd hr (fun a hsz hdf => ?_)
  simp only [List.map, hx, hy]
  have fin : ∀ (E : Env) (H : Heap) (X : AV), (∀ i, E i = scrub 14 (scrub 13 (scrub 901 (scrub 900 (env i))))) → (∀ id, Nat.beq id 5 = false → Nat.beq id 90 = false → Nat.beq id 14 = false → Nat.beq id 13 = false → Nat.beq id 901 = false → Nat.beq id 900 = false → H id = scrubM 90 (scrubM 14 (scrubM 13 (scrubM 901 (scrubM 900 (h id)))))) →
      MOle (H 5) (.box 95 [.box 5 0, .row 90]) → MOle (H 90) (.row 5 1 (t ++ ⟨#[u]⟩).size (bytesG (t ++ ⟨#[u]⟩))) → Run ⟨Tryd.prog, TB, tbOk, N, w0, S, gl, f, R⟩ (.inRegion ops rest :: k) (scrubE 90 (putE E o.dst X)) H := by
    intro E H X hE hH h5 h90
    refine Run.weaken (fun i => ?_) (fun id => ?_) next
    · cases hdst : o.dst with
      | none => show Le (scrub 90 (E i)) _; rw [hE]; exact Le.refl _
      | some d =>
        show Le (scrub 90 (upd E d X i)) (upd (envB 90 env) d .u i)
        by_cases e : i = d
        · subst e; rw [upd_same, upd_same]; exact Le.u _
        · rw [upd_other _ _ e, upd_other _ _ e, hE]; exact Le.refl _
    · unfold bldr heapB
      cases e5 : Nat.beq id 5 with
      | true => have := Nat.eq_of_beq_eq_true e5; subst this; exact h5
      | false =>
      cases e90 : Nat.beq id 90 with
      | true => have := Nat.eq_of_beq_eq_true e90; subst this; exact h90
      | false =>
      cases e900 : Nat.beq id 900 with
      | true => simp only [upd, e5, e90, e900, cond_true, cond_false]; exact mole_dead _
      | false =>
      cases e901 : Nat.beq id 901 with
      | true => simp only [upd, e5, e90, e900, e901, cond_true, cond_false]; exact mole_dead _
      | false =>
      cases e13 : Nat.beq id 13 with
      | true => simp only [upd, e5, e90, e900, e901, e13, cond_true, cond_false]; exact mole_dead _
      | false =>
      cases e14 : Nat.beq id 14 with
      | true => simp only [upd, e5, e90, e900, e901, e13, e14, cond_true, cond_false]; exact mole_dead _
      | false =>
        rw [hH id e5 e90 e14 e13 e901 e900]
        simp only [upd, e5, e90, e900, e901, e13, e14, cond_true, cond_false]
        exact MOle.refl _
  rcases hp with rfl | rfl
  · refine Run.go ?_; (conv => whnf); repeat' (first | ((with_reducible refine Know.mk fun _ => ?_); conv => whnf) | ((with_reducible refine Need.mk ?_ ?_); (first | omega | (dsimp only; omega) | decide | exact bytes_le (by rfl) (by omega) | exact ⟨rfl, by omega, bytes_le (by rfl) (by omega), by omega⟩ | (refine ⟨?_, ?_⟩ <;> (rw [wrap64 (by omega) (by omega)]; omega))); conv => whnf) | ((with_reducible refine Both.mk ?_ ?_) <;> conv => whnf) | ((with_reducible refine Any.mk fun b hb => ?_); conv => whnf) | ((with_reducible refine AskB.dec (fun hb => ?_) (fun hb => ?_)) <;> conv => whnf) | ((with_reducible refine AskB.ndec (fun hb => ?_) (fun hb => ?_)) <;> conv => whnf) | ((with_reducible refine AskB.mk (fun hb => ?_) (fun hb => ?_)) <;> conv => whnf) | ((with_reducible refine Run.drawX rfl (by decide +kernel) ?_); conv => whnf) | ((with_reducible refine Run.drawT rfl (by decide +kernel) ?_); conv => whnf) | ((with_reducible refine Run.drawW rfl (by decide +kernel) ?_); conv => whnf) | fail)
    refine Run.inline 901 Tryd.f61 _ 20 rfl rfl Tryd.func61 rfl (by decide) rfl (by decide) rfl rfl (fun a2 hsz2 hdf2 => ?_)
    refine Run.go ?_; (conv => whnf); repeat' (first | ((with_reducible refine Know.mk fun _ => ?_); conv => whnf) | ((with_reducible refine Need.mk ?_ ?_); (first | omega | (dsimp only; omega) | decide | exact bytes_le (by rfl) (by omega) | exact ⟨rfl, by omega, bytes_le (by rfl) (by omega), by omega⟩ | (refine ⟨?_, ?_⟩ <;> (rw [wrap64 (by omega) (by omega)]; omega))); conv => whnf) | ((with_reducible refine Both.mk ?_ ?_) <;> conv => whnf) | ((with_reducible refine Any.mk fun b hb => ?_); conv => whnf) | ((with_reducible refine AskB.dec (fun hb => ?_) (fun hb => ?_)) <;> conv => whnf) | ((with_reducible refine AskB.ndec (fun hb => ?_) (fun hb => ?_)) <;> conv => whnf) | ((with_reducible refine AskB.mk (fun hb => ?_) (fun hb => ?_)) <;> conv => whnf) | ((with_reducible refine Run.drawX rfl (by decide +kernel) ?_); conv => whnf) | ((with_reducible refine Run.drawT rfl (by decide +kernel) ?_); conv => whnf) | ((with_reducible refine Run.drawW rfl (by decide +kernel) ?_); conv => whnf) | fail)
    refine Run.toUnsafe (id := 5) (l := [.nilp, .row 90]) (e := 95) (t := 95) (src := 92) (dst := 136) (x := .tmp 8) rfl rfl rfl rfl rfl rfl (by decide) (by kernel_rfl) (by kernel_rfl) (j := (Tryd.prog.info? 95).get (by kernel_rfl)) (by kernel_rfl) (by decide +kernel) ?_
    refine Run.noEscape (f := 79) (x := .tmp 9) rfl rfl rfl rfl Tryd.func79 (by kernel_rfl) (by kernel_rfl) (by kernel_rfl) (by kernel_rfl) ?_
    refine Run.fromUnsafe (id := 5) (l := [.nilp, .row 90]) (e := 95) (u := 95) (src := 136) (dst := 92) (x := .tmp 10) rfl rfl rfl rfl rfl rfl (by kernel_rfl) (by kernel_rfl) (j := (Tryd.prog.info? 95).get (by kernel_rfl)) (by kernel_rfl) (by kernel_rfl) ?_
    refine Run.go ?_; (conv => whnf); repeat' (first | ((with_reducible refine Know.mk fun _ => ?_); conv => whnf) | ((with_reducible refine Need.mk ?_ ?_); (first | omega | (dsimp only; omega) | decide | exact bytes_le (by rfl) (by omega) | exact ⟨rfl, by omega, bytes_le (by rfl) (by omega), by omega⟩ | (refine ⟨?_, ?_⟩ <;> (rw [wrap64 (by omega) (by omega)]; omega))); conv => whnf) | ((with_reducible refine Both.mk ?_ ?_) <;> conv => whnf) | ((with_reducible refine Any.mk fun b hb => ?_); conv => whnf) | ((with_reducible refine AskB.dec (fun hb => ?_) (fun hb => ?_)) <;> conv => whnf) | ((with_reducible refine AskB.ndec (fun hb => ?_) (fun hb => ?_)) <;> conv => whnf) | ((with_reducible refine AskB.mk (fun hb => ?_) (fun hb => ?_)) <;> conv => whnf) | ((with_reducible refine Run.drawX rfl (by decide +kernel) ?_); conv => whnf) | ((with_reducible refine Run.drawT rfl (by decide +kernel) ?_); conv => whnf) | ((with_reducible refine Run.drawW rfl (by decide +kernel) ?_); conv => whnf) | fail)
    refine Run.back 901 (ts := []) hsz2 hdf2 (.inl rfl) (by rfl) Tryd.func61 rfl ?_
    refine Run.go ?_; (conv => whnf); repeat' (first | ((with_reducible refine Know.mk fun _ => ?_); conv => whnf) | ((with_reducible refine Need.mk ?_ ?_); (first | omega | (dsimp only; omega) | decide | exact bytes_le (by rfl) (by omega) | exact ⟨rfl, by omega, bytes_le (by rfl) (by omega), by omega⟩ | (refine ⟨?_, ?_⟩ <;> (rw [wrap64 (by omega) (by omega)]; omega))); conv => whnf) | ((with_reducible refine Both.mk ?_ ?_) <;> conv => whnf) | ((with_reducible refine Any.mk fun b hb => ?_); conv => whnf) | ((with_reducible refine AskB.dec (fun hb => ?_) (fun hb => ?_)) <;> conv => whnf) | ((with_reducible refine AskB.ndec (fun hb => ?_) (fun hb => ?_)) <;> conv => whnf) | ((with_reducible refine AskB.mk (fun hb => ?_) (fun hb => ?_)) <;> conv => whnf) | ((with_reducible refine Run.drawX rfl (by decide +kernel) ?_); conv => whnf) | ((with_reducible refine Run.drawT rfl (by decide +kernel) ?_); conv => whnf) | ((with_reducible refine Run.drawW rfl (by decide +kernel) ?_); conv => whnf) | fail)
    refine Run.back 900 (ts := [4]) hsz hdf (.inr ⟨_, rfl⟩) (by rfl) Tryd.func48 rfl ?_
    refine Run.holdBoxRow 5 1 90 14 (by rfl) (by rfl) (by rfl) rfl rfl rfl ?_
    refine fin _ _ _ (fun i => rfl) (fun id e5 e90 e14 e13 e901 e900 => ?_) (MOle.refl _) (bytesG_push 5 t u _ rfl)
    simp only [upd, scrubH, scrubM, bldr, e5, e90, e14, e13, e901, e900, cond_false]
  · refine Run.go ?_; (conv => whnf); repeat' (first | ((with_reducible refine Know.mk fun _ => ?_); conv => whnf) | ((with_reducible refine Need.mk ?_ ?_); (first | omega | (dsimp only; omega) | decide | exact bytes_le (by rfl) (by omega) | exact ⟨rfl, by omega, bytes_le (by rfl) (by omega), by omega⟩ | (refine ⟨?_, ?_⟩ <;> (rw [wrap64 (by omega) (by omega)]; omega))); conv => whnf) | ((with_reducible refine Both.mk ?_ ?_) <;> conv => whnf) | ((with_reducible refine Any.mk fun b hb => ?_); conv => whnf) | ((with_reducible refine AskB.dec (fun hb => ?_) (fun hb => ?_)) <;> conv => whnf) | ((with_reducible refine AskB.ndec (fun hb => ?_) (fun hb => ?_)) <;> conv => whnf) | ((with_reducible refine AskB.mk (fun hb => ?_) (fun hb => ?_)) <;> conv => whnf) | ((with_reducible refine Run.drawX rfl (by decide +kernel) ?_); conv => whnf) | ((with_reducible refine Run.drawT rfl (by decide +kernel) ?_); conv => whnf) | ((with_reducible refine Run.drawW rfl (by decide +kernel) ?_); conv => whnf) | fail)
    refine Run.inline 901 Tryd.f61 _ 20 rfl rfl Tryd.func61 rfl (by decide) rfl (by decide) rfl rfl (fun a2 hsz2 hdf2 => ?_)
    refine Run.go ?_; (conv => whnf); repeat' (first | ((with_reducible refine Know.mk fun _ => ?_); conv => whnf) | ((with_reducible refine Need.mk ?_ ?_); (first | omega | (dsimp only; omega) | decide | exact bytes_le (by rfl) (by omega) | exact ⟨rfl, by omega, bytes_le (by rfl) (by omega), by omega⟩ | (refine ⟨?_, ?_⟩ <;> (rw [wrap64 (by omega) (by omega)]; omega))); conv => whnf) | ((with_reducible refine Both.mk ?_ ?_) <;> conv => whnf) | ((with_reducible refine Any.mk fun b hb => ?_); conv => whnf) | ((with_reducible refine AskB.dec (fun hb => ?_) (fun hb => ?_)) <;> conv => whnf) | ((with_reducible refine AskB.ndec (fun hb => ?_) (fun hb => ?_)) <;> conv => whnf) | ((with_reducible refine AskB.mk (fun hb => ?_) (fun hb => ?_)) <;> conv => whnf) | ((with_reducible refine Run.drawX rfl (by decide +kernel) ?_); conv => whnf) | ((with_reducible refine Run.drawT rfl (by decide +kernel) ?_); conv => whnf) | ((with_reducible refine Run.drawW rfl (by decide +kernel) ?_); conv => whnf) | fail)
    refine Run.back 901 (ts := []) hsz2 hdf2 (.inl rfl) (by rfl) Tryd.func61 rfl ?_
    refine Run.go ?_; (conv => whnf); repeat' (first | ((with_reducible refine Know.mk fun _ => ?_); conv => whnf) | ((with_reducible refine Need.mk ?_ ?_); (first | omega | (dsimp only; omega) | decide | exact bytes_le (by rfl) (by omega) | exact ⟨rfl, by omega, bytes_le (by rfl) (by omega), by omega⟩ | (refine ⟨?_, ?_⟩ <;> (rw [wrap64 (by omega) (by omega)]; omega))); conv => whnf) | ((with_reducible refine Both.mk ?_ ?_) <;> conv => whnf) | ((with_reducible refine Any.mk fun b hb => ?_); conv => whnf) | ((with_reducible refine AskB.dec (fun hb => ?_) (fun hb => ?_)) <;> conv => whnf) | ((with_reducible refine AskB.ndec (fun hb => ?_) (fun hb => ?_)) <;> conv => whnf) | ((with_reducible refine AskB.mk (fun hb => ?_) (fun hb => ?_)) <;> conv => whnf) | ((with_reducible refine Run.drawX rfl (by decide +kernel) ?_); conv => whnf) | ((with_reducible refine Run.drawT rfl (by decide +kernel) ?_); conv => whnf) | ((with_reducible refine Run.drawW rfl (by decide +kernel) ?_); conv => whnf) | fail)
    refine Run.back 900 (ts := [4]) hsz hdf (.inr ⟨_, rfl⟩) (by rfl) Tryd.func48 rfl ?_
    refine Run.holdBoxRow 5 1 90 14 (by rfl) (by rfl) (by rfl) rfl rfl rfl ?_
    refine fin _ _ _ (fun i => rfl) (fun id e5 e90 e14 e13 e901 e900 => ?_) (MOle.refl _) (bytesG_push 5 t u _ rfl)
    simp only [upd, scrubH, scrubM, bldr, e5, e90, e14, e13, e901, e900, cond_false]

theorem bs5 {N : Nat} {w0 : World} {S : Nat → Prop} {gl : GlobOk S w0} {f : FuncId} {R : Ending → World → Prop} {ops : Array Oper} {i : Nat} {rest : List Nat} {k : List Item} {env : Env} {h : Heap} {o : Oper} {x : Operand}
    (p : AV) (t : ByteArray) (ho : ops.toList[i]? = some o) (hc : calls? o = some (49, [x])) (hd : okD N o.dst = true) (hr : ready env ops o = true) (hx : ev (scrubE 900 env) x = .box 5 0)
    (next : Run ⟨Tryd.prog, TB, tbOk, N, w0, S, gl, f, R⟩ (.inRegion ops rest :: k) (putE (scrubE 900 env) o.dst (.str t)) (upd (upd (upd (scrubH 900 h) 900 .dead) 5 .dead) 90 .dead)) :
    Run ⟨Tryd.prog, TB, tbOk, N, w0, S, gl, f, R⟩ (.inRegion ops (i :: rest) :: k) env (bldr 95 5 5 90 h p t) := by
  refine Run.inline 900 Tryd.f49 _ 14 ho hc Tryd.func49 rfl (by decide) rfl (by show 1 ≤ 14; decide) hd hr (fun a hsz hdf => ?_)
  simp only [List.map, hx]
  have fin : ∀ (H : Heap), (∀ id, Nat.beq id 5 = false → Nat.beq id 90 = false → Nat.beq id 900 = false → H id = scrubM 900 (h id)) →
      Run ⟨Tryd.prog, TB, tbOk, N, w0, S, gl, f, R⟩ (.inRegion ops rest :: k) (putE (scrubE 900 env) o.dst (.str t)) H := by
    intro H hH
    refine Run.weaken (fun i => Le.refl _) (fun id => ?_) next
    cases e5 : Nat.beq id 5 with
    | true => simp only [upd, e5, cond_true, cond_false]; cases Nat.beq id 90 <;> exact mole_dead _
    | false =>
    cases e90 : Nat.beq id 90 with
    | true => simp only [upd, e5, e90, cond_true, cond_false]; exact mole_dead _
    | false =>
    cases e900 : Nat.beq id 900 with
    | true => simp only [upd, e5, e90, e900, cond_true, cond_false]; exact mole_dead _
    | false =>
      rw [hH id e5 e90 e900]
      simp only [upd, e5, e90, e900, cond_true, cond_false]
      exact MOle.refl _
  refine Run.go ?_; (conv => whnf); repeat' (first | ((with_reducible refine Know.mk fun _ => ?_); conv => whnf) | ((with_reducible refine Need.mk ?_ ?_); (first | omega | (dsimp only; omega) | decide | exact bytes_le (by rfl) (by omega) | exact ⟨rfl, by omega, bytes_le (by rfl) (by omega), by omega⟩ | (refine ⟨?_, ?_⟩ <;> (rw [wrap64 (by omega) (by omega)]; omega))); conv => whnf) | ((with_reducible refine Both.mk ?_ ?_) <;> conv => whnf) | ((with_reducible refine Any.mk fun b hb => ?_); conv => whnf) | ((with_reducible refine AskB.dec (fun hb => ?_) (fun hb => ?_)) <;> conv => whnf) | ((with_reducible refine AskB.ndec (fun hb => ?_) (fun hb => ?_)) <;> conv => whnf) | ((with_reducible refine AskB.mk (fun hb => ?_) (fun hb => ?_)) <;> conv => whnf) | ((with_reducible refine Run.drawX rfl (by decide +kernel) ?_); conv => whnf) | ((with_reducible refine Run.drawT rfl (by decide +kernel) ?_); conv => whnf) | ((with_reducible refine Run.drawW rfl (by decide +kernel) ?_); conv => whnf) | fail)
  · refine Run.unsafeString0 (i := 10) (rest := [11]) (k := [.code .ret]) (x := .tmp 7) (y := .tmp 12) (c := ⟨.builtin .unsafeString, #[.tmp 7, .tmp 12], #[113, 3]⟩) rfl rfl rfl rfl rfl rfl rfl (.inl rfl) (by show AV.int .i64 (t.size : Int) = _; rw [hb]; rfl) ?_
    have ht : t = .empty := by simpa using hb
    refine Run.go ?_; (conv => whnf); repeat' (first | ((with_reducible refine Know.mk fun _ => ?_); conv => whnf) | ((with_reducible refine Need.mk ?_ ?_); (first | omega | (dsimp only; omega) | decide | exact bytes_le (by rfl) (by omega) | exact ⟨rfl, by omega, bytes_le (by rfl) (by omega), by omega⟩ | (refine ⟨?_, ?_⟩ <;> (rw [wrap64 (by omega) (by omega)]; omega))); conv => whnf) | ((with_reducible refine Both.mk ?_ ?_) <;> conv => whnf) | ((with_reducible refine Any.mk fun b hb => ?_); conv => whnf) | ((with_reducible refine AskB.dec (fun hb => ?_) (fun hb => ?_)) <;> conv => whnf) | ((with_reducible refine AskB.ndec (fun hb => ?_) (fun hb => ?_)) <;> conv => whnf) | ((with_reducible refine AskB.mk (fun hb => ?_) (fun hb => ?_)) <;> conv => whnf) | ((with_reducible refine Run.drawX rfl (by decide +kernel) ?_); conv => whnf) | ((with_reducible refine Run.drawT rfl (by decide +kernel) ?_); conv => whnf) | ((with_reducible refine Run.drawW rfl (by decide +kernel) ?_); conv => whnf) | fail)
    refine Run.back 900 (ts := [2]) hsz hdf (.inr ⟨_, rfl⟩) (by rfl) Tryd.func49 rfl ?_
    rw [ht] at fin next ⊢
    exact fin _ (fun id e5 e90 e900 => by simp only [upd, scrubH, bldr, e5, e90, e900, cond_false])
  · refine Run.unsafeString (i := 10) (rest := [11]) (k := [.code .ret]) (x := .tmp 7) (y := .tmp 12) (c := ⟨.builtin .unsafeString, #[.tmp 7, .tmp 12], #[113, 3]⟩) t rfl rfl rfl rfl rfl rfl rfl rfl rfl (e := 5) (n := t.size) (q := 90) (get := bytesG t) rfl rfl hb (fun _ _ => rfl) (by kernel_rfl) (by kernel_rfl) ?_
    refine Run.go ?_; (conv => whnf); repeat' (first | ((with_reducible refine Know.mk fun _ => ?_); conv => whnf) | ((with_reducible refine Need.mk ?_ ?_); (first | omega | (dsimp only; omega) | decide | exact bytes_le (by rfl) (by omega) | exact ⟨rfl, by omega, bytes_le (by rfl) (by omega), by omega⟩ | (refine ⟨?_, ?_⟩ <;> (rw [wrap64 (by omega) (by omega)]; omega))); conv => whnf) | ((with_reducible refine Both.mk ?_ ?_) <;> conv => whnf) | ((with_reducible refine Any.mk fun b hb => ?_); conv => whnf) | ((with_reducible refine AskB.dec (fun hb => ?_) (fun hb => ?_)) <;> conv => whnf) | ((with_reducible refine AskB.ndec (fun hb => ?_) (fun hb => ?_)) <;> conv => whnf) | ((with_reducible refine AskB.mk (fun hb => ?_) (fun hb => ?_)) <;> conv => whnf) | ((with_reducible refine Run.drawX rfl (by decide +kernel) ?_); conv => whnf) | ((with_reducible refine Run.drawT rfl (by decide +kernel) ?_); conv => whnf) | ((with_reducible refine Run.drawW rfl (by decide +kernel) ?_); conv => whnf) | fail)
    refine Run.back 900 (ts := [2]) hsz hdf (.inr ⟨_, rfl⟩) (by rfl) Tryd.func49 rfl ?_
    exact fin _ (fun id e5 e90 e900 => by simp only [upd, scrubH, bldr, e5, e90, e900, cond_false])
def signL : List UInt8 := [63, 48, 49, 50, 51, 52, 53, 54, 55, 56, 57, 97, 98]
def signC (x : Int) : UInt8 := signL.getD (x + 1).toNat 0
/-- A matrix's bytes. -/
def prL (m : List (List Int)) : List UInt8 := m.flatMap (fun r => r.map signC ++ [10])
theorem bs_push (a : List UInt8) (u : UInt8) : bs a ++ ⟨#[u]⟩ = bs (a ++ [u]) := by
  apply ByteArray.ext; apply Array.ext'; simp [bs]
theorem prL_take (m : List (List Int)) (i : Nat) (h : i < m.length) : prL (m.take (i + 1)) = prL (m.take i) ++ ((m.getD i tRow.z).map signC ++ [10]) := by
  rw [List.take_succ_eq_append_getElem h, List.getD, List.getElem?_eq_getElem h]
  unfold prL
  rw [List.flatMap_append]
  simp only [List.flatMap_cons, List.flatMap_nil, List.append_nil, Option.getD_some]
theorem prL_len (m : List (List Int)) (h : ∀ r ∈ m, r.length ≤ 4096) : (prL m).length ≤ m.length * 4097 := by
  induction m with
  | nil => simp [prL]
  | cons r m ih =>
    have h1 := h r (by simp)
    have h2 := ih (fun v hv => h v (by simp [hv]))
    have e : prL (r :: m) = (r.map signC ++ [10]) ++ prL m := by simp [prL]
    rw [e, List.length_append, List.length_cons, Nat.add_mul]
    simp only [List.length_append, List.length_map, List.length_cons, List.length_nil]
    omega
theorem row_le {m : List (List Int)} (h : OkM m) : ∀ r ∈ m, r.length ≤ 4096 := fun r hr => by
  obtain ⟨i, hi, e⟩ := List.getElem_of_mem hr
  have := (h.2.2 i hi).2.1
  rw [List.getD, List.getElem?_eq_getElem hi] at this
  subst e; exact this
open Classical in
noncomputable def printS (m : List (List Int)) : ByteArray := if OkM m then bs (prL m) else .empty
noncomputable def printL (m : List (List Int)) : AV := tupL [.str (printS m), .int .i64 (codeM m)]
theorem print31_fn (m : List (List Int)) : Fn Tryd.prog 31 [mxA m] (printL m) := by
  refine Fn.of Tryd.f31 _ Tryd.func31 rfl (by decide) (by show 1 ≤ _; decide) tbOk 36 rfl fun S w0 gl => ?_
  unfold mxA
  refine Run.go ?_; (conv => whnf); repeat' (first | ((with_reducible refine Know.mk fun _ => ?_); conv => whnf) | ((with_reducible refine Need.mk ?_ ?_); (first | omega | (dsimp only; omega) | decide | exact bytes_le (by rfl) (by omega) | exact ⟨rfl, by omega, bytes_le (by rfl) (by omega), by omega⟩ | (refine ⟨?_, ?_⟩ <;> (rw [wrap64 (by omega) (by omega)]; omega))); conv => whnf) | ((with_reducible refine Both.mk ?_ ?_) <;> conv => whnf) | ((with_reducible refine Any.mk fun b hb => ?_); conv => whnf) | ((with_reducible refine AskB.dec (fun hb => ?_) (fun hb => ?_)) <;> conv => whnf) | ((with_reducible refine AskB.ndec (fun hb => ?_) (fun hb => ?_)) <;> conv => whnf) | ((with_reducible refine AskB.mk (fun hb => ?_) (fun hb => ?_)) <;> conv => whnf) | ((with_reducible refine Run.drawX rfl (by decide +kernel) ?_); conv => whnf) | ((with_reducible refine Run.drawT rfl (by decide +kernel) ?_); conv => whnf) | ((with_reducible refine Run.drawW rfl (by decide +kernel) ?_); conv => whnf) | fail)
  refine Run.callAX (check32_fn m) rfl rfl ⟨?_, trivial⟩ rfl rfl rfl ?_
  · refine Le.agg (n := 1) (fun j hj => ?_)
    have hj0 : j = 0 := by omega
    subst hj0; exact Le.refl _
  (conv => whnf); repeat' (first | ((with_reducible refine Know.mk fun _ => ?_); conv => whnf) | ((with_reducible refine Need.mk ?_ ?_); (first | omega | (dsimp only; omega) | decide | exact bytes_le (by rfl) (by omega) | exact ⟨rfl, by omega, bytes_le (by rfl) (by omega), by omega⟩ | (refine ⟨?_, ?_⟩ <;> (rw [wrap64 (by omega) (by omega)]; omega))); conv => whnf) | ((with_reducible refine Both.mk ?_ ?_) <;> conv => whnf) | ((with_reducible refine Any.mk fun b hb => ?_); conv => whnf) | ((with_reducible refine AskB.dec (fun hb => ?_) (fun hb => ?_)) <;> conv => whnf) | ((with_reducible refine AskB.ndec (fun hb => ?_) (fun hb => ?_)) <;> conv => whnf) | ((with_reducible refine AskB.mk (fun hb => ?_) (fun hb => ?_)) <;> conv => whnf) | ((with_reducible refine Run.drawX rfl (by decide +kernel) ?_); conv => whnf) | ((with_reducible refine Run.drawT rfl (by decide +kernel) ?_); conv => whnf) | ((with_reducible refine Run.drawW rfl (by decide +kernel) ?_); conv => whnf) | fail)
  · have hok := codeM_zero hb
    have hm12 := hok.2.1
    have hrow : ∀ i, i < m.length → (m.getD i tRow.z).length ≤ 4096 := fun i hi => (hok.2.2 i hi).2.1
    have hT : ∀ i, i ≤ m.length → (prL (m.take i)).length ≤ 60000 := fun i hi => by
      have h1 := prL_len (m.take i) (fun r hr => row_le hok r (List.mem_of_mem_take hr))
      have h2 : (m.take i).length ≤ 12 := by rw [List.length_take]; omega
      have h3 := Nat.mul_le_mul_right 4097 h2
      omega
    refine Run.holdBoxNil 5 1 90 5 1 (bytesG .empty) rfl rfl rfl rfl ?_
    refine Run.loop [5, 16, 17] (fun (a : Nat × AV) => [(18, .int .i64 (a.1 : Int))]) (fun a => [(5, .box 95 [a.2, .row 90]), (90, .row 5 1 (bs (prL (m.take a.1))).size (bytesG (bs (prL (m.take a.1)))))]) (fun a => a.1 ≤ m.length ∧ (a.2 = .nilp ∨ a.2 = .box 5 0)) (fun a => m.length - a.1) (0, .nilp) ⟨Nat.zero_le _, .inl rfl⟩ ⟨Le.refl _, trivial⟩ ⟨MOle.refl _, MOle.refl _, trivial⟩ ?_
    intro ⟨i, p⟩ ⟨hi, hp⟩ IH
    simp only [] at hi hp ⊢
    have hw1 : IntKind.i64.wrap ((i : Int) + 1) = ((i + 1 : Nat) : Int) := wrap64 (by omega) (by omega)
    refine Run.go ?_; (conv => whnf); repeat' (first | ((with_reducible refine Know.mk fun _ => ?_); conv => whnf) | ((with_reducible refine Need.mk ?_ ?_); (first | omega | (dsimp only; omega) | decide | exact bytes_le (by rfl) (by omega) | exact ⟨rfl, by omega, bytes_le (by rfl) (by omega), by omega⟩ | (refine ⟨?_, ?_⟩ <;> (rw [wrap64 (by omega) (by omega)]; omega))); conv => whnf) | ((with_reducible refine Both.mk ?_ ?_) <;> conv => whnf) | ((with_reducible refine Any.mk fun b hb => ?_); conv => whnf) | ((with_reducible refine AskB.dec (fun hb => ?_) (fun hb => ?_)) <;> conv => whnf) | ((with_reducible refine AskB.ndec (fun hb => ?_) (fun hb => ?_)) <;> conv => whnf) | ((with_reducible refine AskB.mk (fun hb => ?_) (fun hb => ?_)) <;> conv => whnf) | ((with_reducible refine Run.drawX rfl (by decide +kernel) ?_); conv => whnf) | ((with_reducible refine Run.drawT rfl (by decide +kernel) ?_); conv => whnf) | ((with_reducible refine Run.drawW rfl (by decide +kernel) ?_); conv => whnf) | fail)
    · have hil : i < m.length := by omega
      have hri := hrow i hil
      have hTi := hT i hi
      refine Run.loop [5, 16, 17, 18, 22, 23] (fun (a : Nat × AV) => [(24, .int .i64 (a.1 : Int))]) (fun a => [(5, .box 95 [a.2, .row 90]), (90, .row 5 1 (bs (prL (m.take i) ++ ((m.getD i tRow.z).take a.1).map signC)).size (bytesG (bs (prL (m.take i) ++ ((m.getD i tRow.z).take a.1).map signC))))]) (fun a => a.1 ≤ (m.getD i tRow.z).length ∧ (a.2 = .nilp ∨ a.2 = .box 5 0)) (fun a => (m.getD i tRow.z).length - a.1) (0, p) ⟨Nat.zero_le _, hp⟩ ⟨Le.refl _, trivial⟩ ⟨MOle.refl _, ?_, trivial⟩ ?_
      · have : prL (m.take i) = prL (m.take i) ++ ((m.getD i tRow.z).take 0).map signC := by simp
        conv => arg 1; rw [this]
        exact MOle.refl _
      intro ⟨j, p2⟩ ⟨hj, hp2⟩ IHj
      simp only [] at hj hp2 ⊢
      have hwj : IntKind.i64.wrap ((j : Int) + 1) = ((j + 1 : Nat) : Int) := wrap64 (by omega) (by omega)
      have hTj : (bs (prL (m.take i) ++ ((m.getD i tRow.z).take j).map signC)).size ≤ 100000 := by
        rw [bs_size, List.length_append, List.length_map, List.length_take]; omega
      have hx : j < (m.getD i tRow.z).length → -1 ≤ (m.getD i tRow.z).getD j tI.z ∧ (m.getD i tRow.z).getD j tI.z < 12 := (hok.2.2 i hil).2.2 j
      have hwx : j < (m.getD i tRow.z).length → IntKind.i64.wrap ((m.getD i tRow.z).getD j tI.z + 1) = (m.getD i tRow.z).getD j tI.z + 1 := fun h => wrap64 (by have := hx h; omega) (by have := hx h; omega)
      have hwx' : (j : Int) < ((m.getD (↑i : Int).toNat tRow.z).length : Int) → 0 ≤ IntKind.i64.wrap ((m.getD (↑i : Int).toNat tRow.z).getD (↑j : Int).toNat tI.z + 1) ∧ IntKind.i64.wrap ((m.getD (↑i : Int).toNat tRow.z).getD (↑j : Int).toNat tI.z + 1) < 13 := fun h => by
        simp only [Int.toNat_natCast] at h ⊢
        have h1 := hx (by omega)
        rw [hwx (by omega)]; omega
      have hsz : (ByteArray.mk #[63, 48, 49, 50, 51, 52, 53, 54, 55, 56, 57, 97, 98]).size = 13 := rfl
      refine Run.go ?_; (conv => whnf); repeat' (first | ((with_reducible refine Know.mk fun _ => ?_); conv => whnf) | ((with_reducible refine Need.mk ?_ ?_); (first | omega | (dsimp only; omega) | decide | exact bytes_le (by rfl) (by omega) | exact ⟨rfl, by omega, bytes_le (by rfl) (by omega), by omega⟩ | (refine ⟨?_, ?_⟩ <;> (rw [wrap64 (by omega) (by omega)]; omega))); conv => whnf) | ((with_reducible refine Both.mk ?_ ?_) <;> conv => whnf) | ((with_reducible refine Any.mk fun b hb => ?_); conv => whnf) | ((with_reducible refine AskB.dec (fun hb => ?_) (fun hb => ?_)) <;> conv => whnf) | ((with_reducible refine AskB.ndec (fun hb => ?_) (fun hb => ?_)) <;> conv => whnf) | ((with_reducible refine AskB.mk (fun hb => ?_) (fun hb => ?_)) <;> conv => whnf) | ((with_reducible refine Run.drawX rfl (by decide +kernel) ?_); conv => whnf) | ((with_reducible refine Run.drawT rfl (by decide +kernel) ?_); conv => whnf) | ((with_reducible refine Run.drawW rfl (by decide +kernel) ?_); conv => whnf) | fail)
      · have hjl : j < (m.getD i tRow.z).length := by simp only [Int.toNat_natCast] at *; omega
        refine Run.bldr 95 5 5 90 p2 (bs (prL (m.take i) ++ ((m.getD i tRow.z).take j).map signC)) (MOle.refl _) (MOle.refl _) ?_
        refine wb5 p2 _ (signC ((m.getD i tRow.z).getD j tI.z)) rfl rfl rfl rfl rfl ?_ (by omega) hp2 ?_
        · show AV.int .u8 (bt _ (IntKind.i64.wrap ((m.getD i tRow.z).getD j tI.z + 1)).toNat) = _
          rw [hwx hjl]; rfl
        refine Run.tidy [5, 16, 17, 18, 22, 23, 24] [5, 90] ?_; (conv => whnf)
        refine Run.go ?_; (conv => whnf); repeat' (first | ((with_reducible refine Know.mk fun _ => ?_); conv => whnf) | ((with_reducible refine Need.mk ?_ ?_); (first | omega | (dsimp only; omega) | decide | exact bytes_le (by rfl) (by omega) | exact ⟨rfl, by omega, bytes_le (by rfl) (by omega), by omega⟩ | (refine ⟨?_, ?_⟩ <;> (rw [wrap64 (by omega) (by omega)]; omega))); conv => whnf) | ((with_reducible refine Both.mk ?_ ?_) <;> conv => whnf) | ((with_reducible refine Any.mk fun b hb => ?_); conv => whnf) | ((with_reducible refine AskB.dec (fun hb => ?_) (fun hb => ?_)) <;> conv => whnf) | ((with_reducible refine AskB.ndec (fun hb => ?_) (fun hb => ?_)) <;> conv => whnf) | ((with_reducible refine AskB.mk (fun hb => ?_) (fun hb => ?_)) <;> conv => whnf) | ((with_reducible refine Run.drawX rfl (by decide +kernel) ?_); conv => whnf) | ((with_reducible refine Run.drawT rfl (by decide +kernel) ?_); conv => whnf) | ((with_reducible refine Run.drawW rfl (by decide +kernel) ?_); conv => whnf) | fail)
        refine Run.to _ _ ?_ ?_ (IHj (j + 1, .box 5 0) (by simp only []; omega) ⟨by simp only []; omega, .inr rfl⟩)
        · exact ⟨Le.refl _, Le.refl _, Le.refl _, Le.refl _, Le.refl _, Le.refl _, Le.int hwj, trivial⟩
        · refine ⟨MOle.refl _, ?_, trivial⟩
          have : bs (prL (m.take i) ++ ((m.getD i tRow.z).take j).map signC) ++ ⟨#[signC ((m.getD i tRow.z).getD j tI.z)]⟩ = bs (prL (m.take i) ++ ((m.getD i tRow.z).take (j + 1)).map signC) := by
            rw [bs_push, List.take_succ_eq_append_getElem hjl, List.map_append, List.append_assoc, show (m.getD i tRow.z).getD j tI.z = (m.getD i tRow.z)[j] by rw [List.getD, List.getElem?_eq_getElem hjl]; rfl]; rfl
          rw [← this]
          exact MOle.refl _
      · have hje : j = (m.getD i tRow.z).length := by simp only [Int.toNat_natCast] at *; omega
        refine Run.bldr 95 5 5 90 p2 (bs (prL (m.take i) ++ ((m.getD i tRow.z).take j).map signC)) (MOle.refl _) (MOle.refl _) ?_
        refine wb5 p2 _ 10 rfl rfl rfl rfl rfl rfl (by omega) hp2 ?_
        refine Run.tidy [5, 16, 17, 18] [5, 90] ?_; (conv => whnf)
        refine Run.go ?_; (conv => whnf); repeat' (first | ((with_reducible refine Know.mk fun _ => ?_); conv => whnf) | ((with_reducible refine Need.mk ?_ ?_); (first | omega | (dsimp only; omega) | decide | exact bytes_le (by rfl) (by omega) | exact ⟨rfl, by omega, bytes_le (by rfl) (by omega), by omega⟩ | (refine ⟨?_, ?_⟩ <;> (rw [wrap64 (by omega) (by omega)]; omega))); conv => whnf) | ((with_reducible refine Both.mk ?_ ?_) <;> conv => whnf) | ((with_reducible refine Any.mk fun b hb => ?_); conv => whnf) | ((with_reducible refine AskB.dec (fun hb => ?_) (fun hb => ?_)) <;> conv => whnf) | ((with_reducible refine AskB.ndec (fun hb => ?_) (fun hb => ?_)) <;> conv => whnf) | ((with_reducible refine AskB.mk (fun hb => ?_) (fun hb => ?_)) <;> conv => whnf) | ((with_reducible refine Run.drawX rfl (by decide +kernel) ?_); conv => whnf) | ((with_reducible refine Run.drawT rfl (by decide +kernel) ?_); conv => whnf) | ((with_reducible refine Run.drawW rfl (by decide +kernel) ?_); conv => whnf) | fail)
        refine Run.to _ _ ?_ ?_ (IH (i + 1, .box 5 0) (by simp only []; omega) ⟨by simp only []; omega, .inr rfl⟩)
        · exact ⟨Le.refl _, Le.refl _, Le.refl _, Le.int hw1, trivial⟩
        · refine ⟨MOle.refl _, ?_, trivial⟩
          have : bs (prL (m.take i) ++ ((m.getD i tRow.z).take j).map signC) ++ ⟨#[10]⟩ = bs (prL (m.take (i + 1))) := by
            rw [bs_push, hje, List.take_length, prL_take m i hil, List.append_assoc]
          rw [← this]
          exact MOle.refl _
    · have hie : i = m.length := by omega
      subst hie
      refine Run.bldr 95 5 5 90 p (bs (prL (m.take m.length))) (MOle.refl _) (MOle.refl _) ?_
      refine bs5 p _ rfl rfl rfl rfl rfl ?_
      refine Run.go ?_; (conv => whnf); repeat' (first | ((with_reducible refine Know.mk fun _ => ?_); conv => whnf) | ((with_reducible refine Need.mk ?_ ?_); (first | omega | (dsimp only; omega) | decide | exact bytes_le (by rfl) (by omega) | exact ⟨rfl, by omega, bytes_le (by rfl) (by omega), by omega⟩ | (refine ⟨?_, ?_⟩ <;> (rw [wrap64 (by omega) (by omega)]; omega))); conv => whnf) | ((with_reducible refine Both.mk ?_ ?_) <;> conv => whnf) | ((with_reducible refine Any.mk fun b hb => ?_); conv => whnf) | ((with_reducible refine AskB.dec (fun hb => ?_) (fun hb => ?_)) <;> conv => whnf) | ((with_reducible refine AskB.ndec (fun hb => ?_) (fun hb => ?_)) <;> conv => whnf) | ((with_reducible refine AskB.mk (fun hb => ?_) (fun hb => ?_)) <;> conv => whnf) | ((with_reducible refine Run.drawX rfl (by decide +kernel) ?_); conv => whnf) | ((with_reducible refine Run.drawT rfl (by decide +kernel) ?_); conv => whnf) | ((with_reducible refine Run.drawW rfl (by decide +kernel) ?_); conv => whnf) | fail)
      refine Run.leave (ts := [2,3]) (.inr ⟨_, rfl⟩) rfl Tryd.func31 rfl (resT ⟨Le.str ?_, Le.int (codeM_yes hok).symm, trivial⟩)
      rw [List.take_length]; unfold printS; rw [if_pos hok]
  · have hno : ¬ OkM m := fun h => hb (codeM_yes h)
    refine Run.leave (ts := [2,3]) (.inr ⟨_, rfl⟩) rfl Tryd.func31 rfl (resT ⟨Le.str ?_, Le.refl _, trivial⟩)
    unfold printS; rw [if_neg hno]; rfl
theorem print33_fn (m : List (List Int)) : Fn Tryd.prog 33 [mxA m] (printL m) := by
  refine Fn.of Tryd.f33 _ Tryd.func33 rfl (by decide) (by show 1 ≤ _; decide) tbOk 45 rfl fun S w0 gl => ?_
  unfold mxA
  refine Run.go ?_; (conv => whnf); repeat' (first | ((with_reducible refine Know.mk fun _ => ?_); conv => whnf) | ((with_reducible refine Need.mk ?_ ?_); (first | omega | (dsimp only; omega) | decide | exact bytes_le (by rfl) (by omega) | exact ⟨rfl, by omega, bytes_le (by rfl) (by omega), by omega⟩ | (refine ⟨?_, ?_⟩ <;> (rw [wrap64 (by omega) (by omega)]; omega))); conv => whnf) | ((with_reducible refine Both.mk ?_ ?_) <;> conv => whnf) | ((with_reducible refine Any.mk fun b hb => ?_); conv => whnf) | ((with_reducible refine AskB.dec (fun hb => ?_) (fun hb => ?_)) <;> conv => whnf) | ((with_reducible refine AskB.ndec (fun hb => ?_) (fun hb => ?_)) <;> conv => whnf) | ((with_reducible refine AskB.mk (fun hb => ?_) (fun hb => ?_)) <;> conv => whnf) | ((with_reducible refine Run.drawX rfl (by decide +kernel) ?_); conv => whnf) | ((with_reducible refine Run.drawT rfl (by decide +kernel) ?_); conv => whnf) | ((with_reducible refine Run.drawW rfl (by decide +kernel) ?_); conv => whnf) | fail)
  refine Run.callAX (check36_fn m) rfl rfl ⟨?_, trivial⟩ rfl rfl rfl ?_
  · refine Le.agg (n := 1) (fun j hj => ?_)
    have hj0 : j = 0 := by omega
    subst hj0; exact Le.refl _
  (conv => whnf); repeat' (first | ((with_reducible refine Know.mk fun _ => ?_); conv => whnf) | ((with_reducible refine Need.mk ?_ ?_); (first | omega | (dsimp only; omega) | decide | exact bytes_le (by rfl) (by omega) | exact ⟨rfl, by omega, bytes_le (by rfl) (by omega), by omega⟩ | (refine ⟨?_, ?_⟩ <;> (rw [wrap64 (by omega) (by omega)]; omega))); conv => whnf) | ((with_reducible refine Both.mk ?_ ?_) <;> conv => whnf) | ((with_reducible refine Any.mk fun b hb => ?_); conv => whnf) | ((with_reducible refine AskB.dec (fun hb => ?_) (fun hb => ?_)) <;> conv => whnf) | ((with_reducible refine AskB.ndec (fun hb => ?_) (fun hb => ?_)) <;> conv => whnf) | ((with_reducible refine AskB.mk (fun hb => ?_) (fun hb => ?_)) <;> conv => whnf) | ((with_reducible refine Run.drawX rfl (by decide +kernel) ?_); conv => whnf) | ((with_reducible refine Run.drawT rfl (by decide +kernel) ?_); conv => whnf) | ((with_reducible refine Run.drawW rfl (by decide +kernel) ?_); conv => whnf) | fail)
  · have hok := codeM_zero hb
    have hm12 := hok.2.1
    have hrow : ∀ i, i < m.length → (m.getD i tRow.z).length ≤ 4096 := fun i hi => (hok.2.2 i hi).2.1
    have hT : ∀ i, i ≤ m.length → (prL (m.take i)).length ≤ 60000 := fun i hi => by
      have h1 := prL_len (m.take i) (fun r hr => row_le hok r (List.mem_of_mem_take hr))
      have h2 : (m.take i).length ≤ 12 := by rw [List.length_take]; omega
      have h3 := Nat.mul_le_mul_right 4097 h2
      omega
    refine Run.holdNil 4 90 5 1 (bytesG .empty) rfl ?_
    refine Run.loop [1, 4] (fun (i : Nat) => [(5, .int .i64 (i : Int))]) (fun i => [(1, .box 59 [tRow.L m]), (90, .row 5 1 (bs (prL (m.take i))).size (bytesG (bs (prL (m.take i)))))]) (fun i => i ≤ m.length) (fun i => m.length - i) 0 (Nat.zero_le _) ⟨Le.refl _, trivial⟩ ⟨MOle.refl _, MOle.refl _, trivial⟩ ?_
    intro i hi IH
    have hw1 : IntKind.i64.wrap ((i : Int) + 1) = ((i + 1 : Nat) : Int) := wrap64 (by omega) (by omega)
    refine Run.go ?_; (conv => whnf); repeat' (first | ((with_reducible refine Know.mk fun _ => ?_); conv => whnf) | ((with_reducible refine Need.mk ?_ ?_); (first | omega | (dsimp only; omega) | decide | exact bytes_le (by rfl) (by omega) | exact ⟨rfl, by omega, bytes_le (by rfl) (by omega), by omega⟩ | (refine ⟨?_, ?_⟩ <;> (rw [wrap64 (by omega) (by omega)]; omega))); conv => whnf) | ((with_reducible refine Both.mk ?_ ?_) <;> conv => whnf) | ((with_reducible refine Any.mk fun b hb => ?_); conv => whnf) | ((with_reducible refine AskB.dec (fun hb => ?_) (fun hb => ?_)) <;> conv => whnf) | ((with_reducible refine AskB.ndec (fun hb => ?_) (fun hb => ?_)) <;> conv => whnf) | ((with_reducible refine AskB.mk (fun hb => ?_) (fun hb => ?_)) <;> conv => whnf) | ((with_reducible refine Run.drawX rfl (by decide +kernel) ?_); conv => whnf) | ((with_reducible refine Run.drawT rfl (by decide +kernel) ?_); conv => whnf) | ((with_reducible refine Run.drawW rfl (by decide +kernel) ?_); conv => whnf) | fail)
    · have hil : i < m.length := by omega
      have hri := hrow i hil
      have hTi := hT i hi
      refine Run.loop [1, 4, 5] (fun (j : Nat) => [(6, .int .i64 (j : Int))]) (fun j => [(1, .box 59 [tRow.L m]), (90, .row 5 1 (bs (prL (m.take i) ++ ((m.getD i tRow.z).take j).map signC)).size (bytesG (bs (prL (m.take i) ++ ((m.getD i tRow.z).take j).map signC))))]) (fun j => j ≤ (m.getD i tRow.z).length) (fun j => (m.getD i tRow.z).length - j) 0 (Nat.zero_le _) ⟨Le.refl _, trivial⟩ ⟨MOle.refl _, ?_, trivial⟩ ?_
      · have : prL (m.take i) = prL (m.take i) ++ ((m.getD i tRow.z).take 0).map signC := by simp
        conv => arg 1; rw [this]
        exact MOle.refl _
      intro j hj IHj
      have hwj : IntKind.i64.wrap ((j : Int) + 1) = ((j + 1 : Nat) : Int) := wrap64 (by omega) (by omega)
      have hTj : (bs (prL (m.take i) ++ ((m.getD i tRow.z).take j).map signC)).size ≤ 100000 := by
        rw [bs_size, List.length_append, List.length_map, List.length_take]; omega
      have hx : j < (m.getD i tRow.z).length → -1 ≤ (m.getD i tRow.z).getD j tI.z ∧ (m.getD i tRow.z).getD j tI.z < 12 := (hok.2.2 i hil).2.2 j
      have hwx : j < (m.getD i tRow.z).length → IntKind.i64.wrap ((m.getD i tRow.z).getD j tI.z + 1) = (m.getD i tRow.z).getD j tI.z + 1 := fun h => wrap64 (by have := hx h; omega) (by have := hx h; omega)
      have hwx' : (j : Int) < ((m.getD (↑i : Int).toNat tRow.z).length : Int) → 0 ≤ IntKind.i64.wrap ((m.getD (↑i : Int).toNat tRow.z).getD (↑j : Int).toNat tI.z + 1) ∧ IntKind.i64.wrap ((m.getD (↑i : Int).toNat tRow.z).getD (↑j : Int).toNat tI.z + 1) < 13 := fun h => by
        simp only [Int.toNat_natCast] at h ⊢
        have h1 := hx (by omega)
        rw [hwx (by omega)]; omega
      have hsz : (ByteArray.mk #[63, 48, 49, 50, 51, 52, 53, 54, 55, 56, 57, 97, 98]).size = 13 := rfl
      refine Run.go ?_; (conv => whnf); repeat' (first | ((with_reducible refine Know.mk fun _ => ?_); conv => whnf) | ((with_reducible refine Need.mk ?_ ?_); (first | omega | (dsimp only; omega) | decide | exact bytes_le (by rfl) (by omega) | exact ⟨rfl, by omega, bytes_le (by rfl) (by omega), by omega⟩ | (refine ⟨?_, ?_⟩ <;> (rw [wrap64 (by omega) (by omega)]; omega))); conv => whnf) | ((with_reducible refine Both.mk ?_ ?_) <;> conv => whnf) | ((with_reducible refine Any.mk fun b hb => ?_); conv => whnf) | ((with_reducible refine AskB.dec (fun hb => ?_) (fun hb => ?_)) <;> conv => whnf) | ((with_reducible refine AskB.ndec (fun hb => ?_) (fun hb => ?_)) <;> conv => whnf) | ((with_reducible refine AskB.mk (fun hb => ?_) (fun hb => ?_)) <;> conv => whnf) | ((with_reducible refine Run.drawX rfl (by decide +kernel) ?_); conv => whnf) | ((with_reducible refine Run.drawT rfl (by decide +kernel) ?_); conv => whnf) | ((with_reducible refine Run.drawW rfl (by decide +kernel) ?_); conv => whnf) | fail)
      · have hjl : j < (m.getD i tRow.z).length := by simp only [Int.toNat_natCast] at *; omega
        refine Run.hold 4 90 rfl rfl rfl ?_
        refine Run.to _ _ ?_ ?_ (IHj (j + 1) (by omega) (by omega))
        · exact ⟨Le.refl _, Le.refl _, Le.refl _, Le.int hwj, trivial⟩
        · refine ⟨MOle.refl _, ?_, trivial⟩
          have : bs (prL (m.take i) ++ ((m.getD i tRow.z).take j).map signC) ++ ⟨#[signC ((m.getD i tRow.z).getD j tI.z)]⟩ = bs (prL (m.take i) ++ ((m.getD i tRow.z).take (j + 1)).map signC) := by
            rw [bs_push, List.take_succ_eq_append_getElem hjl, List.map_append, List.append_assoc, show (m.getD i tRow.z).getD j tI.z = (m.getD i tRow.z)[j] by rw [List.getD, List.getElem?_eq_getElem hjl]; rfl]; rfl
          rw [← this]
          refine bytesG_push 5 _ _ _ ?_
          show AV.int .u8 (bt _ (IntKind.i64.wrap ((m.getD i tRow.z).getD j tI.z + 1)).toNat) = _
          rw [hwx hjl]; rfl
      · have hje : j = (m.getD i tRow.z).length := by simp only [Int.toNat_natCast] at *; omega
        refine Run.hold 4 90 rfl rfl rfl ?_
        refine Run.to _ _ ?_ ?_ (IH (i + 1) (by omega) (by omega))
        · exact ⟨Le.refl _, Le.refl _, Le.int hw1, trivial⟩
        · refine ⟨MOle.refl _, ?_, trivial⟩
          have : bs (prL (m.take i) ++ ((m.getD i tRow.z).take j).map signC) ++ ⟨#[10]⟩ = bs (prL (m.take (i + 1))) := by
            rw [bs_push, hje, List.take_length, prL_take m i hil, List.append_assoc]
          rw [← this]
          exact bytesG_push 5 _ 10 _ rfl
    · have hie : i = m.length := by omega
      subst hie
      refine Run.rowStr (x := .tmp 43) (src := 93) (dst := 9) (e := 5) (q := 90) (bs (prL (m.take m.length))) rfl rfl rfl rfl rfl rfl rfl (fun _ _ => rfl) (by kernel_rfl) (by kernel_rfl) (by kernel_rfl) ?_
      refine Run.go ?_; (conv => whnf); repeat' (first | ((with_reducible refine Know.mk fun _ => ?_); conv => whnf) | ((with_reducible refine Need.mk ?_ ?_); (first | omega | (dsimp only; omega) | decide | exact bytes_le (by rfl) (by omega) | exact ⟨rfl, by omega, bytes_le (by rfl) (by omega), by omega⟩ | (refine ⟨?_, ?_⟩ <;> (rw [wrap64 (by omega) (by omega)]; omega))); conv => whnf) | ((with_reducible refine Both.mk ?_ ?_) <;> conv => whnf) | ((with_reducible refine Any.mk fun b hb => ?_); conv => whnf) | ((with_reducible refine AskB.dec (fun hb => ?_) (fun hb => ?_)) <;> conv => whnf) | ((with_reducible refine AskB.ndec (fun hb => ?_) (fun hb => ?_)) <;> conv => whnf) | ((with_reducible refine AskB.mk (fun hb => ?_) (fun hb => ?_)) <;> conv => whnf) | ((with_reducible refine Run.drawX rfl (by decide +kernel) ?_); conv => whnf) | ((with_reducible refine Run.drawT rfl (by decide +kernel) ?_); conv => whnf) | ((with_reducible refine Run.drawW rfl (by decide +kernel) ?_); conv => whnf) | fail)
      refine Run.leave (ts := [2,3]) (.inr ⟨_, rfl⟩) rfl Tryd.func33 rfl (resT ⟨Le.str ?_, Le.int (codeM_yes hok).symm, trivial⟩)
      rw [List.take_length]; unfold printS; rw [if_pos hok]
  · have hno : ¬ OkM m := fun h => hb (codeM_yes h)
    refine Run.leave (ts := [2,3]) (.inr ⟨_, rfl⟩) rfl Tryd.func33 rfl (resT ⟨Le.str ?_, Le.int (codeM_no hno).symm, trivial⟩)
    unfold printS; rw [if_neg hno]; rfl
end Go.Proofs.YtnadacaoehpdnaaDoor.V
