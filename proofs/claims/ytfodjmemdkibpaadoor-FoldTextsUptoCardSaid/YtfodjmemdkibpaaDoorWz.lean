/-
fold.Text, fold.Rune, fold.Same walked.
-/
import Derived.Test.YtfodjmemdkibpaaDoorWb
import Derived.Test.YtfodjmemdkibpaaDoorWy
namespace Go.Proofs.YtfodjmemdkibpaaDoor.V
open Go Go.Proofs Go.RowKit
set_option linter.unusedVariables false
set_option linter.unusedSimpArgs false
set_option maxRecDepth 100000
set_option maxHeartbeats 4000000
open Go Go.Proofs Go.Proofs.YtfodjmemdkibpaaDoor.V
theorem wb6 {N : Nat} {w0 : World} {S : Nat → Prop} {gl : GlobOk S w0} {f : FuncId} {R : Ending → World → Prop} {ops : Array Oper} {i : Nat} {rest : List Nat} {k : List Item} {env : Env} {h : Heap} {o : Oper} {x y : Operand}
    (p : AV) (t : ByteArray) (u : UInt8) (ho : ops.toList[i]? = some o) (hc : calls? o = some (40, [x, y])) (hd : okD N o.dst = true) (hr : ready env ops o = true) (hx : ev (scrubE 900 env) x = .box 6 0) (hy : ev (scrubE 900 env) y = .int .u8 (u.toNat : Int))
    (hs : t.size + 1 ≤ 34359738368) (hp : p = .nilp ∨ p = .box 6 0)
    (next : Run ⟨Tryd.prog, TB, tbOk, N, w0, S, gl, f, R⟩ (.inRegion ops rest :: k) (putE (envB 90 env) o.dst .u) (bldr 66 5 6 90 (heapB 90 h) (.box 6 0) (t ++ ⟨#[u]⟩))) :
    Run ⟨Tryd.prog, TB, tbOk, N, w0, S, gl, f, R⟩ (.inRegion ops (i :: rest) :: k) env (bldr 66 5 6 90 h p t) := by
  refine Run.inline 900 Tryd.f40 _ 17 ho hc Tryd.func40 rfl (by decide) rfl (by show 2 ≤ 17; decide) hd hr (fun a hsz hdf => ?_)
  simp only [List.map, hx, hy]
  have fin : ∀ (E : Env) (H : Heap) (X : AV), (∀ i, E i = scrub 14 (scrub 13 (scrub 901 (scrub 900 (env i))))) → (∀ id, Nat.beq id 6 = false → Nat.beq id 90 = false → Nat.beq id 14 = false → Nat.beq id 13 = false → Nat.beq id 901 = false → Nat.beq id 900 = false → H id = scrubM 90 (scrubM 14 (scrubM 13 (scrubM 901 (scrubM 900 (h id)))))) →
      MOle (H 6) (.box 66 [.box 6 0, .row 90]) → MOle (H 90) (.row 5 1 (t ++ ⟨#[u]⟩).size (bytesG (t ++ ⟨#[u]⟩))) → Run ⟨Tryd.prog, TB, tbOk, N, w0, S, gl, f, R⟩ (.inRegion ops rest :: k) (scrubE 90 (putE E o.dst X)) H := by
    intro E H X hE hH h5 h90
    refine Run.weaken (fun i => ?_) (fun id => ?_) next
    · cases hdst : o.dst with
      | none => show Le (scrub 90 (E i)) _; rw [hE]; exact Le.refl _
      | some d =>
        show Le (scrub 90 (upd E d X i)) (upd (envB 90 env) d .u i)
        by_cases e : i = d
        · subst e; rw [upd_same, upd_same]; exact Le.u _
        · rw [upd_other _ _ e, upd_other _ _ e, hE]; exact Le.refl _
    · unfold bldr heapB
      cases e5 : Nat.beq id 6 with
      | true => have := Nat.eq_of_beq_eq_true e5; subst this; exact h5
      | false =>
      cases e90 : Nat.beq id 90 with
      | true => have := Nat.eq_of_beq_eq_true e90; subst this; exact h90
      | false =>
      cases e900 : Nat.beq id 900 with
      | true => simp only [upd, e5, e90, e900, cond_true, cond_false]; exact mole_dead _
      | false =>
      cases e901 : Nat.beq id 901 with
      | true => simp only [upd, e5, e90, e900, e901, cond_true, cond_false]; exact mole_dead _
      | false =>
      cases e13 : Nat.beq id 13 with
      | true => simp only [upd, e5, e90, e900, e901, e13, cond_true, cond_false]; exact mole_dead _
      | false =>
      cases e14 : Nat.beq id 14 with
      | true => simp only [upd, e5, e90, e900, e901, e13, e14, cond_true, cond_false]; exact mole_dead _
      | false =>
        rw [hH id e5 e90 e14 e13 e901 e900]
        simp only [upd, e5, e90, e900, e901, e13, e14, cond_true, cond_false]
        exact MOle.refl _
  rcases hp with rfl | rfl
  · refine Run.go ?_; (conv => whnf); repeat' (first | ((with_reducible refine Know.mk fun _ => ?_); conv => whnf) | ((with_reducible refine Need.mk ?_ ?_); (first | omega | (dsimp only; omega) | decide | exact bytes_le (by rfl) (by omega) | exact ⟨rfl, by omega, bytes_le (by rfl) (by omega), by omega⟩ | (refine ⟨?_, ?_⟩ <;> (rw [wrap64 (by omega) (by omega)]; omega))); conv => whnf) | ((with_reducible refine Both.mk ?_ ?_) <;> conv => whnf) | ((with_reducible refine Any.mk fun b hb => ?_); conv => whnf) | ((with_reducible refine AskB.dec (fun hb => ?_) (fun hb => ?_)) <;> conv => whnf) | ((with_reducible refine AskB.ndec (fun hb => ?_) (fun hb => ?_)) <;> conv => whnf) | ((with_reducible refine AskB.mk (fun hb => ?_) (fun hb => ?_)) <;> conv => whnf) | ((with_reducible refine Run.drawX rfl (by decide +kernel) ?_); conv => whnf) | ((with_reducible refine Run.drawT rfl (by decide +kernel) ?_); conv => whnf) | ((with_reducible refine Run.drawW rfl (by decide +kernel) ?_); conv => whnf) | fail)
    refine Run.inline 901 Tryd.f50 _ 20 rfl rfl Tryd.func50 rfl (by decide) rfl (by decide) rfl rfl (fun a2 hsz2 hdf2 => ?_)
    refine Run.go ?_; (conv => whnf); repeat' (first | ((with_reducible refine Know.mk fun _ => ?_); conv => whnf) | ((with_reducible refine Need.mk ?_ ?_); (first | omega | (dsimp only; omega) | decide | exact bytes_le (by rfl) (by omega) | exact ⟨rfl, by omega, bytes_le (by rfl) (by omega), by omega⟩ | (refine ⟨?_, ?_⟩ <;> (rw [wrap64 (by omega) (by omega)]; omega))); conv => whnf) | ((with_reducible refine Both.mk ?_ ?_) <;> conv => whnf) | ((with_reducible refine Any.mk fun b hb => ?_); conv => whnf) | ((with_reducible refine AskB.dec (fun hb => ?_) (fun hb => ?_)) <;> conv => whnf) | ((with_reducible refine AskB.ndec (fun hb => ?_) (fun hb => ?_)) <;> conv => whnf) | ((with_reducible refine AskB.mk (fun hb => ?_) (fun hb => ?_)) <;> conv => whnf) | ((with_reducible refine Run.drawX rfl (by decide +kernel) ?_); conv => whnf) | ((with_reducible refine Run.drawT rfl (by decide +kernel) ?_); conv => whnf) | ((with_reducible refine Run.drawW rfl (by decide +kernel) ?_); conv => whnf) | fail)
    refine Run.toUnsafe (id := 6) (l := [.nilp, .row 90]) (e := 66) (t := 66) (src := 63) (dst := 101) (x := .tmp 8) rfl rfl rfl rfl rfl rfl (by decide) (by kernel_rfl) (by kernel_rfl) (j := (Tryd.prog.info? 66).get (by kernel_rfl)) (by kernel_rfl) (by decide +kernel) ?_
    refine Run.noEscape (f := 68) (x := .tmp 9) rfl rfl rfl rfl Tryd.func68 (by kernel_rfl) (by kernel_rfl) (by kernel_rfl) (by kernel_rfl) ?_
    refine Run.fromUnsafe (id := 6) (l := [.nilp, .row 90]) (e := 66) (u := 66) (src := 101) (dst := 63) (x := .tmp 10) rfl rfl rfl rfl rfl rfl (by kernel_rfl) (by kernel_rfl) (j := (Tryd.prog.info? 66).get (by kernel_rfl)) (by kernel_rfl) (by kernel_rfl) ?_
    refine Run.go ?_; (conv => whnf); repeat' (first | ((with_reducible refine Know.mk fun _ => ?_); conv => whnf) | ((with_reducible refine Need.mk ?_ ?_); (first | omega | (dsimp only; omega) | decide | exact bytes_le (by rfl) (by omega) | exact ⟨rfl, by omega, bytes_le (by rfl) (by omega), by omega⟩ | (refine ⟨?_, ?_⟩ <;> (rw [wrap64 (by omega) (by omega)]; omega))); conv => whnf) | ((with_reducible refine Both.mk ?_ ?_) <;> conv => whnf) | ((with_reducible refine Any.mk fun b hb => ?_); conv => whnf) | ((with_reducible refine AskB.dec (fun hb => ?_) (fun hb => ?_)) <;> conv => whnf) | ((with_reducible refine AskB.ndec (fun hb => ?_) (fun hb => ?_)) <;> conv => whnf) | ((with_reducible refine AskB.mk (fun hb => ?_) (fun hb => ?_)) <;> conv => whnf) | ((with_reducible refine Run.drawX rfl (by decide +kernel) ?_); conv => whnf) | ((with_reducible refine Run.drawT rfl (by decide +kernel) ?_); conv => whnf) | ((with_reducible refine Run.drawW rfl (by decide +kernel) ?_); conv => whnf) | fail)
    refine Run.back 901 (ts := []) hsz2 hdf2 (.inl rfl) (by rfl) Tryd.func50 rfl ?_
    refine Run.go ?_; (conv => whnf); repeat' (first | ((with_reducible refine Know.mk fun _ => ?_); conv => whnf) | ((with_reducible refine Need.mk ?_ ?_); (first | omega | (dsimp only; omega) | decide | exact bytes_le (by rfl) (by omega) | exact ⟨rfl, by omega, bytes_le (by rfl) (by omega), by omega⟩ | (refine ⟨?_, ?_⟩ <;> (rw [wrap64 (by omega) (by omega)]; omega))); conv => whnf) | ((with_reducible refine Both.mk ?_ ?_) <;> conv => whnf) | ((with_reducible refine Any.mk fun b hb => ?_); conv => whnf) | ((with_reducible refine AskB.dec (fun hb => ?_) (fun hb => ?_)) <;> conv => whnf) | ((with_reducible refine AskB.ndec (fun hb => ?_) (fun hb => ?_)) <;> conv => whnf) | ((with_reducible refine AskB.mk (fun hb => ?_) (fun hb => ?_)) <;> conv => whnf) | ((with_reducible refine Run.drawX rfl (by decide +kernel) ?_); conv => whnf) | ((with_reducible refine Run.drawT rfl (by decide +kernel) ?_); conv => whnf) | ((with_reducible refine Run.drawW rfl (by decide +kernel) ?_); conv => whnf) | fail)
    refine Run.back 900 (ts := [4]) hsz hdf (.inr ⟨_, rfl⟩) (by rfl) Tryd.func40 rfl ?_
    refine Run.holdBoxRow 6 1 90 14 (by rfl) (by rfl) (by rfl) rfl rfl rfl ?_
    refine fin _ _ _ (fun i => rfl) (fun id e5 e90 e14 e13 e901 e900 => ?_) (MOle.refl _) (bytesG_push 5 t u _ rfl)
    simp only [upd, scrubH, scrubM, bldr, e5, e90, e14, e13, e901, e900, cond_false]
  · refine Run.go ?_; (conv => whnf); repeat' (first | ((with_reducible refine Know.mk fun _ => ?_); conv => whnf) | ((with_reducible refine Need.mk ?_ ?_); (first | omega | (dsimp only; omega) | decide | exact bytes_le (by rfl) (by omega) | exact ⟨rfl, by omega, bytes_le (by rfl) (by omega), by omega⟩ | (refine ⟨?_, ?_⟩ <;> (rw [wrap64 (by omega) (by omega)]; omega))); conv => whnf) | ((with_reducible refine Both.mk ?_ ?_) <;> conv => whnf) | ((with_reducible refine Any.mk fun b hb => ?_); conv => whnf) | ((with_reducible refine AskB.dec (fun hb => ?_) (fun hb => ?_)) <;> conv => whnf) | ((with_reducible refine AskB.ndec (fun hb => ?_) (fun hb => ?_)) <;> conv => whnf) | ((with_reducible refine AskB.mk (fun hb => ?_) (fun hb => ?_)) <;> conv => whnf) | ((with_reducible refine Run.drawX rfl (by decide +kernel) ?_); conv => whnf) | ((with_reducible refine Run.drawT rfl (by decide +kernel) ?_); conv => whnf) | ((with_reducible refine Run.drawW rfl (by decide +kernel) ?_); conv => whnf) | fail)
    refine Run.inline 901 Tryd.f50 _ 20 rfl rfl Tryd.func50 rfl (by decide) rfl (by decide) rfl rfl (fun a2 hsz2 hdf2 => ?_)
    refine Run.go ?_; (conv => whnf); repeat' (first | ((with_reducible refine Know.mk fun _ => ?_); conv => whnf) | ((with_reducible refine Need.mk ?_ ?_); (first | omega | (dsimp only; omega) | decide | exact bytes_le (by rfl) (by omega) | exact ⟨rfl, by omega, bytes_le (by rfl) (by omega), by omega⟩ | (refine ⟨?_, ?_⟩ <;> (rw [wrap64 (by omega) (by omega)]; omega))); conv => whnf) | ((with_reducible refine Both.mk ?_ ?_) <;> conv => whnf) | ((with_reducible refine Any.mk fun b hb => ?_); conv => whnf) | ((with_reducible refine AskB.dec (fun hb => ?_) (fun hb => ?_)) <;> conv => whnf) | ((with_reducible refine AskB.ndec (fun hb => ?_) (fun hb => ?_)) <;> conv => whnf) | ((with_reducible refine AskB.mk (fun hb => ?_) (fun hb => ?_)) <;> conv => whnf) | ((with_reducible refine Run.drawX rfl (by decide +kernel) ?_); conv => whnf) | ((with_reducible refine Run.drawT rfl (by decide +kernel) ?_); conv => whnf) | ((with_reducible refine Run.drawW rfl (by decide +kernel) ?_); conv => whnf) | fail)
    refine Run.back 901 (ts := []) hsz2 hdf2 (.inl rfl) (by rfl) Tryd.func50 rfl ?_
    refine Run.go ?_; (conv => whnf); repeat' (first | ((with_reducible refine Know.mk fun _ => ?_); conv => whnf) | ((with_reducible refine Need.mk ?_ ?_); (first | omega | (dsimp only; omega) | decide | exact bytes_le (by rfl) (by omega) | exact ⟨rfl, by omega, bytes_le (by rfl) (by omega), by omega⟩ | (refine ⟨?_, ?_⟩ <;> (rw [wrap64 (by omega) (by omega)]; omega))); conv => whnf) | ((with_reducible refine Both.mk ?_ ?_) <;> conv => whnf) | ((with_reducible refine Any.mk fun b hb => ?_); conv => whnf) | ((with_reducible refine AskB.dec (fun hb => ?_) (fun hb => ?_)) <;> conv => whnf) | ((with_reducible refine AskB.ndec (fun hb => ?_) (fun hb => ?_)) <;> conv => whnf) | ((with_reducible refine AskB.mk (fun hb => ?_) (fun hb => ?_)) <;> conv => whnf) | ((with_reducible refine Run.drawX rfl (by decide +kernel) ?_); conv => whnf) | ((with_reducible refine Run.drawT rfl (by decide +kernel) ?_); conv => whnf) | ((with_reducible refine Run.drawW rfl (by decide +kernel) ?_); conv => whnf) | fail)
    refine Run.back 900 (ts := [4]) hsz hdf (.inr ⟨_, rfl⟩) (by rfl) Tryd.func40 rfl ?_
    refine Run.holdBoxRow 6 1 90 14 (by rfl) (by rfl) (by rfl) rfl rfl rfl ?_
    refine fin _ _ _ (fun i => rfl) (fun id e5 e90 e14 e13 e901 e900 => ?_) (MOle.refl _) (bytesG_push 5 t u _ rfl)
    simp only [upd, scrubH, scrubM, bldr, e5, e90, e14, e13, e901, e900, cond_false]

theorem bs6 {N : Nat} {w0 : World} {S : Nat → Prop} {gl : GlobOk S w0} {f : FuncId} {R : Ending → World → Prop} {ops : Array Oper} {i : Nat} {rest : List Nat} {k : List Item} {env : Env} {h : Heap} {o : Oper} {x : Operand}
    (p : AV) (t : ByteArray) (ho : ops.toList[i]? = some o) (hc : calls? o = some (34, [x])) (hd : okD N o.dst = true) (hr : ready env ops o = true) (hx : ev (scrubE 900 env) x = .box 6 0)
    (next : Run ⟨Tryd.prog, TB, tbOk, N, w0, S, gl, f, R⟩ (.inRegion ops rest :: k) (putE (scrubE 900 env) o.dst (.str t)) (upd (upd (upd (scrubH 900 h) 900 .dead) 6 .dead) 90 .dead)) :
    Run ⟨Tryd.prog, TB, tbOk, N, w0, S, gl, f, R⟩ (.inRegion ops (i :: rest) :: k) env (bldr 66 5 6 90 h p t) := by
  refine Run.inline 900 Tryd.f34 _ 14 ho hc Tryd.func34 rfl (by decide) rfl (by show 1 ≤ 14; decide) hd hr (fun a hsz hdf => ?_)
  simp only [List.map, hx]
  have fin : ∀ (H : Heap), (∀ id, Nat.beq id 6 = false → Nat.beq id 90 = false → Nat.beq id 900 = false → H id = scrubM 900 (h id)) →
      Run ⟨Tryd.prog, TB, tbOk, N, w0, S, gl, f, R⟩ (.inRegion ops rest :: k) (putE (scrubE 900 env) o.dst (.str t)) H := by
    intro H hH
    refine Run.weaken (fun i => Le.refl _) (fun id => ?_) next
    cases e5 : Nat.beq id 6 with
    | true => simp only [upd, e5, cond_true, cond_false]; cases Nat.beq id 90 <;> exact mole_dead _
    | false =>
    cases e90 : Nat.beq id 90 with
    | true => simp only [upd, e5, e90, cond_true, cond_false]; exact mole_dead _
    | false =>
    cases e900 : Nat.beq id 900 with
    | true => simp only [upd, e5, e90, e900, cond_true, cond_false]; exact mole_dead _
    | false =>
      rw [hH id e5 e90 e900]
      simp only [upd, e5, e90, e900, cond_true, cond_false]
      exact MOle.refl _
  refine Run.go ?_; (conv => whnf); repeat' (first | ((with_reducible refine Know.mk fun _ => ?_); conv => whnf) | ((with_reducible refine Need.mk ?_ ?_); (first | omega | (dsimp only; omega) | decide | exact bytes_le (by rfl) (by omega) | exact ⟨rfl, by omega, bytes_le (by rfl) (by omega), by omega⟩ | (refine ⟨?_, ?_⟩ <;> (rw [wrap64 (by omega) (by omega)]; omega))); conv => whnf) | ((with_reducible refine Both.mk ?_ ?_) <;> conv => whnf) | ((with_reducible refine Any.mk fun b hb => ?_); conv => whnf) | ((with_reducible refine AskB.dec (fun hb => ?_) (fun hb => ?_)) <;> conv => whnf) | ((with_reducible refine AskB.ndec (fun hb => ?_) (fun hb => ?_)) <;> conv => whnf) | ((with_reducible refine AskB.mk (fun hb => ?_) (fun hb => ?_)) <;> conv => whnf) | ((with_reducible refine Run.drawX rfl (by decide +kernel) ?_); conv => whnf) | ((with_reducible refine Run.drawT rfl (by decide +kernel) ?_); conv => whnf) | ((with_reducible refine Run.drawW rfl (by decide +kernel) ?_); conv => whnf) | fail)
  · refine Run.unsafeString0 (i := 10) (rest := [11]) (k := [.code .ret]) (x := .tmp 7) (y := .tmp 12) (c := ⟨.builtin .unsafeString, #[.tmp 7, .tmp 12], #[88, 3]⟩) rfl rfl rfl rfl rfl rfl rfl (.inl rfl) (by show AV.int .i64 (t.size : Int) = _; rw [hb]; rfl) ?_
    have ht : t = .empty := by simpa using hb
    refine Run.go ?_; (conv => whnf); repeat' (first | ((with_reducible refine Know.mk fun _ => ?_); conv => whnf) | ((with_reducible refine Need.mk ?_ ?_); (first | omega | (dsimp only; omega) | decide | exact bytes_le (by rfl) (by omega) | exact ⟨rfl, by omega, bytes_le (by rfl) (by omega), by omega⟩ | (refine ⟨?_, ?_⟩ <;> (rw [wrap64 (by omega) (by omega)]; omega))); conv => whnf) | ((with_reducible refine Both.mk ?_ ?_) <;> conv => whnf) | ((with_reducible refine Any.mk fun b hb => ?_); conv => whnf) | ((with_reducible refine AskB.dec (fun hb => ?_) (fun hb => ?_)) <;> conv => whnf) | ((with_reducible refine AskB.ndec (fun hb => ?_) (fun hb => ?_)) <;> conv => whnf) | ((with_reducible refine AskB.mk (fun hb => ?_) (fun hb => ?_)) <;> conv => whnf) | ((with_reducible refine Run.drawX rfl (by decide +kernel) ?_); conv => whnf) | ((with_reducible refine Run.drawT rfl (by decide +kernel) ?_); conv => whnf) | ((with_reducible refine Run.drawW rfl (by decide +kernel) ?_); conv => whnf) | fail)
    refine Run.back 900 (ts := [2]) hsz hdf (.inr ⟨_, rfl⟩) (by rfl) Tryd.func34 rfl ?_
    rw [ht] at fin next ⊢
    exact fin _ (fun id e5 e90 e900 => by simp only [upd, scrubH, bldr, e5, e90, e900, cond_false])
  · refine Run.unsafeString (i := 10) (rest := [11]) (k := [.code .ret]) (x := .tmp 7) (y := .tmp 12) (c := ⟨.builtin .unsafeString, #[.tmp 7, .tmp 12], #[88, 3]⟩) t rfl rfl rfl rfl rfl rfl rfl rfl rfl (e := 5) (n := t.size) (q := 90) (get := bytesG t) rfl rfl hb (fun _ _ => rfl) (by kernel_rfl) (by kernel_rfl) ?_
    refine Run.go ?_; (conv => whnf); repeat' (first | ((with_reducible refine Know.mk fun _ => ?_); conv => whnf) | ((with_reducible refine Need.mk ?_ ?_); (first | omega | (dsimp only; omega) | decide | exact bytes_le (by rfl) (by omega) | exact ⟨rfl, by omega, bytes_le (by rfl) (by omega), by omega⟩ | (refine ⟨?_, ?_⟩ <;> (rw [wrap64 (by omega) (by omega)]; omega))); conv => whnf) | ((with_reducible refine Both.mk ?_ ?_) <;> conv => whnf) | ((with_reducible refine Any.mk fun b hb => ?_); conv => whnf) | ((with_reducible refine AskB.dec (fun hb => ?_) (fun hb => ?_)) <;> conv => whnf) | ((with_reducible refine AskB.ndec (fun hb => ?_) (fun hb => ?_)) <;> conv => whnf) | ((with_reducible refine AskB.mk (fun hb => ?_) (fun hb => ?_)) <;> conv => whnf) | ((with_reducible refine Run.drawX rfl (by decide +kernel) ?_); conv => whnf) | ((with_reducible refine Run.drawT rfl (by decide +kernel) ?_); conv => whnf) | ((with_reducible refine Run.drawW rfl (by decide +kernel) ?_); conv => whnf) | fail)
    refine Run.back 900 (ts := [2]) hsz hdf (.inr ⟨_, rfl⟩) (by rfl) Tryd.func34 rfl ?_
    exact fin _ (fun id e5 e90 e900 => by simp only [upd, scrubH, bldr, e5, e90, e900, cond_false])

/-- What a cell becomes. -/
def cellF (o : Int) (c : Cel) : ByteArray := if c.bad = true then ⟨#[UInt8.ofNat c.byte.toNat]⟩ else foldR c.r o
def catC (o : Int) : List Cel → ByteArray
  | [] => .empty
  | c :: r => cellF o c ++ catC o r
theorem catC_app (o : Int) : ∀ a b : List Cel, catC o (a ++ b) = catC o a ++ catC o b
  | [], b => by simp [catC]
  | x :: a, b => by simp only [List.cons_append, catC]; rw [catC_app o a b, ByteArray.append_assoc]
theorem catC_take (o : Int) (l : List Cel) (j : Nat) (h : j < l.length) : catC o (l.take (j + 1)) = catC o (l.take j) ++ cellF o (l.getD j tCel.z) := by
  rw [List.take_succ_eq_append_getElem h, catC_app, List.getD, List.getElem?_eq_getElem h]; simp [catC]
theorem cellF_size (o : Int) (c : Cel) : (cellF o c).size ≤ 12 := by
  unfold cellF
  split
  · exact Nat.le_of_ble_eq_true rfl
  · exact foldR_size _ _
theorem catC_size (o : Int) : ∀ l : List Cel, (catC o l).size ≤ 12 * l.length
  | [] => by simp [catC]
  | x :: r => by
    have h1 := catC_size o r
    have h2 := cellF_size o x
    simp only [catC, ByteArray.size_append, List.length_cons]; omega
/-- What a text becomes. -/
def textF (s : ByteArray) (o : Int) : ByteArray := catC o (cells s 0)
def badO (o : Int) : Prop := o < 0 ∨ 31 < o
instance (o : Int) : Decidable (badO o) := by unfold badO; infer_instance
def textL (s : ByteArray) (o : Int) : AV := tupL [.str (if badO o then .empty else textF s o), .int .i64 (if badO o then 2 else 0)]
theorem cell_byte (s : ByteArray) (p : Nat) : ∀ c ∈ cells s p, ((UInt8.ofNat c.byte.toNat).toNat : Int) = c.byte := by
  intro c hc
  by_cases h : p < s.size
  · have hw := Lib.width_pos s p
    rw [cells_in h] at hc
    rcases List.mem_cons.mp hc with rfl | hc
    · unfold cellAt
      split
      · have := bt_lt s p
        simp only [UInt8.toNat_ofNat']
        omega
      · rfl
    · exact cell_byte s (p + (Utf8.decode s p).2) c hc
  · rw [cells_out h] at hc; cases hc
termination_by s.size - p
theorem text26_fn (s : ByteArray) (o : Int) (hs : s.size ≤ 134217728) : Fn Tryd.prog 26 [.str s, .int .i64 o] (textL s o) := by
  refine Fn.of Tryd.f26 _ Tryd.func26 rfl (by decide) (by show 2 ≤ _; decide) tbOk 33 rfl fun S w0 gl => ?_
  refine Run.go ?_; (conv => whnf); repeat' (first | ((with_reducible refine Know.mk fun _ => ?_); conv => whnf) | ((with_reducible refine Need.mk ?_ ?_); (first | omega | (dsimp only; omega) | decide | exact bytes_le (by rfl) (by omega) | exact ⟨rfl, by omega, bytes_le (by rfl) (by omega), by omega⟩ | (refine ⟨?_, ?_⟩ <;> (rw [wrap64 (by omega) (by omega)]; omega))); conv => whnf) | ((with_reducible refine Both.mk ?_ ?_) <;> conv => whnf) | ((with_reducible refine Any.mk fun b hb => ?_); conv => whnf) | ((with_reducible refine AskB.dec (fun hb => ?_) (fun hb => ?_)) <;> conv => whnf) | ((with_reducible refine AskB.ndec (fun hb => ?_) (fun hb => ?_)) <;> conv => whnf) | ((with_reducible refine AskB.mk (fun hb => ?_) (fun hb => ?_)) <;> conv => whnf) | ((with_reducible refine Run.drawX rfl (by decide +kernel) ?_); conv => whnf) | ((with_reducible refine Run.drawT rfl (by decide +kernel) ?_); conv => whnf) | ((with_reducible refine Run.drawW rfl (by decide +kernel) ?_); conv => whnf) | fail)
  refine Run.callBX (wrong37_fn o) rfl rfl ⟨Le.refl _, trivial⟩ rfl rfl rfl ?_
  (conv => whnf); repeat' (first | ((with_reducible refine Know.mk fun _ => ?_); conv => whnf) | ((with_reducible refine Need.mk ?_ ?_); (first | omega | (dsimp only; omega) | decide | exact bytes_le (by rfl) (by omega) | exact ⟨rfl, by omega, bytes_le (by rfl) (by omega), by omega⟩ | (refine ⟨?_, ?_⟩ <;> (rw [wrap64 (by omega) (by omega)]; omega))); conv => whnf) | ((with_reducible refine Both.mk ?_ ?_) <;> conv => whnf) | ((with_reducible refine Any.mk fun b hb => ?_); conv => whnf) | ((with_reducible refine AskB.dec (fun hb => ?_) (fun hb => ?_)) <;> conv => whnf) | ((with_reducible refine AskB.ndec (fun hb => ?_) (fun hb => ?_)) <;> conv => whnf) | ((with_reducible refine AskB.mk (fun hb => ?_) (fun hb => ?_)) <;> conv => whnf) | ((with_reducible refine Run.drawX rfl (by decide +kernel) ?_); conv => whnf) | ((with_reducible refine Run.drawT rfl (by decide +kernel) ?_); conv => whnf) | ((with_reducible refine Run.drawW rfl (by decide +kernel) ?_); conv => whnf) | fail)
  · have hbad : badO o := hb
    unfold textL
    rw [if_pos hbad, if_pos hbad]
    exact Run.leave (ts := [4,5]) (.inr ⟨_, rfl⟩) rfl Tryd.func26 rfl (resT ⟨Le.refl _, Le.refl _, trivial⟩)
  have hok : ¬ badO o := hb
  unfold textL
  rw [if_neg hok, if_neg hok]
  have ho : 0 ≤ o ∧ o ≤ 31 := by unfold badO at hok; omega
  refine Run.callBX (steps38_fn o ho.1 ho.2) rfl rfl ⟨Le.refl _, trivial⟩ rfl rfl rfl ?_
  (conv => whnf); repeat' (first | ((with_reducible refine Know.mk fun _ => ?_); conv => whnf) | ((with_reducible refine Need.mk ?_ ?_); (first | omega | (dsimp only; omega) | decide | exact bytes_le (by rfl) (by omega) | exact ⟨rfl, by omega, bytes_le (by rfl) (by omega), by omega⟩ | (refine ⟨?_, ?_⟩ <;> (rw [wrap64 (by omega) (by omega)]; omega))); conv => whnf) | ((with_reducible refine Both.mk ?_ ?_) <;> conv => whnf) | ((with_reducible refine Any.mk fun b hb => ?_); conv => whnf) | ((with_reducible refine AskB.dec (fun hb => ?_) (fun hb => ?_)) <;> conv => whnf) | ((with_reducible refine AskB.ndec (fun hb => ?_) (fun hb => ?_)) <;> conv => whnf) | ((with_reducible refine AskB.mk (fun hb => ?_) (fun hb => ?_)) <;> conv => whnf) | ((with_reducible refine Run.drawX rfl (by decide +kernel) ?_); conv => whnf) | ((with_reducible refine Run.drawT rfl (by decide +kernel) ?_); conv => whnf) | ((with_reducible refine Run.drawW rfl (by decide +kernel) ?_); conv => whnf) | fail)
  refine Run.callBX (cells_fn s hs) rfl rfl ⟨Le.refl _, trivial⟩ rfl rfl rfl ?_
  (conv => whnf); repeat' (first | ((with_reducible refine Know.mk fun _ => ?_); conv => whnf) | ((with_reducible refine Need.mk ?_ ?_); (first | omega | (dsimp only; omega) | decide | exact bytes_le (by rfl) (by omega) | exact ⟨rfl, by omega, bytes_le (by rfl) (by omega), by omega⟩ | (refine ⟨?_, ?_⟩ <;> (rw [wrap64 (by omega) (by omega)]; omega))); conv => whnf) | ((with_reducible refine Both.mk ?_ ?_) <;> conv => whnf) | ((with_reducible refine Any.mk fun b hb => ?_); conv => whnf) | ((with_reducible refine AskB.dec (fun hb => ?_) (fun hb => ?_)) <;> conv => whnf) | ((with_reducible refine AskB.ndec (fun hb => ?_) (fun hb => ?_)) <;> conv => whnf) | ((with_reducible refine AskB.mk (fun hb => ?_) (fun hb => ?_)) <;> conv => whnf) | ((with_reducible refine Run.drawX rfl (by decide +kernel) ?_); conv => whnf) | ((with_reducible refine Run.drawT rfl (by decide +kernel) ?_); conv => whnf) | ((with_reducible refine Run.drawW rfl (by decide +kernel) ?_); conv => whnf) | fail)
  refine Run.holdBoxNil 6 1 90 5 1 (bytesG .empty) rfl rfl rfl rfl ?_
  have hcl := cells_len s 0
  have hT : ∀ j, (catC o ((cells s 0).take j)).size ≤ 2000000000 := fun j => by
    have h1 := catC_size o ((cells s 0).take j)
    have h2 : ((cells s 0).take j).length ≤ (cells s 0).length := by rw [List.length_take]; omega
    omega
  have hby := cell_byte s 0
  unfold textF
  generalize cells s 0 = L at hcl hT hby ⊢
  refine Run.loop [1, 6, 7, 15, 16] (fun (a : Nat × AV) => [(17, .int .i64 (a.1 : Int))]) (fun b => [(6, .box 66 [b.2, .row 90]), (90, .row 5 1 (catC o (L.take b.1)).size (bytesG (catC o (L.take b.1))))]) (fun a => a.1 ≤ L.length ∧ (a.2 = .nilp ∨ a.2 = .box 6 0)) (fun a => L.length - a.1) (0, .nilp) ⟨Nat.zero_le _, .inl rfl⟩ ⟨Le.refl _, trivial⟩ ⟨MOle.refl _, MOle.refl _, trivial⟩ ?_
  intro ⟨j, p⟩ ⟨hj, hp⟩ IH
  simp only [] at hj hp ⊢
  have hwj : IntKind.i64.wrap ((j : Int) + 1) = ((j + 1 : Nat) : Int) := wrap64 (by omega) (by omega)
  have hTj := hT j
  refine Run.go ?_; (conv => whnf); repeat' (first | ((with_reducible refine Know.mk fun _ => ?_); conv => whnf) | ((with_reducible refine Need.mk ?_ ?_); (first | omega | (dsimp only; omega) | decide | exact bytes_le (by rfl) (by omega) | exact ⟨rfl, by omega, bytes_le (by rfl) (by omega), by omega⟩ | (refine ⟨?_, ?_⟩ <;> (rw [wrap64 (by omega) (by omega)]; omega))); conv => whnf) | ((with_reducible refine Both.mk ?_ ?_) <;> conv => whnf) | ((with_reducible refine Any.mk fun b hb => ?_); conv => whnf) | ((with_reducible refine AskB.dec (fun hb => ?_) (fun hb => ?_)) <;> conv => whnf) | ((with_reducible refine AskB.ndec (fun hb => ?_) (fun hb => ?_)) <;> conv => whnf) | ((with_reducible refine AskB.mk (fun hb => ?_) (fun hb => ?_)) <;> conv => whnf) | ((with_reducible refine Run.drawX rfl (by decide +kernel) ?_); conv => whnf) | ((with_reducible refine Run.drawT rfl (by decide +kernel) ?_); conv => whnf) | ((with_reducible refine Run.drawW rfl (by decide +kernel) ?_); conv => whnf) | fail)
  case _ =>
    have hjl : j < L.length := by omega
    have hb2 : (L.getD j tCel.z).bad = true := hb
    have hcf : cellF o (L.getD j tCel.z) = ⟨#[UInt8.ofNat (L.getD j tCel.z).byte.toNat]⟩ := if_pos hb2
    refine Run.bldr 66 5 6 90 p (catC o (L.take j)) (by rcases hp with rfl | rfl <;> exact MOle.refl _) (MOle.refl _) ?_
    refine wb6 p _ (UInt8.ofNat (L.getD j tCel.z).byte.toNat) rfl rfl rfl rfl rfl ?_ (by omega) hp ?_
    · rw [hby _ (by rw [List.getD, List.getElem?_eq_getElem hjl]; exact List.getElem_mem hjl)]; rfl
    refine Run.go ?_; (conv => whnf); repeat' (first | ((with_reducible refine Know.mk fun _ => ?_); conv => whnf) | ((with_reducible refine Need.mk ?_ ?_); (first | omega | (dsimp only; omega) | decide | exact bytes_le (by rfl) (by omega) | exact ⟨rfl, by omega, bytes_le (by rfl) (by omega), by omega⟩ | (refine ⟨?_, ?_⟩ <;> (rw [wrap64 (by omega) (by omega)]; omega))); conv => whnf) | ((with_reducible refine Both.mk ?_ ?_) <;> conv => whnf) | ((with_reducible refine Any.mk fun b hb => ?_); conv => whnf) | ((with_reducible refine AskB.dec (fun hb => ?_) (fun hb => ?_)) <;> conv => whnf) | ((with_reducible refine AskB.ndec (fun hb => ?_) (fun hb => ?_)) <;> conv => whnf) | ((with_reducible refine AskB.mk (fun hb => ?_) (fun hb => ?_)) <;> conv => whnf) | ((with_reducible refine Run.drawX rfl (by decide +kernel) ?_); conv => whnf) | ((with_reducible refine Run.drawT rfl (by decide +kernel) ?_); conv => whnf) | ((with_reducible refine Run.drawW rfl (by decide +kernel) ?_); conv => whnf) | fail)
    refine Run.to _ _ ?_ ?_ (IH (j + 1, .box 6 0) (by simp only []; omega) ⟨by simp only []; omega, .inr rfl⟩)
    · exact ⟨Le.refl _, Le.refl _, Le.refl _, Le.refl _, Le.refl _, Le.int hwj, trivial⟩
    · refine ⟨MOle.refl _, ?_, trivial⟩
      simp only []
      rw [catC_take _ _ _ hjl, hcf]
      exact MOle.refl _
  case _ =>
    have hjl : j < L.length := by omega
    have hb2 : (L.getD j tCel.z).bad = false := hb
    have hcf : cellF o (L.getD j tCel.z) = foldR (L.getD j tCel.z).r o := if_neg (by rw [hb2]; exact Bool.noConfusion)
    refine Run.to [(1, .int .i64 o), (6, .box 6 0), (7, tF.L (stepsF o)), (15, tCel.L L), (16, .int .i64 L.length), (17, .int .i64 j), (27, .int .i32 (L.getD j tCel.z).r), (28, .int .i64 o), (29, tF.L (stepsF o))] [(6, .box 66 [p, .row 90]), (90, .row 5 1 (catC o (L.take j)).size (bytesG (catC o (L.take j))))]
      ⟨Le.refl _, Le.refl _, Le.refl _, Le.refl _, Le.refl _, Le.refl _, Le.refl _, Le.refl _, Le.refl _, trivial⟩ ⟨by rcases hp with rfl | rfl <;> exact MOle.refl _, MOle.refl _, trivial⟩ ?_
    refine fold41 _ p _ (L.getD j tCel.z).r o rfl rfl rfl rfl rfl rfl rfl rfl ?_ (by omega) hp ho.1 ho.2 ?_
    · exact ⟨⟨rfl, rfl, rfl, fun _ _ => rfl⟩, ⟨rfl, rfl, rfl, fun _ _ => rfl⟩, ⟨rfl, rfl, rfl, fun _ _ => rfl⟩, ⟨rfl, rfl, rfl, fun _ _ => rfl⟩, ⟨rfl, rfl, rfl, fun _ _ => rfl⟩, ⟨rfl, rfl, rfl, fun _ _ => rfl⟩, ⟨rfl, rfl, rfl, fun _ _ => rfl⟩, ⟨rfl, rfl, rfl, fun _ _ => rfl⟩, ⟨rfl, rfl, rfl, fun _ _ => rfl⟩, trivial⟩
    intro p' hp'
    refine Run.go ?_; (conv => whnf); repeat' (first | ((with_reducible refine Know.mk fun _ => ?_); conv => whnf) | ((with_reducible refine Need.mk ?_ ?_); (first | omega | (dsimp only; omega) | decide | exact bytes_le (by rfl) (by omega) | exact ⟨rfl, by omega, bytes_le (by rfl) (by omega), by omega⟩ | (refine ⟨?_, ?_⟩ <;> (rw [wrap64 (by omega) (by omega)]; omega))); conv => whnf) | ((with_reducible refine Both.mk ?_ ?_) <;> conv => whnf) | ((with_reducible refine Any.mk fun b hb => ?_); conv => whnf) | ((with_reducible refine AskB.dec (fun hb => ?_) (fun hb => ?_)) <;> conv => whnf) | ((with_reducible refine AskB.ndec (fun hb => ?_) (fun hb => ?_)) <;> conv => whnf) | ((with_reducible refine AskB.mk (fun hb => ?_) (fun hb => ?_)) <;> conv => whnf) | ((with_reducible refine Run.drawX rfl (by decide +kernel) ?_); conv => whnf) | ((with_reducible refine Run.drawT rfl (by decide +kernel) ?_); conv => whnf) | ((with_reducible refine Run.drawW rfl (by decide +kernel) ?_); conv => whnf) | fail)
    refine Run.to _ _ ?_ ?_ (IH (j + 1, p') (by simp only []; omega) ⟨by simp only []; omega, hp'⟩)
    · exact ⟨Le.refl _, Le.refl _, Le.refl _, Le.refl _, Le.refl _, Le.int hwj, trivial⟩
    · refine ⟨MOle.refl _, ?_, trivial⟩
      simp only []
      rw [catC_take _ _ _ hjl, hcf]
      exact MOle.refl _
  case _ =>
    obtain rfl : j = L.length := by omega
    refine Run.bldr 66 5 6 90 p (catC o (L.take L.length)) (MOle.refl _) (MOle.refl _) ?_
    refine bs6 p _ rfl rfl rfl rfl rfl ?_
    rw [List.take_length]
    refine Run.go ?_; (conv => whnf); repeat' (first | ((with_reducible refine Know.mk fun _ => ?_); conv => whnf) | ((with_reducible refine Need.mk ?_ ?_); (first | omega | (dsimp only; omega) | decide | exact bytes_le (by rfl) (by omega) | exact ⟨rfl, by omega, bytes_le (by rfl) (by omega), by omega⟩ | (refine ⟨?_, ?_⟩ <;> (rw [wrap64 (by omega) (by omega)]; omega))); conv => whnf) | ((with_reducible refine Both.mk ?_ ?_) <;> conv => whnf) | ((with_reducible refine Any.mk fun b hb => ?_); conv => whnf) | ((with_reducible refine AskB.dec (fun hb => ?_) (fun hb => ?_)) <;> conv => whnf) | ((with_reducible refine AskB.ndec (fun hb => ?_) (fun hb => ?_)) <;> conv => whnf) | ((with_reducible refine AskB.mk (fun hb => ?_) (fun hb => ?_)) <;> conv => whnf) | ((with_reducible refine Run.drawX rfl (by decide +kernel) ?_); conv => whnf) | ((with_reducible refine Run.drawT rfl (by decide +kernel) ?_); conv => whnf) | ((with_reducible refine Run.drawW rfl (by decide +kernel) ?_); conv => whnf) | fail)
    exact Run.leave (ts := [4,5]) (.inr ⟨_, rfl⟩) rfl Tryd.func26 rfl (resT ⟨Le.refl _, Le.refl _, trivial⟩)
/-- What a number becomes. -/
def runeL (r o : Int) : AV := tupL [.str (if badO o then .empty else foldR r o), .int .i64 (if badO o then 2 else 0)]
theorem rune27_fn (r o : Int) : Fn Tryd.prog 27 [.int .i32 r, .int .i64 o] (runeL r o) := by
  refine Fn.of Tryd.f27 _ Tryd.func27 rfl (by decide) (by show 2 ≤ _; decide) tbOk 15 rfl fun S w0 gl => ?_
  refine Run.go ?_; (conv => whnf); repeat' (first | ((with_reducible refine Know.mk fun _ => ?_); conv => whnf) | ((with_reducible refine Need.mk ?_ ?_); (first | omega | (dsimp only; omega) | decide | exact bytes_le (by rfl) (by omega) | exact ⟨rfl, by omega, bytes_le (by rfl) (by omega), by omega⟩ | (refine ⟨?_, ?_⟩ <;> (rw [wrap64 (by omega) (by omega)]; omega))); conv => whnf) | ((with_reducible refine Both.mk ?_ ?_) <;> conv => whnf) | ((with_reducible refine Any.mk fun b hb => ?_); conv => whnf) | ((with_reducible refine AskB.dec (fun hb => ?_) (fun hb => ?_)) <;> conv => whnf) | ((with_reducible refine AskB.ndec (fun hb => ?_) (fun hb => ?_)) <;> conv => whnf) | ((with_reducible refine AskB.mk (fun hb => ?_) (fun hb => ?_)) <;> conv => whnf) | ((with_reducible refine Run.drawX rfl (by decide +kernel) ?_); conv => whnf) | ((with_reducible refine Run.drawT rfl (by decide +kernel) ?_); conv => whnf) | ((with_reducible refine Run.drawW rfl (by decide +kernel) ?_); conv => whnf) | fail)
  refine Run.callBX (wrong37_fn o) rfl rfl ⟨Le.refl _, trivial⟩ rfl rfl rfl ?_
  (conv => whnf); repeat' (first | ((with_reducible refine Know.mk fun _ => ?_); conv => whnf) | ((with_reducible refine Need.mk ?_ ?_); (first | omega | (dsimp only; omega) | decide | exact bytes_le (by rfl) (by omega) | exact ⟨rfl, by omega, bytes_le (by rfl) (by omega), by omega⟩ | (refine ⟨?_, ?_⟩ <;> (rw [wrap64 (by omega) (by omega)]; omega))); conv => whnf) | ((with_reducible refine Both.mk ?_ ?_) <;> conv => whnf) | ((with_reducible refine Any.mk fun b hb => ?_); conv => whnf) | ((with_reducible refine AskB.dec (fun hb => ?_) (fun hb => ?_)) <;> conv => whnf) | ((with_reducible refine AskB.ndec (fun hb => ?_) (fun hb => ?_)) <;> conv => whnf) | ((with_reducible refine AskB.mk (fun hb => ?_) (fun hb => ?_)) <;> conv => whnf) | ((with_reducible refine Run.drawX rfl (by decide +kernel) ?_); conv => whnf) | ((with_reducible refine Run.drawT rfl (by decide +kernel) ?_); conv => whnf) | ((with_reducible refine Run.drawW rfl (by decide +kernel) ?_); conv => whnf) | fail)
  · have hbad : badO o := hb
    unfold runeL
    rw [if_pos hbad, if_pos hbad]
    exact Run.leave (ts := [4,5]) (.inr ⟨_, rfl⟩) rfl Tryd.func27 rfl (resT ⟨Le.refl _, Le.refl _, trivial⟩)
  have hok : ¬ badO o := hb
  unfold runeL
  rw [if_neg hok, if_neg hok]
  have ho : 0 ≤ o ∧ o ≤ 31 := by unfold badO at hok; omega
  refine Run.callBX (steps38_fn o ho.1 ho.2) rfl rfl ⟨Le.refl _, trivial⟩ rfl rfl rfl ?_
  (conv => whnf); repeat' (first | ((with_reducible refine Know.mk fun _ => ?_); conv => whnf) | ((with_reducible refine Need.mk ?_ ?_); (first | omega | (dsimp only; omega) | decide | exact bytes_le (by rfl) (by omega) | exact ⟨rfl, by omega, bytes_le (by rfl) (by omega), by omega⟩ | (refine ⟨?_, ?_⟩ <;> (rw [wrap64 (by omega) (by omega)]; omega))); conv => whnf) | ((with_reducible refine Both.mk ?_ ?_) <;> conv => whnf) | ((with_reducible refine Any.mk fun b hb => ?_); conv => whnf) | ((with_reducible refine AskB.dec (fun hb => ?_) (fun hb => ?_)) <;> conv => whnf) | ((with_reducible refine AskB.ndec (fun hb => ?_) (fun hb => ?_)) <;> conv => whnf) | ((with_reducible refine AskB.mk (fun hb => ?_) (fun hb => ?_)) <;> conv => whnf) | ((with_reducible refine Run.drawX rfl (by decide +kernel) ?_); conv => whnf) | ((with_reducible refine Run.drawT rfl (by decide +kernel) ?_); conv => whnf) | ((with_reducible refine Run.drawW rfl (by decide +kernel) ?_); conv => whnf) | fail)
  refine Run.holdBoxNil 6 1 90 5 1 (bytesG .empty) rfl rfl rfl rfl ?_
  refine Run.to [(6, .box 6 0), (9, .int .i32 r), (10, .int .i64 o), (12, tF.L (stepsF o))] [(6, .box 66 [.nilp, .row 90]), (90, .row 5 1 (ByteArray.empty).size (bytesG .empty))] ⟨Le.refl _, Le.refl _, Le.refl _, Le.refl _, trivial⟩ ⟨MOle.refl _, MOle.refl _, trivial⟩ ?_
  refine fold41 _ .nilp .empty r o rfl rfl rfl rfl rfl rfl rfl rfl ?_ (by decide) (.inl rfl) ho.1 ho.2 ?_
  · exact ⟨⟨rfl, rfl, rfl, fun _ _ => rfl⟩, ⟨rfl, rfl, rfl, fun _ _ => rfl⟩, ⟨rfl, rfl, rfl, fun _ _ => rfl⟩, ⟨rfl, rfl, rfl, fun _ _ => rfl⟩, trivial⟩
  intro p' hp'
  refine Run.go ?_; (conv => whnf); repeat' (first | ((with_reducible refine Know.mk fun _ => ?_); conv => whnf) | ((with_reducible refine Need.mk ?_ ?_); (first | omega | (dsimp only; omega) | decide | exact bytes_le (by rfl) (by omega) | exact ⟨rfl, by omega, bytes_le (by rfl) (by omega), by omega⟩ | (refine ⟨?_, ?_⟩ <;> (rw [wrap64 (by omega) (by omega)]; omega))); conv => whnf) | ((with_reducible refine Both.mk ?_ ?_) <;> conv => whnf) | ((with_reducible refine Any.mk fun b hb => ?_); conv => whnf) | ((with_reducible refine AskB.dec (fun hb => ?_) (fun hb => ?_)) <;> conv => whnf) | ((with_reducible refine AskB.ndec (fun hb => ?_) (fun hb => ?_)) <;> conv => whnf) | ((with_reducible refine AskB.mk (fun hb => ?_) (fun hb => ?_)) <;> conv => whnf) | ((with_reducible refine Run.drawX rfl (by decide +kernel) ?_); conv => whnf) | ((with_reducible refine Run.drawT rfl (by decide +kernel) ?_); conv => whnf) | ((with_reducible refine Run.drawW rfl (by decide +kernel) ?_); conv => whnf) | fail)
  refine Run.bldr 66 5 6 90 p' (.empty ++ foldR r o) (MOle.refl _) (MOle.refl _) ?_
  refine bs6 p' _ rfl rfl rfl rfl rfl ?_
  rw [ByteArray.empty_append]
  refine Run.go ?_; (conv => whnf); repeat' (first | ((with_reducible refine Know.mk fun _ => ?_); conv => whnf) | ((with_reducible refine Need.mk ?_ ?_); (first | omega | (dsimp only; omega) | decide | exact bytes_le (by rfl) (by omega) | exact ⟨rfl, by omega, bytes_le (by rfl) (by omega), by omega⟩ | (refine ⟨?_, ?_⟩ <;> (rw [wrap64 (by omega) (by omega)]; omega))); conv => whnf) | ((with_reducible refine Both.mk ?_ ?_) <;> conv => whnf) | ((with_reducible refine Any.mk fun b hb => ?_); conv => whnf) | ((with_reducible refine AskB.dec (fun hb => ?_) (fun hb => ?_)) <;> conv => whnf) | ((with_reducible refine AskB.ndec (fun hb => ?_) (fun hb => ?_)) <;> conv => whnf) | ((with_reducible refine AskB.mk (fun hb => ?_) (fun hb => ?_)) <;> conv => whnf) | ((with_reducible refine Run.drawX rfl (by decide +kernel) ?_); conv => whnf) | ((with_reducible refine Run.drawT rfl (by decide +kernel) ?_); conv => whnf) | ((with_reducible refine Run.drawW rfl (by decide +kernel) ?_); conv => whnf) | fail)
  exact Run.leave (ts := [4,5]) (.inr ⟨_, rfl⟩) rfl Tryd.func27 rfl (resT ⟨Le.refl _, Le.refl _, trivial⟩)
def sameL (a b : ByteArray) (o : Int) : AV := tupL [.bool (if badO o then false else decide (textF a o = textF b o)), .int .i64 (if badO o then 2 else 0)]
theorem same30_fn (a b : ByteArray) (o : Int) (ha : a.size ≤ 134217728) (hb : b.size ≤ 134217728) : Fn Tryd.prog 30 [.str a, .str b, .int .i64 o] (sameL a b o) := by
  refine Fn.of Tryd.f30 _ Tryd.func30 rfl (by decide) (by show 3 ≤ _; decide) tbOk 30 rfl fun S w0 gl => ?_
  refine Run.go ?_; (conv => whnf); repeat' (first | ((with_reducible refine Know.mk fun _ => ?_); conv => whnf) | ((with_reducible refine Need.mk ?_ ?_); (first | omega | (dsimp only; omega) | decide | exact bytes_le (by rfl) (by omega) | exact ⟨rfl, by omega, bytes_le (by rfl) (by omega), by omega⟩ | (refine ⟨?_, ?_⟩ <;> (rw [wrap64 (by omega) (by omega)]; omega))); conv => whnf) | ((with_reducible refine Both.mk ?_ ?_) <;> conv => whnf) | ((with_reducible refine Any.mk fun b hb => ?_); conv => whnf) | ((with_reducible refine AskB.dec (fun hb => ?_) (fun hb => ?_)) <;> conv => whnf) | ((with_reducible refine AskB.ndec (fun hb => ?_) (fun hb => ?_)) <;> conv => whnf) | ((with_reducible refine AskB.mk (fun hb => ?_) (fun hb => ?_)) <;> conv => whnf) | ((with_reducible refine Run.drawX rfl (by decide +kernel) ?_); conv => whnf) | ((with_reducible refine Run.drawT rfl (by decide +kernel) ?_); conv => whnf) | ((with_reducible refine Run.drawW rfl (by decide +kernel) ?_); conv => whnf) | fail)
  refine Run.callBX (text26_fn a o ha) rfl rfl ⟨Le.refl _, Le.refl _, trivial⟩ rfl rfl rfl ?_
  unfold textL
  (conv => whnf); repeat' (first | ((with_reducible refine Know.mk fun _ => ?_); conv => whnf) | ((with_reducible refine Need.mk ?_ ?_); (first | omega | (dsimp only; omega) | decide | exact bytes_le (by rfl) (by omega) | exact ⟨rfl, by omega, bytes_le (by rfl) (by omega), by omega⟩ | (refine ⟨?_, ?_⟩ <;> (rw [wrap64 (by omega) (by omega)]; omega))); conv => whnf) | ((with_reducible refine Both.mk ?_ ?_) <;> conv => whnf) | ((with_reducible refine Any.mk fun b hb => ?_); conv => whnf) | ((with_reducible refine AskB.dec (fun hb => ?_) (fun hb => ?_)) <;> conv => whnf) | ((with_reducible refine AskB.ndec (fun hb => ?_) (fun hb => ?_)) <;> conv => whnf) | ((with_reducible refine AskB.mk (fun hb => ?_) (fun hb => ?_)) <;> conv => whnf) | ((with_reducible refine Run.drawX rfl (by decide +kernel) ?_); conv => whnf) | ((with_reducible refine Run.drawT rfl (by decide +kernel) ?_); conv => whnf) | ((with_reducible refine Run.drawW rfl (by decide +kernel) ?_); conv => whnf) | fail)
  · have hok : ¬ badO o := fun h => by rw [if_pos h] at hb; exact absurd hb (by decide)
    refine Run.callBX (text26_fn b o (by assumption)) rfl rfl ⟨Le.refl _, Le.refl _, trivial⟩ rfl rfl rfl ?_
    unfold textL
    (conv => whnf); repeat' (first | ((with_reducible refine Know.mk fun _ => ?_); conv => whnf) | ((with_reducible refine Need.mk ?_ ?_); (first | omega | (dsimp only; omega) | decide | exact bytes_le (by rfl) (by omega) | exact ⟨rfl, by omega, bytes_le (by rfl) (by omega), by omega⟩ | (refine ⟨?_, ?_⟩ <;> (rw [wrap64 (by omega) (by omega)]; omega))); conv => whnf) | ((with_reducible refine Both.mk ?_ ?_) <;> conv => whnf) | ((with_reducible refine Any.mk fun b hb => ?_); conv => whnf) | ((with_reducible refine AskB.dec (fun hb => ?_) (fun hb => ?_)) <;> conv => whnf) | ((with_reducible refine AskB.ndec (fun hb => ?_) (fun hb => ?_)) <;> conv => whnf) | ((with_reducible refine AskB.mk (fun hb => ?_) (fun hb => ?_)) <;> conv => whnf) | ((with_reducible refine Run.drawX rfl (by decide +kernel) ?_); conv => whnf) | ((with_reducible refine Run.drawT rfl (by decide +kernel) ?_); conv => whnf) | ((with_reducible refine Run.drawW rfl (by decide +kernel) ?_); conv => whnf) | fail)
    unfold sameL
    simp only [if_neg hok]
    refine Run.leave (ts := [6,7]) (.inr ⟨_, rfl⟩) rfl Tryd.func30 rfl (resT ⟨Le.bool ?_, Le.refl _, trivial⟩)
    rfl
  · have hbad : badO o := Classical.byContradiction fun h => hb (if_neg h)
    unfold sameL
    simp only [if_pos hbad]
    refine Run.leave (ts := [6,7]) (.inr ⟨_, rfl⟩) rfl Tryd.func30 rfl (resT ⟨Le.ff, Le.refl _, trivial⟩)
end Go.Proofs.YtfodjmemdkibpaaDoor.V
