/-
strings.Builder's calls; Join walked.
-/
import Derived.Test.YtfodjmemdkibpaaDoorMD
import Derived.Test.YtfodjmemdkibpaaDoorRq
import Derived.Test.YtfodjmemdkibpaaDoorWk
namespace Go.Proofs.YtfodjmemdkibpaaDoor.V
open Go Go.Proofs Go.RowKit
set_option linter.unusedVariables false
set_option linter.unusedSimpArgs false
set_option maxRecDepth 100000
set_option maxHeartbeats 2000000
open Go Go.Proofs Go.Proofs.YtfodjmemdkibpaaDoor.V
theorem ws5 {N : Nat} {w0 : World} {S : Nat → Prop} {gl : GlobOk S w0} {f : FuncId} {R : Ending → World → Prop} {ops : Array Oper} {i : Nat} {rest : List Nat} {k : List Item} {env : Env} {h : Heap} {o : Oper} {x y : Operand}
    (p : AV) (t s : ByteArray) (ho : ops.toList[i]? = some o) (hc : calls? o = some (33, [x, y])) (hd : okD N o.dst = true) (hr : ready env ops o = true) (hx : ev (scrubE 900 env) x = .box 5 0) (hy : ev (scrubE 900 env) y = .str s)
    (hs : t.size + s.size ≤ 140737488355328) (hp : p = .nilp ∨ p = .box 5 0)
    (next : Run ⟨Tryd.prog, TB, tbOk, N, w0, S, gl, f, R⟩ (.inRegion ops rest :: k) (putE (envW 90 env) o.dst .u) (bldr 66 5 5 90 (heapW 90 h) (.box 5 0) (t ++ s))) :
    Run ⟨Tryd.prog, TB, tbOk, N, w0, S, gl, f, R⟩ (.inRegion ops (i :: rest) :: k) env (bldr 66 5 5 90 h p t) := by
  refine Run.inline 900 Tryd.f33 _ 19 ho hc Tryd.func33 rfl (by decide) rfl (by show 2 ≤ 19; decide) hd hr (fun a hsz hdf => ?_)
  simp only [List.map, hx, hy]
  have fin : ∀ (E : Env) (H : Heap) (X : AV), (∀ i, E i = scrub 14 (scrub 901 (scrub 900 (env i)))) → (∀ id, Nat.beq id 5 = false → Nat.beq id 90 = false → Nat.beq id 14 = false → Nat.beq id 901 = false → Nat.beq id 900 = false → H id = scrubM 90 (scrubM 14 (scrubM 901 (scrubM 900 (h id))))) →
      MOle (H 5) (.box 66 [.box 5 0, .row 90]) → MOle (H 90) (.row 5 1 (t ++ s).size (bytesG (t ++ s))) → Run ⟨Tryd.prog, TB, tbOk, N, w0, S, gl, f, R⟩ (.inRegion ops rest :: k) (scrubE 90 (putE E o.dst X)) H := by
    intro E H X hE hH h5 h90
    refine Run.weaken (fun i => ?_) (fun id => ?_) next
    · cases hdst : o.dst with
      | none => show Le (scrub 90 (E i)) _; rw [hE]; exact Le.refl _
      | some d =>
        show Le (scrub 90 (upd E d X i)) (upd (envW 90 env) d .u i)
        by_cases e : i = d
        · subst e; rw [upd_same, upd_same]; exact Le.u _
        · rw [upd_other _ _ e, upd_other _ _ e, hE]; exact Le.refl _
    · unfold bldr heapW
      cases e5 : Nat.beq id 5 with
      | true => have := Nat.eq_of_beq_eq_true e5; subst this; exact h5
      | false =>
      cases e90 : Nat.beq id 90 with
      | true => have := Nat.eq_of_beq_eq_true e90; subst this; exact h90
      | false =>
      cases e900 : Nat.beq id 900 with
      | true => simp only [upd, e5, e90, e900, cond_true, cond_false]; exact mole_dead _
      | false =>
      cases e901 : Nat.beq id 901 with
      | true => simp only [upd, e5, e90, e900, e901, cond_true, cond_false]; exact mole_dead _
      | false =>
      cases e14 : Nat.beq id 14 with
      | true => simp only [upd, e5, e90, e900, e901, e14, cond_true, cond_false]; exact mole_dead _
      | false =>
        rw [hH id e5 e90 e14 e901 e900]
        simp only [upd, e5, e90, e900, e901, e14, cond_true, cond_false]
        exact MOle.refl _
  rcases hp with rfl | rfl
  · refine Run.go ?_; (conv => whnf); repeat' (first | ((with_reducible refine Know.mk fun _ => ?_); conv => whnf) | ((with_reducible refine Need.mk ?_ ?_); (first | omega | (dsimp only; omega) | decide | exact bytes_le (by rfl) (by omega) | exact ⟨rfl, by omega, bytes_le (by rfl) (by omega), by omega⟩ | (refine ⟨?_, ?_⟩ <;> (rw [wrap64 (by omega) (by omega)]; omega))); conv => whnf) | ((with_reducible refine Both.mk ?_ ?_) <;> conv => whnf) | ((with_reducible refine Any.mk fun b hb => ?_); conv => whnf) | ((with_reducible refine AskB.dec (fun hb => ?_) (fun hb => ?_)) <;> conv => whnf) | ((with_reducible refine AskB.ndec (fun hb => ?_) (fun hb => ?_)) <;> conv => whnf) | ((with_reducible refine AskB.mk (fun hb => ?_) (fun hb => ?_)) <;> conv => whnf) | ((with_reducible refine Run.drawX rfl (by decide +kernel) ?_); conv => whnf) | ((with_reducible refine Run.drawT rfl (by decide +kernel) ?_); conv => whnf) | ((with_reducible refine Run.drawW rfl (by decide +kernel) ?_); conv => whnf) | fail)
    refine Run.inline 901 Tryd.f50 _ 20 rfl rfl Tryd.func50 rfl (by decide) rfl (by decide) rfl rfl (fun a2 hsz2 hdf2 => ?_)
    refine Run.go ?_; (conv => whnf); repeat' (first | ((with_reducible refine Know.mk fun _ => ?_); conv => whnf) | ((with_reducible refine Need.mk ?_ ?_); (first | omega | (dsimp only; omega) | decide | exact bytes_le (by rfl) (by omega) | exact ⟨rfl, by omega, bytes_le (by rfl) (by omega), by omega⟩ | (refine ⟨?_, ?_⟩ <;> (rw [wrap64 (by omega) (by omega)]; omega))); conv => whnf) | ((with_reducible refine Both.mk ?_ ?_) <;> conv => whnf) | ((with_reducible refine Any.mk fun b hb => ?_); conv => whnf) | ((with_reducible refine AskB.dec (fun hb => ?_) (fun hb => ?_)) <;> conv => whnf) | ((with_reducible refine AskB.ndec (fun hb => ?_) (fun hb => ?_)) <;> conv => whnf) | ((with_reducible refine AskB.mk (fun hb => ?_) (fun hb => ?_)) <;> conv => whnf) | ((with_reducible refine Run.drawX rfl (by decide +kernel) ?_); conv => whnf) | ((with_reducible refine Run.drawT rfl (by decide +kernel) ?_); conv => whnf) | ((with_reducible refine Run.drawW rfl (by decide +kernel) ?_); conv => whnf) | fail)
    refine Run.toUnsafe (id := 5) (l := [.nilp, .row 90]) (e := 66) (t := 66) (src := 63) (dst := 101) (x := .tmp 8) rfl rfl rfl rfl rfl rfl (by decide) (by kernel_rfl) (by kernel_rfl) (j := (Tryd.prog.info? 66).get (by kernel_rfl)) (by kernel_rfl) (by decide +kernel) ?_
    refine Run.noEscape (f := 68) (x := .tmp 9) rfl rfl rfl rfl Tryd.func68 (by kernel_rfl) (by kernel_rfl) (by kernel_rfl) (by kernel_rfl) ?_
    refine Run.fromUnsafe (id := 5) (l := [.nilp, .row 90]) (e := 66) (u := 66) (src := 101) (dst := 63) (x := .tmp 10) rfl rfl rfl rfl rfl rfl (by kernel_rfl) (by kernel_rfl) (j := (Tryd.prog.info? 66).get (by kernel_rfl)) (by kernel_rfl) (by kernel_rfl) ?_
    refine Run.go ?_; (conv => whnf); repeat' (first | ((with_reducible refine Know.mk fun _ => ?_); conv => whnf) | ((with_reducible refine Need.mk ?_ ?_); (first | omega | (dsimp only; omega) | decide | exact bytes_le (by rfl) (by omega) | exact ⟨rfl, by omega, bytes_le (by rfl) (by omega), by omega⟩ | (refine ⟨?_, ?_⟩ <;> (rw [wrap64 (by omega) (by omega)]; omega))); conv => whnf) | ((with_reducible refine Both.mk ?_ ?_) <;> conv => whnf) | ((with_reducible refine Any.mk fun b hb => ?_); conv => whnf) | ((with_reducible refine AskB.dec (fun hb => ?_) (fun hb => ?_)) <;> conv => whnf) | ((with_reducible refine AskB.ndec (fun hb => ?_) (fun hb => ?_)) <;> conv => whnf) | ((with_reducible refine AskB.mk (fun hb => ?_) (fun hb => ?_)) <;> conv => whnf) | ((with_reducible refine Run.drawX rfl (by decide +kernel) ?_); conv => whnf) | ((with_reducible refine Run.drawT rfl (by decide +kernel) ?_); conv => whnf) | ((with_reducible refine Run.drawW rfl (by decide +kernel) ?_); conv => whnf) | fail)
    refine Run.back 901 (ts := []) hsz2 hdf2 (.inl rfl) (by rfl) Tryd.func50 rfl ?_
    refine Run.go ?_; (conv => whnf); repeat' (first | ((with_reducible refine Know.mk fun _ => ?_); conv => whnf) | ((with_reducible refine Need.mk ?_ ?_); (first | omega | (dsimp only; omega) | decide | exact bytes_le (by rfl) (by omega) | exact ⟨rfl, by omega, bytes_le (by rfl) (by omega), by omega⟩ | (refine ⟨?_, ?_⟩ <;> (rw [wrap64 (by omega) (by omega)]; omega))); conv => whnf) | ((with_reducible refine Both.mk ?_ ?_) <;> conv => whnf) | ((with_reducible refine Any.mk fun b hb => ?_); conv => whnf) | ((with_reducible refine AskB.dec (fun hb => ?_) (fun hb => ?_)) <;> conv => whnf) | ((with_reducible refine AskB.ndec (fun hb => ?_) (fun hb => ?_)) <;> conv => whnf) | ((with_reducible refine AskB.mk (fun hb => ?_) (fun hb => ?_)) <;> conv => whnf) | ((with_reducible refine Run.drawX rfl (by decide +kernel) ?_); conv => whnf) | ((with_reducible refine Run.drawT rfl (by decide +kernel) ?_); conv => whnf) | ((with_reducible refine Run.drawW rfl (by decide +kernel) ?_); conv => whnf) | fail)
    refine Run.back 900 (ts := [4, 5]) hsz hdf (.inr ⟨_, rfl⟩) (by rfl) Tryd.func33 rfl ?_
    refine Run.holdBoxRow 5 1 90 14 (by rfl) (by rfl) (by rfl) rfl rfl rfl ?_
    refine fin _ _ _ (fun i => rfl) (fun id e5 e90 e14 e901 e900 => ?_) (MOle.refl _) (bytesG_join 5 t s)
    simp only [upd, scrubH, scrubM, bldr, e5, e90, e14, e901, e900, cond_false]
  · refine Run.go ?_; (conv => whnf); repeat' (first | ((with_reducible refine Know.mk fun _ => ?_); conv => whnf) | ((with_reducible refine Need.mk ?_ ?_); (first | omega | (dsimp only; omega) | decide | exact bytes_le (by rfl) (by omega) | exact ⟨rfl, by omega, bytes_le (by rfl) (by omega), by omega⟩ | (refine ⟨?_, ?_⟩ <;> (rw [wrap64 (by omega) (by omega)]; omega))); conv => whnf) | ((with_reducible refine Both.mk ?_ ?_) <;> conv => whnf) | ((with_reducible refine Any.mk fun b hb => ?_); conv => whnf) | ((with_reducible refine AskB.dec (fun hb => ?_) (fun hb => ?_)) <;> conv => whnf) | ((with_reducible refine AskB.ndec (fun hb => ?_) (fun hb => ?_)) <;> conv => whnf) | ((with_reducible refine AskB.mk (fun hb => ?_) (fun hb => ?_)) <;> conv => whnf) | ((with_reducible refine Run.drawX rfl (by decide +kernel) ?_); conv => whnf) | ((with_reducible refine Run.drawT rfl (by decide +kernel) ?_); conv => whnf) | ((with_reducible refine Run.drawW rfl (by decide +kernel) ?_); conv => whnf) | fail)
    refine Run.inline 901 Tryd.f50 _ 20 rfl rfl Tryd.func50 rfl (by decide) rfl (by decide) rfl rfl (fun a2 hsz2 hdf2 => ?_)
    refine Run.go ?_; (conv => whnf); repeat' (first | ((with_reducible refine Know.mk fun _ => ?_); conv => whnf) | ((with_reducible refine Need.mk ?_ ?_); (first | omega | (dsimp only; omega) | decide | exact bytes_le (by rfl) (by omega) | exact ⟨rfl, by omega, bytes_le (by rfl) (by omega), by omega⟩ | (refine ⟨?_, ?_⟩ <;> (rw [wrap64 (by omega) (by omega)]; omega))); conv => whnf) | ((with_reducible refine Both.mk ?_ ?_) <;> conv => whnf) | ((with_reducible refine Any.mk fun b hb => ?_); conv => whnf) | ((with_reducible refine AskB.dec (fun hb => ?_) (fun hb => ?_)) <;> conv => whnf) | ((with_reducible refine AskB.ndec (fun hb => ?_) (fun hb => ?_)) <;> conv => whnf) | ((with_reducible refine AskB.mk (fun hb => ?_) (fun hb => ?_)) <;> conv => whnf) | ((with_reducible refine Run.drawX rfl (by decide +kernel) ?_); conv => whnf) | ((with_reducible refine Run.drawT rfl (by decide +kernel) ?_); conv => whnf) | ((with_reducible refine Run.drawW rfl (by decide +kernel) ?_); conv => whnf) | fail)
    refine Run.back 901 (ts := []) hsz2 hdf2 (.inl rfl) (by rfl) Tryd.func50 rfl ?_
    refine Run.go ?_; (conv => whnf); repeat' (first | ((with_reducible refine Know.mk fun _ => ?_); conv => whnf) | ((with_reducible refine Need.mk ?_ ?_); (first | omega | (dsimp only; omega) | decide | exact bytes_le (by rfl) (by omega) | exact ⟨rfl, by omega, bytes_le (by rfl) (by omega), by omega⟩ | (refine ⟨?_, ?_⟩ <;> (rw [wrap64 (by omega) (by omega)]; omega))); conv => whnf) | ((with_reducible refine Both.mk ?_ ?_) <;> conv => whnf) | ((with_reducible refine Any.mk fun b hb => ?_); conv => whnf) | ((with_reducible refine AskB.dec (fun hb => ?_) (fun hb => ?_)) <;> conv => whnf) | ((with_reducible refine AskB.ndec (fun hb => ?_) (fun hb => ?_)) <;> conv => whnf) | ((with_reducible refine AskB.mk (fun hb => ?_) (fun hb => ?_)) <;> conv => whnf) | ((with_reducible refine Run.drawX rfl (by decide +kernel) ?_); conv => whnf) | ((with_reducible refine Run.drawT rfl (by decide +kernel) ?_); conv => whnf) | ((with_reducible refine Run.drawW rfl (by decide +kernel) ?_); conv => whnf) | fail)
    refine Run.back 900 (ts := [4, 5]) hsz hdf (.inr ⟨_, rfl⟩) (by rfl) Tryd.func33 rfl ?_
    refine Run.holdBoxRow 5 1 90 14 (by rfl) (by rfl) (by rfl) rfl rfl rfl ?_
    refine fin _ _ _ (fun i => rfl) (fun id e5 e90 e14 e901 e900 => ?_) (MOle.refl _) (bytesG_join 5 t s)
    simp only [upd, scrubH, scrubM, bldr, e5, e90, e14, e901, e900, cond_false]
theorem bs5 {N : Nat} {w0 : World} {S : Nat → Prop} {gl : GlobOk S w0} {f : FuncId} {R : Ending → World → Prop} {ops : Array Oper} {i : Nat} {rest : List Nat} {k : List Item} {env : Env} {h : Heap} {o : Oper} {x : Operand}
    (p : AV) (t : ByteArray) (ho : ops.toList[i]? = some o) (hc : calls? o = some (34, [x])) (hd : okD N o.dst = true) (hr : ready env ops o = true) (hx : ev (scrubE 900 env) x = .box 5 0)
    (next : Run ⟨Tryd.prog, TB, tbOk, N, w0, S, gl, f, R⟩ (.inRegion ops rest :: k) (putE (scrubE 900 env) o.dst (.str t)) (upd (upd (upd (scrubH 900 h) 900 .dead) 5 .dead) 90 .dead)) :
    Run ⟨Tryd.prog, TB, tbOk, N, w0, S, gl, f, R⟩ (.inRegion ops (i :: rest) :: k) env (bldr 66 5 5 90 h p t) := by
  refine Run.inline 900 Tryd.f34 _ 14 ho hc Tryd.func34 rfl (by decide) rfl (by show 1 ≤ 14; decide) hd hr (fun a hsz hdf => ?_)
  simp only [List.map, hx]
  have fin : ∀ (H : Heap), (∀ id, Nat.beq id 5 = false → Nat.beq id 90 = false → Nat.beq id 900 = false → H id = scrubM 900 (h id)) →
      Run ⟨Tryd.prog, TB, tbOk, N, w0, S, gl, f, R⟩ (.inRegion ops rest :: k) (putE (scrubE 900 env) o.dst (.str t)) H := by
    intro H hH
    refine Run.weaken (fun i => Le.refl _) (fun id => ?_) next
    cases e5 : Nat.beq id 5 with
    | true => simp only [upd, e5, cond_true, cond_false]; cases Nat.beq id 90 <;> exact mole_dead _
    | false =>
    cases e90 : Nat.beq id 90 with
    | true => simp only [upd, e5, e90, cond_true, cond_false]; exact mole_dead _
    | false =>
    cases e900 : Nat.beq id 900 with
    | true => simp only [upd, e5, e90, e900, cond_true, cond_false]; exact mole_dead _
    | false =>
      rw [hH id e5 e90 e900]
      simp only [upd, e5, e90, e900, cond_true, cond_false]
      exact MOle.refl _
  refine Run.go ?_; (conv => whnf); repeat' (first | ((with_reducible refine Know.mk fun _ => ?_); conv => whnf) | ((with_reducible refine Need.mk ?_ ?_); (first | omega | (dsimp only; omega) | decide | exact bytes_le (by rfl) (by omega) | exact ⟨rfl, by omega, bytes_le (by rfl) (by omega), by omega⟩ | (refine ⟨?_, ?_⟩ <;> (rw [wrap64 (by omega) (by omega)]; omega))); conv => whnf) | ((with_reducible refine Both.mk ?_ ?_) <;> conv => whnf) | ((with_reducible refine Any.mk fun b hb => ?_); conv => whnf) | ((with_reducible refine AskB.dec (fun hb => ?_) (fun hb => ?_)) <;> conv => whnf) | ((with_reducible refine AskB.ndec (fun hb => ?_) (fun hb => ?_)) <;> conv => whnf) | ((with_reducible refine AskB.mk (fun hb => ?_) (fun hb => ?_)) <;> conv => whnf) | ((with_reducible refine Run.drawX rfl (by decide +kernel) ?_); conv => whnf) | ((with_reducible refine Run.drawT rfl (by decide +kernel) ?_); conv => whnf) | ((with_reducible refine Run.drawW rfl (by decide +kernel) ?_); conv => whnf) | fail)
  · refine Run.unsafeString0 (i := 10) (rest := [11]) (k := [.code .ret]) (x := .tmp 7) (y := .tmp 12) (c := ⟨.builtin .unsafeString, #[.tmp 7, .tmp 12], #[88, 3]⟩) rfl rfl rfl rfl rfl rfl rfl (.inl rfl) (by show AV.int .i64 (t.size : Int) = _; rw [hb]; rfl) ?_
    have ht : t = .empty := by simpa using hb
    refine Run.go ?_; (conv => whnf); repeat' (first | ((with_reducible refine Know.mk fun _ => ?_); conv => whnf) | ((with_reducible refine Need.mk ?_ ?_); (first | omega | (dsimp only; omega) | decide | exact bytes_le (by rfl) (by omega) | exact ⟨rfl, by omega, bytes_le (by rfl) (by omega), by omega⟩ | (refine ⟨?_, ?_⟩ <;> (rw [wrap64 (by omega) (by omega)]; omega))); conv => whnf) | ((with_reducible refine Both.mk ?_ ?_) <;> conv => whnf) | ((with_reducible refine Any.mk fun b hb => ?_); conv => whnf) | ((with_reducible refine AskB.dec (fun hb => ?_) (fun hb => ?_)) <;> conv => whnf) | ((with_reducible refine AskB.ndec (fun hb => ?_) (fun hb => ?_)) <;> conv => whnf) | ((with_reducible refine AskB.mk (fun hb => ?_) (fun hb => ?_)) <;> conv => whnf) | ((with_reducible refine Run.drawX rfl (by decide +kernel) ?_); conv => whnf) | ((with_reducible refine Run.drawT rfl (by decide +kernel) ?_); conv => whnf) | ((with_reducible refine Run.drawW rfl (by decide +kernel) ?_); conv => whnf) | fail)
    refine Run.back 900 (ts := [2]) hsz hdf (.inr ⟨_, rfl⟩) (by rfl) Tryd.func34 rfl ?_
    rw [ht] at fin next ⊢
    exact fin _ (fun id e5 e90 e900 => by simp only [upd, scrubH, bldr, e5, e90, e900, cond_false])
  · refine Run.unsafeString (i := 10) (rest := [11]) (k := [.code .ret]) (x := .tmp 7) (y := .tmp 12) (c := ⟨.builtin .unsafeString, #[.tmp 7, .tmp 12], #[88, 3]⟩) t rfl rfl rfl rfl rfl rfl rfl rfl rfl (e := 5) (n := t.size) (q := 90) (get := bytesG t) rfl rfl hb (fun _ _ => rfl) (by kernel_rfl) (by kernel_rfl) ?_
    refine Run.go ?_; (conv => whnf); repeat' (first | ((with_reducible refine Know.mk fun _ => ?_); conv => whnf) | ((with_reducible refine Need.mk ?_ ?_); (first | omega | (dsimp only; omega) | decide | exact bytes_le (by rfl) (by omega) | exact ⟨rfl, by omega, bytes_le (by rfl) (by omega), by omega⟩ | (refine ⟨?_, ?_⟩ <;> (rw [wrap64 (by omega) (by omega)]; omega))); conv => whnf) | ((with_reducible refine Both.mk ?_ ?_) <;> conv => whnf) | ((with_reducible refine Any.mk fun b hb => ?_); conv => whnf) | ((with_reducible refine AskB.dec (fun hb => ?_) (fun hb => ?_)) <;> conv => whnf) | ((with_reducible refine AskB.ndec (fun hb => ?_) (fun hb => ?_)) <;> conv => whnf) | ((with_reducible refine AskB.mk (fun hb => ?_) (fun hb => ?_)) <;> conv => whnf) | ((with_reducible refine Run.drawX rfl (by decide +kernel) ?_); conv => whnf) | ((with_reducible refine Run.drawT rfl (by decide +kernel) ?_); conv => whnf) | ((with_reducible refine Run.drawW rfl (by decide +kernel) ?_); conv => whnf) | fail)
    refine Run.back 900 (ts := [2]) hsz hdf (.inr ⟨_, rfl⟩) (by rfl) Tryd.func34 rfl ?_
    exact fin _ (fun id e5 e90 e900 => by simp only [upd, scrubH, bldr, e5, e90, e900, cond_false])
theorem catW_app : ∀ (a b : List Wrd), catW (a ++ b) = catW a ++ catW b
  | [], b => by simp [catW]
  | w :: a, b => by simp [catW, catW_app a b, ByteArray.append_assoc]
theorem catW_take (l : List Wrd) (i : Nat) (h : i < l.length) : catW (l.take (i + 1)) = catW (l.take i) ++ ((l.getD i tWrd.z).text ++ (l.getD i tWrd.z).tail) := by
  rw [List.take_succ_eq_append_getElem h, catW_app, List.getD, List.getElem?_eq_getElem h]
  simp [catW]
theorem catW_size (l : List Wrd) (n : Nat) (hw : ∀ w ∈ l, w.text.size ≤ n ∧ w.tail.size ≤ n) : (catW l).size ≤ l.length * (2 * n) := by
  induction l with
  | nil => simp [catW]
  | cons w l ih =>
    have h1 := hw w (by simp)
    have h2 := ih (fun v hv => hw v (by simp [hv]))
    simp only [catW, ByteArray.size_append, List.length_cons, Nat.add_mul, Nat.one_mul]
    omega
theorem catW_takeLe (l : List Wrd) (i : Nat) : (catW (l.take i)).size ≤ (catW l).size := by
  conv => rhs; rw [← List.take_append_drop i l, catW_app, ByteArray.size_append]
  omega
theorem join18_fn (s : ByteArray) (l : List Wrd) (hl : l.length ≤ 1000000000) (hs : s.size + (catW l).size ≤ 1000000000000) : Fn Tryd.prog 18 [.str s, tWrd.L l] (.str (s ++ catW l)) := by
  refine Fn.of Tryd.f18 _ Tryd.func18 rfl (by decide) (by show 2 ≤ _; decide) tbOk 24 rfl fun S w0 gl => ?_
  refine Run.go ?_; (conv => whnf); repeat' (first | ((with_reducible refine Know.mk fun _ => ?_); conv => whnf) | ((with_reducible refine Need.mk ?_ ?_); (first | omega | (dsimp only; omega) | decide | exact bytes_le (by rfl) (by omega) | exact ⟨rfl, by omega, bytes_le (by rfl) (by omega), by omega⟩ | (refine ⟨?_, ?_⟩ <;> (rw [wrap64 (by omega) (by omega)]; omega))); conv => whnf) | ((with_reducible refine Both.mk ?_ ?_) <;> conv => whnf) | ((with_reducible refine Any.mk fun b hb => ?_); conv => whnf) | ((with_reducible refine AskB.dec (fun hb => ?_) (fun hb => ?_)) <;> conv => whnf) | ((with_reducible refine AskB.ndec (fun hb => ?_) (fun hb => ?_)) <;> conv => whnf) | ((with_reducible refine AskB.mk (fun hb => ?_) (fun hb => ?_)) <;> conv => whnf) | ((with_reducible refine Run.drawX rfl (by decide +kernel) ?_); conv => whnf) | ((with_reducible refine Run.drawT rfl (by decide +kernel) ?_); conv => whnf) | ((with_reducible refine Run.drawW rfl (by decide +kernel) ?_); conv => whnf) | fail)
  refine Run.holdBoxNil 5 1 90 5 1 (bytesG .empty) rfl rfl rfl rfl ?_
  refine Run.bldr 66 5 5 90 .nilp .empty (MOle.refl _) (MOle.refl _) ?_
  refine ws5 .nilp .empty s rfl rfl rfl rfl rfl rfl (by simp; omega) (.inl rfl) ?_
  refine Run.go ?_; (conv => whnf); repeat' (first | ((with_reducible refine Know.mk fun _ => ?_); conv => whnf) | ((with_reducible refine Need.mk ?_ ?_); (first | omega | (dsimp only; omega) | decide | exact bytes_le (by rfl) (by omega) | exact ⟨rfl, by omega, bytes_le (by rfl) (by omega), by omega⟩ | (refine ⟨?_, ?_⟩ <;> (rw [wrap64 (by omega) (by omega)]; omega))); conv => whnf) | ((with_reducible refine Both.mk ?_ ?_) <;> conv => whnf) | ((with_reducible refine Any.mk fun b hb => ?_); conv => whnf) | ((with_reducible refine AskB.dec (fun hb => ?_) (fun hb => ?_)) <;> conv => whnf) | ((with_reducible refine AskB.ndec (fun hb => ?_) (fun hb => ?_)) <;> conv => whnf) | ((with_reducible refine AskB.mk (fun hb => ?_) (fun hb => ?_)) <;> conv => whnf) | ((with_reducible refine Run.drawX rfl (by decide +kernel) ?_); conv => whnf) | ((with_reducible refine Run.drawT rfl (by decide +kernel) ?_); conv => whnf) | ((with_reducible refine Run.drawW rfl (by decide +kernel) ?_); conv => whnf) | fail)
  have hT : ∀ i, (s ++ catW (l.take i)).size ≤ 1000000000000 := fun i => by
    have h1 := catW_takeLe l i
    rw [ByteArray.size_append]; omega
  refine Run.loop [5, 10, 11] (fun (i : Nat) => [(12, .int .i64 (i : Int))]) (fun i => [(5, .box 66 [.box 5 0, .row 90]), (90, .row 5 1 (s ++ catW (l.take i)).size (bytesG (s ++ catW (l.take i))))]) (fun i => i ≤ l.length) (fun i => l.length - i) 0 (Nat.zero_le _) ⟨Le.refl _, trivial⟩ ⟨MOle.refl _, ?_, trivial⟩ ?_
  · have : ByteArray.empty ++ s = s ++ catW (l.take 0) := by simp [catW]
    rw [← this]; exact MOle.refl _
  intro i hi IH
  have hw1 : IntKind.i64.wrap ((i : Int) + 1) = ((i + 1 : Nat) : Int) := wrap64 (by omega) (by omega)
  have hTi := hT i
  refine Run.go ?_; (conv => whnf); repeat' (first | ((with_reducible refine Know.mk fun _ => ?_); conv => whnf) | ((with_reducible refine Need.mk ?_ ?_); (first | omega | (dsimp only; omega) | decide | exact bytes_le (by rfl) (by omega) | exact ⟨rfl, by omega, bytes_le (by rfl) (by omega), by omega⟩ | (refine ⟨?_, ?_⟩ <;> (rw [wrap64 (by omega) (by omega)]; omega))); conv => whnf) | ((with_reducible refine Both.mk ?_ ?_) <;> conv => whnf) | ((with_reducible refine Any.mk fun b hb => ?_); conv => whnf) | ((with_reducible refine AskB.dec (fun hb => ?_) (fun hb => ?_)) <;> conv => whnf) | ((with_reducible refine AskB.ndec (fun hb => ?_) (fun hb => ?_)) <;> conv => whnf) | ((with_reducible refine AskB.mk (fun hb => ?_) (fun hb => ?_)) <;> conv => whnf) | ((with_reducible refine Run.drawX rfl (by decide +kernel) ?_); conv => whnf) | ((with_reducible refine Run.drawT rfl (by decide +kernel) ?_); conv => whnf) | ((with_reducible refine Run.drawW rfl (by decide +kernel) ?_); conv => whnf) | fail)
  · have hil : i < l.length := by omega
    have hwi : (l.getD i tWrd.z).text.size + (l.getD i tWrd.z).tail.size ≤ 1000000000000 := by
      have h1 := catW_takeLe l (i + 1)
      rw [catW_take l i hil, ByteArray.size_append, ByteArray.size_append] at h1
      omega
    refine Run.bldr 66 5 5 90 (.box 5 0) (s ++ catW (l.take i)) (MOle.refl _) (MOle.refl _) ?_
    refine ws5 (.box 5 0) _ (l.getD i tWrd.z).text rfl rfl rfl rfl rfl rfl (by omega) (.inr rfl) ?_
    refine Run.tidy [5, 7, 10, 11, 12] [5, 7, 90] ?_; (conv => whnf)
    refine Run.go ?_; (conv => whnf); repeat' (first | ((with_reducible refine Know.mk fun _ => ?_); conv => whnf) | ((with_reducible refine Need.mk ?_ ?_); (first | omega | (dsimp only; omega) | decide | exact bytes_le (by rfl) (by omega) | exact ⟨rfl, by omega, bytes_le (by rfl) (by omega), by omega⟩ | (refine ⟨?_, ?_⟩ <;> (rw [wrap64 (by omega) (by omega)]; omega))); conv => whnf) | ((with_reducible refine Both.mk ?_ ?_) <;> conv => whnf) | ((with_reducible refine Any.mk fun b hb => ?_); conv => whnf) | ((with_reducible refine AskB.dec (fun hb => ?_) (fun hb => ?_)) <;> conv => whnf) | ((with_reducible refine AskB.ndec (fun hb => ?_) (fun hb => ?_)) <;> conv => whnf) | ((with_reducible refine AskB.mk (fun hb => ?_) (fun hb => ?_)) <;> conv => whnf) | ((with_reducible refine Run.drawX rfl (by decide +kernel) ?_); conv => whnf) | ((with_reducible refine Run.drawT rfl (by decide +kernel) ?_); conv => whnf) | ((with_reducible refine Run.drawW rfl (by decide +kernel) ?_); conv => whnf) | fail)
    refine Run.bldr 66 5 5 90 (.box 5 0) (s ++ catW (l.take i) ++ (l.getD i tWrd.z).text) (MOle.refl _) (MOle.refl _) ?_
    refine ws5 (.box 5 0) _ (l.getD i tWrd.z).tail rfl rfl rfl rfl rfl rfl (by rw [ByteArray.size_append]; omega) (.inr rfl) ?_
    refine Run.tidy [5, 10, 11, 12] [5, 90] ?_; (conv => whnf)
    refine Run.go ?_; (conv => whnf); repeat' (first | ((with_reducible refine Know.mk fun _ => ?_); conv => whnf) | ((with_reducible refine Need.mk ?_ ?_); (first | omega | (dsimp only; omega) | decide | exact bytes_le (by rfl) (by omega) | exact ⟨rfl, by omega, bytes_le (by rfl) (by omega), by omega⟩ | (refine ⟨?_, ?_⟩ <;> (rw [wrap64 (by omega) (by omega)]; omega))); conv => whnf) | ((with_reducible refine Both.mk ?_ ?_) <;> conv => whnf) | ((with_reducible refine Any.mk fun b hb => ?_); conv => whnf) | ((with_reducible refine AskB.dec (fun hb => ?_) (fun hb => ?_)) <;> conv => whnf) | ((with_reducible refine AskB.ndec (fun hb => ?_) (fun hb => ?_)) <;> conv => whnf) | ((with_reducible refine AskB.mk (fun hb => ?_) (fun hb => ?_)) <;> conv => whnf) | ((with_reducible refine Run.drawX rfl (by decide +kernel) ?_); conv => whnf) | ((with_reducible refine Run.drawT rfl (by decide +kernel) ?_); conv => whnf) | ((with_reducible refine Run.drawW rfl (by decide +kernel) ?_); conv => whnf) | fail)
    refine Run.to _ _ ?_ ?_ (IH (i + 1) (by omega) (by omega))
    · exact ⟨Le.refl _, Le.refl _, Le.refl _, Le.int hw1, trivial⟩
    · refine ⟨MOle.refl _, ?_, trivial⟩
      rw [catW_take l i hil]
      simp only [← ByteArray.append_assoc]
      exact MOle.refl _
  · have hie : i = l.length := by omega
    subst hie
    refine Run.bldr 66 5 5 90 (.box 5 0) (s ++ catW (l.take l.length)) (MOle.refl _) (MOle.refl _) ?_
    refine bs5 (.box 5 0) _ rfl rfl rfl rfl rfl ?_
    refine Run.go ?_; (conv => whnf); repeat' (first | ((with_reducible refine Know.mk fun _ => ?_); conv => whnf) | ((with_reducible refine Need.mk ?_ ?_); (first | omega | (dsimp only; omega) | decide | exact bytes_le (by rfl) (by omega) | exact ⟨rfl, by omega, bytes_le (by rfl) (by omega), by omega⟩ | (refine ⟨?_, ?_⟩ <;> (rw [wrap64 (by omega) (by omega)]; omega))); conv => whnf) | ((with_reducible refine Both.mk ?_ ?_) <;> conv => whnf) | ((with_reducible refine Any.mk fun b hb => ?_); conv => whnf) | ((with_reducible refine AskB.dec (fun hb => ?_) (fun hb => ?_)) <;> conv => whnf) | ((with_reducible refine AskB.ndec (fun hb => ?_) (fun hb => ?_)) <;> conv => whnf) | ((with_reducible refine AskB.mk (fun hb => ?_) (fun hb => ?_)) <;> conv => whnf) | ((with_reducible refine Run.drawX rfl (by decide +kernel) ?_); conv => whnf) | ((with_reducible refine Run.drawT rfl (by decide +kernel) ?_); conv => whnf) | ((with_reducible refine Run.drawW rfl (by decide +kernel) ?_); conv => whnf) | fail)
    refine Run.leave (ts := [4]) (.inr ⟨_, rfl⟩) rfl Tryd.func18 rfl (Le.str ?_)
    rw [List.take_length]
end Go.Proofs.YtfodjmemdkibpaaDoor.V
