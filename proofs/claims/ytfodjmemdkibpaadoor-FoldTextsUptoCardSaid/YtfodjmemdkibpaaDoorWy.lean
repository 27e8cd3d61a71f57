/-
fold.fold gone through in place: what a rune becomes is written behind what stands in the builder.
-/
import Derived.Test.YtfodjmemdkibpaaDoorWc
import Derived.Test.YtfodjmemdkibpaaDoorWt
import Derived.Test.YtfodjmemdkibpaaDoorWu
import Derived.Test.YtfodjmemdkibpaaDoorWv
import Derived.Test.YtfodjmemdkibpaaDoorWx
namespace Go.Proofs.YtfodjmemdkibpaaDoor.V
open Go Go.Proofs Go.RowKit
set_option linter.unusedVariables false
set_option linter.unusedSimpArgs false
set_option maxRecDepth 100000
set_option maxHeartbeats 4000000
open Go Go.Proofs Go.Proofs.YtfodjmemdkibpaaDoor.V
theorem ws6 {N : Nat} {w0 : World} {S : Nat → Prop} {gl : GlobOk S w0} {f : FuncId} {R : Ending → World → Prop} {ops : Array Oper} {i : Nat} {rest : List Nat} {k : List Item} {env : Env} {h : Heap} {o : Oper} {x y : Operand}
    (p : AV) (t s : ByteArray) (ho : ops.toList[i]? = some o) (hc : calls? o = some (33, [x, y])) (hd : okD N o.dst = true) (hr : ready env ops o = true) (hx : ev (scrubE 900 env) x = .box 6 0) (hy : ev (scrubE 900 env) y = .str s)
    (hs : t.size + s.size ≤ 140737488355328) (hp : p = .nilp ∨ p = .box 6 0)
    (next : Run ⟨Tryd.prog, TB, tbOk, N, w0, S, gl, f, R⟩ (.inRegion ops rest :: k) (putE (envW 90 env) o.dst .u) (bldr 66 5 6 90 (heapW 90 h) (.box 6 0) (t ++ s))) :
    Run ⟨Tryd.prog, TB, tbOk, N, w0, S, gl, f, R⟩ (.inRegion ops (i :: rest) :: k) env (bldr 66 5 6 90 h p t) := by
  refine Run.inline 900 Tryd.f33 _ 19 ho hc Tryd.func33 rfl (by decide) rfl (by show 2 ≤ 19; decide) hd hr (fun a hsz hdf => ?_)
  simp only [List.map, hx, hy]
  have fin : ∀ (E : Env) (H : Heap) (X : AV), (∀ i, E i = scrub 14 (scrub 901 (scrub 900 (env i)))) → (∀ id, Nat.beq id 6 = false → Nat.beq id 90 = false → Nat.beq id 14 = false → Nat.beq id 901 = false → Nat.beq id 900 = false → H id = scrubM 90 (scrubM 14 (scrubM 901 (scrubM 900 (h id))))) →
      MOle (H 6) (.box 66 [.box 6 0, .row 90]) → MOle (H 90) (.row 5 1 (t ++ s).size (bytesG (t ++ s))) → Run ⟨Tryd.prog, TB, tbOk, N, w0, S, gl, f, R⟩ (.inRegion ops rest :: k) (scrubE 90 (putE E o.dst X)) H := by
    intro E H X hE hH h5 h90
    refine Run.weaken (fun i => ?_) (fun id => ?_) next
    · cases hdst : o.dst with
      | none => show Le (scrub 90 (E i)) _; rw [hE]; exact Le.refl _
      | some d =>
        show Le (scrub 90 (upd E d X i)) (upd (envW 90 env) d .u i)
        by_cases e : i = d
        · subst e; rw [upd_same, upd_same]; exact Le.u _
        · rw [upd_other _ _ e, upd_other _ _ e, hE]; exact Le.refl _
    · unfold bldr heapW
      cases e5 : Nat.beq id 6 with
      | true => have := Nat.eq_of_beq_eq_true e5; subst this; exact h5
      | false =>
      cases e90 : Nat.beq id 90 with
      | true => have := Nat.eq_of_beq_eq_true e90; subst this; exact h90
      | false =>
      cases e900 : Nat.beq id 900 with
      | true => simp only [upd, e5, e90, e900, cond_true, cond_false]; exact mole_dead _
      | false =>
      cases e901 : Nat.beq id 901 with
      | true => simp only [upd, e5, e90, e900, e901, cond_true, cond_false]; exact mole_dead _
      | false =>
      cases e14 : Nat.beq id 14 with
      | true => simp only [upd, e5, e90, e900, e901, e14, cond_true, cond_false]; exact mole_dead _
      | false =>
        rw [hH id e5 e90 e14 e901 e900]
        simp only [upd, e5, e90, e900, e901, e14, cond_true, cond_false]
        exact MOle.refl _
  rcases hp with rfl | rfl
  · refine Run.go ?_; (conv => whnf); repeat' (first | ((with_reducible refine Know.mk fun _ => ?_); conv => whnf) | ((with_reducible refine Need.mk ?_ ?_); (first | omega | (dsimp only; omega) | decide | exact bytes_le (by rfl) (by omega) | exact ⟨rfl, by omega, bytes_le (by rfl) (by omega), by omega⟩ | (refine ⟨?_, ?_⟩ <;> (rw [wrap64 (by omega) (by omega)]; omega))); conv => whnf) | ((with_reducible refine Both.mk ?_ ?_) <;> conv => whnf) | ((with_reducible refine Any.mk fun b hb => ?_); conv => whnf) | ((with_reducible refine AskB.dec (fun hb => ?_) (fun hb => ?_)) <;> conv => whnf) | ((with_reducible refine AskB.ndec (fun hb => ?_) (fun hb => ?_)) <;> conv => whnf) | ((with_reducible refine AskB.mk (fun hb => ?_) (fun hb => ?_)) <;> conv => whnf) | ((with_reducible refine Run.drawX rfl (by decide +kernel) ?_); conv => whnf) | ((with_reducible refine Run.drawT rfl (by decide +kernel) ?_); conv => whnf) | ((with_reducible refine Run.drawW rfl (by decide +kernel) ?_); conv => whnf) | fail)
    refine Run.inline 901 Tryd.f50 _ 20 rfl rfl Tryd.func50 rfl (by decide) rfl (by decide) rfl rfl (fun a2 hsz2 hdf2 => ?_)
    refine Run.go ?_; (conv => whnf); repeat' (first | ((with_reducible refine Know.mk fun _ => ?_); conv => whnf) | ((with_reducible refine Need.mk ?_ ?_); (first | omega | (dsimp only; omega) | decide | exact bytes_le (by rfl) (by omega) | exact ⟨rfl, by omega, bytes_le (by rfl) (by omega), by omega⟩ | (refine ⟨?_, ?_⟩ <;> (rw [wrap64 (by omega) (by omega)]; omega))); conv => whnf) | ((with_reducible refine Both.mk ?_ ?_) <;> conv => whnf) | ((with_reducible refine Any.mk fun b hb => ?_); conv => whnf) | ((with_reducible refine AskB.dec (fun hb => ?_) (fun hb => ?_)) <;> conv => whnf) | ((with_reducible refine AskB.ndec (fun hb => ?_) (fun hb => ?_)) <;> conv => whnf) | ((with_reducible refine AskB.mk (fun hb => ?_) (fun hb => ?_)) <;> conv => whnf) | ((with_reducible refine Run.drawX rfl (by decide +kernel) ?_); conv => whnf) | ((with_reducible refine Run.drawT rfl (by decide +kernel) ?_); conv => whnf) | ((with_reducible refine Run.drawW rfl (by decide +kernel) ?_); conv => whnf) | fail)
    refine Run.toUnsafe (id := 6) (l := [.nilp, .row 90]) (e := 66) (t := 66) (src := 63) (dst := 101) (x := .tmp 8) rfl rfl rfl rfl rfl rfl (by decide) (by kernel_rfl) (by kernel_rfl) (j := (Tryd.prog.info? 66).get (by kernel_rfl)) (by kernel_rfl) (by decide +kernel) ?_
    refine Run.noEscape (f := 68) (x := .tmp 9) rfl rfl rfl rfl Tryd.func68 (by kernel_rfl) (by kernel_rfl) (by kernel_rfl) (by kernel_rfl) ?_
    refine Run.fromUnsafe (id := 6) (l := [.nilp, .row 90]) (e := 66) (u := 66) (src := 101) (dst := 63) (x := .tmp 10) rfl rfl rfl rfl rfl rfl (by kernel_rfl) (by kernel_rfl) (j := (Tryd.prog.info? 66).get (by kernel_rfl)) (by kernel_rfl) (by kernel_rfl) ?_
    refine Run.go ?_; (conv => whnf); repeat' (first | ((with_reducible refine Know.mk fun _ => ?_); conv => whnf) | ((with_reducible refine Need.mk ?_ ?_); (first | omega | (dsimp only; omega) | decide | exact bytes_le (by rfl) (by omega) | exact ⟨rfl, by omega, bytes_le (by rfl) (by omega), by omega⟩ | (refine ⟨?_, ?_⟩ <;> (rw [wrap64 (by omega) (by omega)]; omega))); conv => whnf) | ((with_reducible refine Both.mk ?_ ?_) <;> conv => whnf) | ((with_reducible refine Any.mk fun b hb => ?_); conv => whnf) | ((with_reducible refine AskB.dec (fun hb => ?_) (fun hb => ?_)) <;> conv => whnf) | ((with_reducible refine AskB.ndec (fun hb => ?_) (fun hb => ?_)) <;> conv => whnf) | ((with_reducible refine AskB.mk (fun hb => ?_) (fun hb => ?_)) <;> conv => whnf) | ((with_reducible refine Run.drawX rfl (by decide +kernel) ?_); conv => whnf) | ((with_reducible refine Run.drawT rfl (by decide +kernel) ?_); conv => whnf) | ((with_reducible refine Run.drawW rfl (by decide +kernel) ?_); conv => whnf) | fail)
    refine Run.back 901 (ts := []) hsz2 hdf2 (.inl rfl) (by rfl) Tryd.func50 rfl ?_
    refine Run.go ?_; (conv => whnf); repeat' (first | ((with_reducible refine Know.mk fun _ => ?_); conv => whnf) | ((with_reducible refine Need.mk ?_ ?_); (first | omega | (dsimp only; omega) | decide | exact bytes_le (by rfl) (by omega) | exact ⟨rfl, by omega, bytes_le (by rfl) (by omega), by omega⟩ | (refine ⟨?_, ?_⟩ <;> (rw [wrap64 (by omega) (by omega)]; omega))); conv => whnf) | ((with_reducible refine Both.mk ?_ ?_) <;> conv => whnf) | ((with_reducible refine Any.mk fun b hb => ?_); conv => whnf) | ((with_reducible refine AskB.dec (fun hb => ?_) (fun hb => ?_)) <;> conv => whnf) | ((with_reducible refine AskB.ndec (fun hb => ?_) (fun hb => ?_)) <;> conv => whnf) | ((with_reducible refine AskB.mk (fun hb => ?_) (fun hb => ?_)) <;> conv => whnf) | ((with_reducible refine Run.drawX rfl (by decide +kernel) ?_); conv => whnf) | ((with_reducible refine Run.drawT rfl (by decide +kernel) ?_); conv => whnf) | ((with_reducible refine Run.drawW rfl (by decide +kernel) ?_); conv => whnf) | fail)
    refine Run.back 900 (ts := [4, 5]) hsz hdf (.inr ⟨_, rfl⟩) (by rfl) Tryd.func33 rfl ?_
    refine Run.holdBoxRow 6 1 90 14 (by rfl) (by rfl) (by rfl) rfl rfl rfl ?_
    refine fin _ _ _ (fun i => rfl) (fun id e5 e90 e14 e901 e900 => ?_) (MOle.refl _) (bytesG_join 5 t s)
    simp only [upd, scrubH, scrubM, bldr, e5, e90, e14, e901, e900, cond_false]
  · refine Run.go ?_; (conv => whnf); repeat' (first | ((with_reducible refine Know.mk fun _ => ?_); conv => whnf) | ((with_reducible refine Need.mk ?_ ?_); (first | omega | (dsimp only; omega) | decide | exact bytes_le (by rfl) (by omega) | exact ⟨rfl, by omega, bytes_le (by rfl) (by omega), by omega⟩ | (refine ⟨?_, ?_⟩ <;> (rw [wrap64 (by omega) (by omega)]; omega))); conv => whnf) | ((with_reducible refine Both.mk ?_ ?_) <;> conv => whnf) | ((with_reducible refine Any.mk fun b hb => ?_); conv => whnf) | ((with_reducible refine AskB.dec (fun hb => ?_) (fun hb => ?_)) <;> conv => whnf) | ((with_reducible refine AskB.ndec (fun hb => ?_) (fun hb => ?_)) <;> conv => whnf) | ((with_reducible refine AskB.mk (fun hb => ?_) (fun hb => ?_)) <;> conv => whnf) | ((with_reducible refine Run.drawX rfl (by decide +kernel) ?_); conv => whnf) | ((with_reducible refine Run.drawT rfl (by decide +kernel) ?_); conv => whnf) | ((with_reducible refine Run.drawW rfl (by decide +kernel) ?_); conv => whnf) | fail)
    refine Run.inline 901 Tryd.f50 _ 20 rfl rfl Tryd.func50 rfl (by decide) rfl (by decide) rfl rfl (fun a2 hsz2 hdf2 => ?_)
    refine Run.go ?_; (conv => whnf); repeat' (first | ((with_reducible refine Know.mk fun _ => ?_); conv => whnf) | ((with_reducible refine Need.mk ?_ ?_); (first | omega | (dsimp only; omega) | decide | exact bytes_le (by rfl) (by omega) | exact ⟨rfl, by omega, bytes_le (by rfl) (by omega), by omega⟩ | (refine ⟨?_, ?_⟩ <;> (rw [wrap64 (by omega) (by omega)]; omega))); conv => whnf) | ((with_reducible refine Both.mk ?_ ?_) <;> conv => whnf) | ((with_reducible refine Any.mk fun b hb => ?_); conv => whnf) | ((with_reducible refine AskB.dec (fun hb => ?_) (fun hb => ?_)) <;> conv => whnf) | ((with_reducible refine AskB.ndec (fun hb => ?_) (fun hb => ?_)) <;> conv => whnf) | ((with_reducible refine AskB.mk (fun hb => ?_) (fun hb => ?_)) <;> conv => whnf) | ((with_reducible refine Run.drawX rfl (by decide +kernel) ?_); conv => whnf) | ((with_reducible refine Run.drawT rfl (by decide +kernel) ?_); conv => whnf) | ((with_reducible refine Run.drawW rfl (by decide +kernel) ?_); conv => whnf) | fail)
    refine Run.back 901 (ts := []) hsz2 hdf2 (.inl rfl) (by rfl) Tryd.func50 rfl ?_
    refine Run.go ?_; (conv => whnf); repeat' (first | ((with_reducible refine Know.mk fun _ => ?_); conv => whnf) | ((with_reducible refine Need.mk ?_ ?_); (first | omega | (dsimp only; omega) | decide | exact bytes_le (by rfl) (by omega) | exact ⟨rfl, by omega, bytes_le (by rfl) (by omega), by omega⟩ | (refine ⟨?_, ?_⟩ <;> (rw [wrap64 (by omega) (by omega)]; omega))); conv => whnf) | ((with_reducible refine Both.mk ?_ ?_) <;> conv => whnf) | ((with_reducible refine Any.mk fun b hb => ?_); conv => whnf) | ((with_reducible refine AskB.dec (fun hb => ?_) (fun hb => ?_)) <;> conv => whnf) | ((with_reducible refine AskB.ndec (fun hb => ?_) (fun hb => ?_)) <;> conv => whnf) | ((with_reducible refine AskB.mk (fun hb => ?_) (fun hb => ?_)) <;> conv => whnf) | ((with_reducible refine Run.drawX rfl (by decide +kernel) ?_); conv => whnf) | ((with_reducible refine Run.drawT rfl (by decide +kernel) ?_); conv => whnf) | ((with_reducible refine Run.drawW rfl (by decide +kernel) ?_); conv => whnf) | fail)
    refine Run.back 900 (ts := [4, 5]) hsz hdf (.inr ⟨_, rfl⟩) (by rfl) Tryd.func33 rfl ?_
    refine Run.holdBoxRow 6 1 90 14 (by rfl) (by rfl) (by rfl) rfl rfl rfl ?_
    refine fin _ _ _ (fun i => rfl) (fun id e5 e90 e14 e901 e900 => ?_) (MOle.refl _) (bytesG_join 5 t s)
    simp only [upd, scrubH, scrubM, bldr, e5, e90, e14, e901, e900, cond_false]

def appF (f : Nat) (x : Int) : Int := if f = 53 then lowV x else if f = 54 then bareV x else letterV x
def appL (l : List Nat) (x : Int) : Int := l.foldl (fun x f => appF f x) x
def stepV (o x : Int) : Int := appL (stepsF o) x
theorem stepFn {f : Nat} (x : Int) (h : f = 53 ∨ f = 54 ∨ f = 55) : Fn Tryd.prog f [.int .i32 x] (.int .i32 (appF f x)) := by
  rcases h with rfl | rfl | rfl
  · exact lower53_fn x
  · exact unmarked54_fn x
  · exact letter55_fn x
theorem stepsF_mem {o : Int} {f : Nat} (h : f ∈ stepsF o) : f = 53 ∨ f = 54 ∨ f = 55 := by
  unfold stepsF at h
  simp only [List.mem_append] at h
  rcases h with (h | h) | h
  · split at h
    · exact .inl (by simpa using h)
    · cases h
  · split at h
    · exact .inr (.inl (by simpa using h))
    · cases h
  · split at h
    · exact .inr (.inr (by simpa using h))
    · cases h
theorem stepsF_len (o : Int) : (stepsF o).length ≤ 3 := by
  unfold stepsF
  repeat' split
  all_goals decide
theorem appL_take (l : List Nat) (x : Int) (m : Nat) (h : m < l.length) : appL (l.take (m + 1)) x = appF (l.getD m 53) (appL (l.take m) x) := by
  unfold appL
  rw [List.take_succ_eq_append_getElem h, List.foldl_append, List.getD, List.getElem?_eq_getElem h]; rfl
/-- Runes written one behind the other, each as the steps leave it. -/
def catE (o : Int) : List Int → ByteArray
  | [] => .empty
  | x :: r => Utf8.encode (stepV o x) ++ catE o r
theorem catE_app (o : Int) : ∀ a b : List Int, catE o (a ++ b) = catE o a ++ catE o b
  | [], b => by simp [catE]
  | x :: a, b => by simp only [List.cons_append, catE]; rw [catE_app o a b, ByteArray.append_assoc]
theorem catE_take (o : Int) (l : List Int) (j : Nat) (h : j < l.length) : catE o (l.take (j + 1)) = catE o (l.take j) ++ Utf8.encode (stepV o (l.getD j 0)) := by
  rw [List.take_succ_eq_append_getElem h, catE_app, List.getD, List.getElem?_eq_getElem h]; simp [catE]
theorem catE_size (o : Int) : ∀ l : List Int, (catE o l).size ≤ 4 * l.length
  | [] => by simp [catE]
  | x :: r => by
    have h1 := catE_size o r
    have h2 := encode_small (stepV o x)
    simp only [catE, ByteArray.size_append, List.length_cons]; omega
/-- Is a rune left out? -/
def dropV (r o : Int) : Bool := decide ((o / 16 % 2 = 1 ∧ kOf r = 4) ∨ (o / 2 % 2 = 1 ∧ kOf r = 2))
def runesV (r o : Int) : List Int := if isLig r = true ∧ o / 4 % 2 = 1 then runesE (ligB r) 0 else [r]
/-- What a rune becomes. -/
def foldR (r o : Int) : ByteArray := if dropV r o = true then .empty else catE o (runesV r o)
theorem ligB_size (r : Int) : (ligB r).size ≤ 3 := by
  unfold ligB
  repeat' split
  all_goals first | (exact Nat.le_of_ble_eq_true rfl) | skip
  rename_i h
  obtain ⟨k, hk⟩ : ∃ k : Fin 7, k.val = (r - 64256).toNat := ⟨⟨(r - 64256).toNat, by omega⟩, rfl⟩
  rw [← hk]
  clear hk h
  revert k; decide +kernel
theorem runesV_len (r o : Int) : (runesV r o).length ≤ 3 := by
  unfold runesV
  split
  · have := runesE_len (ligB r) 0
    have := ligB_size r
    omega
  · simp
theorem foldR_size (r o : Int) : (foldR r o).size ≤ 12 := by
  unfold foldR
  split
  · exact Nat.zero_le _
  · have := catE_size o (runesV r o)
    have := runesV_len r o
    omega
def clean6 (x : AV) : Prop := scrub 902 x = x ∧ scrub 35 x = x ∧ scrW 90 x = x ∧ ∀ X Y, repl 35 X Y x = x
def cleanL : List (Nat × AV) → Prop
  | [] => True
  | p :: r => clean6 p.2 ∧ cleanL r
theorem cleanL_at : ∀ {l : List (Nat × AV)}, cleanL l → ∀ i, clean6 (lst l i)
  | [], _, i => ⟨rfl, rfl, rfl, fun _ _ => rfl⟩
  | p :: r, h, i => by
    show clean6 (cond (Nat.beq i p.1) p.2 (lst r i))
    cases Nat.beq i p.1 with
    | true => exact h.1
    | false => exact cleanL_at h.2 i
theorem to_next {C : Ctx} {l : List (Nat × AV)} {lh : List (Nat × MO)} {k : List Item} {dst : Option Nat} {E : Env} {X : AV} {H : Heap} (hE : ∀ i, E i = lst l i) (hH : fitsH H lh) (next : Run C k (putE (lst l) dst .u) (lstH lh)) : Run C k (putE E dst X) H := by
  refine Run.weaken (fun i => ?_) (fun id => fitsH_le hH id) next
  cases dst with
  | none => show Le (E i) (lst l i); rw [hE]; exact Le.refl _
  | some d =>
    show Le (upd E d X i) (upd (lst l) d .u i)
    by_cases e : i = d
    · subst e; rw [upd_same, upd_same]; exact Le.u _
    · rw [upd_other _ _ e, upd_other _ _ e, hE]; exact Le.refl _
theorem fold41 {N : Nat} {w0 : World} {S : Nat → Prop} {gl : GlobOk S w0} {f : FuncId} {R : Ending → World → Prop} {ops : Array Oper} {i : Nat} {rest : List Nat} {k : List Item} {o : Oper} {x0 x1 x2 x3 : Operand}
    (l : List (Nat × AV)) (p : AV) (t : ByteArray) (r opt : Int) (ho : ops.toList[i]? = some o) (hc : calls? o = some (41, [x0, x1, x2, x3])) (hd : okD N o.dst = true) (hr : ready (lst l) ops o = true)
    (hx0 : ev (lst l) x0 = .box 6 0) (hx1 : ev (lst l) x1 = .int .i32 r) (hx2 : ev (lst l) x2 = .int .i64 opt) (hx3 : ev (lst l) x3 = tF.L (stepsF opt)) (hl : cleanL l) (hs : t.size ≤ 100000000000) (hp : p = .nilp ∨ p = .box 6 0) (h0 : 0 ≤ opt) (h1 : opt ≤ 31)
    (next : ∀ p', (p' = .nilp ∨ p' = .box 6 0) → Run ⟨Tryd.prog, TB, tbOk, N, w0, S, gl, f, R⟩ (.inRegion ops rest :: k) (putE (lst l) o.dst .u) (lstH [(6, .box 66 [p', .row 90]), (90, .row 5 1 (t ++ foldR r opt).size (bytesG (t ++ foldR r opt)))])) :
    Run ⟨Tryd.prog, TB, tbOk, N, w0, S, gl, f, R⟩ (.inRegion ops (i :: rest) :: k) (lst l) (lstH [(6, .box 66 [p, .row 90]), (90, .row 5 1 t.size (bytesG t))]) := by
  have hE : scrubE 902 (lst l) = lst l := funext fun i => (cleanL_at hl i).1
  obtain ⟨kk, rfl⟩ : ∃ k : Fin 32, (k.val : Int) = opt := ⟨⟨opt.toNat, by omega⟩, by simp only []; omega⟩
  obtain ⟨e1, e2, e4, e8, e16⟩ := bits32 kk
  refine Run.inline 902 Tryd.f41 _ 70 ho hc Tryd.func41 rfl (by decide) rfl (by show 4 ≤ 70; decide) hd hr (fun a hsz hdf => ?_)
  rw [hE]
  simp only [List.map, hx0, hx1, hx2, hx3]
  refine Run.to [(0, .box 6 0), (1, .int .i32 r), (2, .int .i64 kk.val), (3, tF.L (stepsF kk.val))] [(6, .box 66 [p, .row 90]), (90, .row 5 1 t.size (bytesG t)), (902, .frame a.tmps (lst l))] ⟨Le.refl _, Le.refl _, Le.refl _, Le.refl _, trivial⟩ ⟨by rcases hp with rfl | rfl <;> exact MOle.refl _, MOle.refl _, MOle.refl _, trivial⟩ ?_
  have hfr : MOle (.frame a.tmps (fun i => scrub 35 (lst l i))) (.frame a.tmps (lst l)) := ⟨rfl, fun i => by show Le (scrub 35 (lst l i)) _; rw [(cleanL_at hl i).2.1]; exact Le.refl _⟩
  have hbx : ∀ X Y, MOle (.box 66 [repl 35 X Y p, .row 90]) (.box 66 [p, .row 90]) := fun X Y => by rcases hp with rfl | rfl <;> exact MOle.refl _
  have hrp : ∀ X Y, MOle (.frame a.tmps (fun i => repl 35 X Y (lst l i))) (.frame a.tmps (lst l)) := fun X Y => ⟨rfl, fun i => by show Le (repl 35 X Y (lst l i)) _; rw [(cleanL_at hl i).2.2.2]; exact Le.refl _⟩
  have hp35 : scrub 35 p = p := by rcases hp with rfl | rfl <;> rfl
  apply Run.cutAt (A := fun CC kk' => dropV r kk.val = false → Run CC kk' (lst [(0, .box 6 0), (2, .int .i64 kk.val), (3, tF.L (stepsF kk.val)), (9, .row 35), (37, .int .i32 r)]) (lstH [(6, .box 66 [p, .row 90]), (90, .row 5 1 t.size (bytesG t)), (902, .frame a.tmps (lst l)), (35, tRn.R 21 [r])]))
  · intro HA
    refine Run.go ?_; (conv => whnf); repeat' (first | ((with_reducible refine Know.mk fun _ => ?_); conv => whnf) | ((with_reducible refine Need.mk ?_ ?_); (first | omega | (dsimp only; omega) | decide | exact bytes_le (by rfl) (by omega) | exact ⟨rfl, by omega, bytes_le (by rfl) (by omega), by omega⟩ | (refine ⟨?_, ?_⟩ <;> (rw [wrap64 (by omega) (by omega)]; omega))); conv => whnf) | ((with_reducible refine Both.mk ?_ ?_) <;> conv => whnf) | ((with_reducible refine Any.mk fun b hb => ?_); conv => whnf) | ((with_reducible refine AskB.dec (fun hb => ?_) (fun hb => ?_)) <;> conv => whnf) | ((with_reducible refine AskB.ndec (fun hb => ?_) (fun hb => ?_)) <;> conv => whnf) | ((with_reducible refine AskB.mk (fun hb => ?_) (fun hb => ?_)) <;> conv => whnf) | ((with_reducible refine Run.drawX rfl (by decide +kernel) ?_); conv => whnf) | ((with_reducible refine Run.drawT rfl (by decide +kernel) ?_); conv => whnf) | ((with_reducible refine Run.drawW rfl (by decide +kernel) ?_); conv => whnf) | fail)
    refine Run.callBX (of_fn r) rfl rfl ⟨Le.refl _, trivial⟩ rfl rfl rfl ?_
    (conv => whnf); repeat' (first | ((with_reducible refine Know.mk fun _ => ?_); conv => whnf) | ((with_reducible refine Need.mk ?_ ?_); (first | omega | (dsimp only; omega) | decide | exact bytes_le (by rfl) (by omega) | exact ⟨rfl, by omega, bytes_le (by rfl) (by omega), by omega⟩ | (refine ⟨?_, ?_⟩ <;> (rw [wrap64 (by omega) (by omega)]; omega))); conv => whnf) | ((with_reducible refine Both.mk ?_ ?_) <;> conv => whnf) | ((with_reducible refine Any.mk fun b hb => ?_); conv => whnf) | ((with_reducible refine AskB.dec (fun hb => ?_) (fun hb => ?_)) <;> conv => whnf) | ((with_reducible refine AskB.ndec (fun hb => ?_) (fun hb => ?_)) <;> conv => whnf) | ((with_reducible refine AskB.mk (fun hb => ?_) (fun hb => ?_)) <;> conv => whnf) | ((with_reducible refine Run.drawX rfl (by decide +kernel) ?_); conv => whnf) | ((with_reducible refine Run.drawT rfl (by decide +kernel) ?_); conv => whnf) | ((with_reducible refine Run.drawW rfl (by decide +kernel) ?_); conv => whnf) | fail)
    all_goals first
      | (refine Run.back 902 (ts := []) hsz hdf (.inr ⟨_, rfl⟩) (by rfl) Tryd.func41 rfl ?_
         have hemp : t ++ foldR r kk.val = t := by
           unfold foldR
           rw [if_pos (show dropV r kk.val = true from decide_eq_true (by omega))]
           exact ByteArray.append_empty
         rw [hemp] at next
         refine to_next (fun i => rfl) ?_ (next p hp)
         exact ⟨MOle.refl _, MOle.refl _, trivial⟩)
      | (refine Run.to _ _ ?_ ?_ (HA (decide_eq_false (by omega)))
         · exact ⟨Le.refl _, Le.refl _, Le.refl _, Le.refl _, Le.refl _, trivial⟩
         · refine ⟨?_, MOle.refl _, hfr, ⟨rfl, rfl, rfl, fun i j hi hj => ?_⟩, trivial⟩
           · show MOle (.box 66 [scrub 35 p, .row 90]) _
             rw [hp35]; exact MOle.refl _
           · obtain rfl : i = 0 := by have : i < 1 := hi; omega
             obtain rfl : j = 0 := by have : j < 1 := hj; omega
             exact Le.refl _)
  intro hdrop
  apply Run.cutAt (A := fun CC kk' => Run CC kk' (lst [(0, .box 6 0), (3, tF.L (stepsF kk.val)), (49, tRn.L (runesV r kk.val)), (50, .int .i64 (runesV r kk.val).length), (51, .int .i64 0)]) (lstH [(6, .box 66 [p, .row 90]), (90, .row 5 1 t.size (bytesG t)), (902, .frame a.tmps (lst l))]))
  · intro HB
    refine Run.callBX (ligature59_fn r) rfl rfl ⟨Le.refl _, trivial⟩ rfl rfl rfl ?_
    (conv => whnf); repeat' (first | ((with_reducible refine Know.mk fun _ => ?_); conv => whnf) | ((with_reducible refine Need.mk ?_ ?_); (first | omega | (dsimp only; omega) | decide | exact bytes_le (by rfl) (by omega) | exact ⟨rfl, by omega, bytes_le (by rfl) (by omega), by omega⟩ | (refine ⟨?_, ?_⟩ <;> (rw [wrap64 (by omega) (by omega)]; omega))); conv => whnf) | ((with_reducible refine Both.mk ?_ ?_) <;> conv => whnf) | ((with_reducible refine Any.mk fun b hb => ?_); conv => whnf) | ((with_reducible refine AskB.dec (fun hb => ?_) (fun hb => ?_)) <;> conv => whnf) | ((with_reducible refine AskB.ndec (fun hb => ?_) (fun hb => ?_)) <;> conv => whnf) | ((with_reducible refine AskB.mk (fun hb => ?_) (fun hb => ?_)) <;> conv => whnf) | ((with_reducible refine Run.drawX rfl (by decide +kernel) ?_); conv => whnf) | ((with_reducible refine Run.drawT rfl (by decide +kernel) ?_); conv => whnf) | ((with_reducible refine Run.drawW rfl (by decide +kernel) ?_); conv => whnf) | fail)
    case _ =>
      have hrv : runesV r kk.val = [r] := if_neg (fun h => by omega)
      rw [hrv] at HB
      refine Run.freeze 35 rfl ?_
      refine Run.to _ _ ?_ ?_ HB
      · exact ⟨Le.refl _, Le.refl _, Le.refl _, Le.refl _, Le.refl _, trivial⟩
      · exact ⟨hbx _ _, MOle.refl _, hrp _ _, trivial⟩
    case _ =>
      have hrv : runesV r kk.val = runesE (ligB r) 0 := if_pos (by constructor <;> first | assumption | omega)
      rw [hrv] at HB
      refine Run.toRunes (e := 21) (ligB r) rfl rfl rfl rfl rfl (by have := ligB_size r; omega) (by kernel_rfl) (by kernel_rfl) (by kernel_rfl) ?_
      refine Run.go ?_; (conv => whnf); repeat' (first | ((with_reducible refine Know.mk fun _ => ?_); conv => whnf) | ((with_reducible refine Need.mk ?_ ?_); (first | omega | (dsimp only; omega) | decide | exact bytes_le (by rfl) (by omega) | exact ⟨rfl, by omega, bytes_le (by rfl) (by omega), by omega⟩ | (refine ⟨?_, ?_⟩ <;> (rw [wrap64 (by omega) (by omega)]; omega))); conv => whnf) | ((with_reducible refine Both.mk ?_ ?_) <;> conv => whnf) | ((with_reducible refine Any.mk fun b hb => ?_); conv => whnf) | ((with_reducible refine AskB.dec (fun hb => ?_) (fun hb => ?_)) <;> conv => whnf) | ((with_reducible refine AskB.ndec (fun hb => ?_) (fun hb => ?_)) <;> conv => whnf) | ((with_reducible refine AskB.mk (fun hb => ?_) (fun hb => ?_)) <;> conv => whnf) | ((with_reducible refine Run.drawX rfl (by decide +kernel) ?_); conv => whnf) | ((with_reducible refine Run.drawT rfl (by decide +kernel) ?_); conv => whnf) | ((with_reducible refine Run.drawW rfl (by decide +kernel) ?_); conv => whnf) | fail)
      refine Run.to _ _ ?_ ?_ HB
      · exact ⟨Le.refl _, Le.refl _, Le.refl _, Le.refl _, Le.refl _, trivial⟩
      · exact ⟨MOle.refl _, MOle.refl _, MOle.refl _, trivial⟩
    case _ =>
      have hrv : runesV r kk.val = [r] := if_neg (fun h => by rw [hb] at h; exact Bool.noConfusion h.1)
      rw [hrv] at HB
      refine Run.freeze 35 rfl ?_
      refine Run.to _ _ ?_ ?_ HB
      · exact ⟨Le.refl _, Le.refl _, Le.refl _, Le.refl _, Le.refl _, trivial⟩
      · exact ⟨hbx _ _, MOle.refl _, hrp _ _, trivial⟩
  have hlen := runesV_len r kk.val
  have hfold : foldR r kk.val = catE kk.val (runesV r kk.val) := by unfold foldR; rw [hdrop]; rfl
  rw [hfold] at next
  generalize runesV r kk.val = rs at hlen next ⊢
  have hT : ∀ j, (t ++ catE kk.val (rs.take j)).size ≤ 100000000012 := fun j => by
    have h1 := catE_size kk.val (rs.take j)
    have h2 : (rs.take j).length ≤ 3 := by rw [List.length_take]; omega
    rw [ByteArray.size_append]; omega
  refine Run.loop [0, 3, 49, 50] (fun (a : Nat × AV) => [(51, .int .i64 (a.1 : Int))]) (fun b => [(6, .box 66 [b.2, .row 90]), (90, .row 5 1 (t ++ catE kk.val (rs.take b.1)).size (bytesG (t ++ catE kk.val (rs.take b.1)))), (902, .frame a.tmps (lst l))]) (fun a => a.1 ≤ rs.length ∧ (a.2 = .nilp ∨ a.2 = .box 6 0)) (fun a => rs.length - a.1) (0, p) ⟨Nat.zero_le _, hp⟩ ⟨Le.refl _, trivial⟩ ⟨MOle.refl _, ?_, MOle.refl _, trivial⟩ ?_
  · simp only [List.take_zero, catE]
    rw [ByteArray.append_empty]; exact MOle.refl _
  have hwf : MOle (.frame a.tmps (fun i => scrW 90 (lst l i))) (.frame a.tmps (lst l)) := ⟨rfl, fun i => by show Le (scrW 90 (lst l i)) _; rw [(cleanL_at hl i).2.2.1]; exact Le.refl _⟩
  have hfl := stepsF_len kk.val
  have hfm : ∀ m, m < (stepsF kk.val).length → (stepsF kk.val).getD m 53 = 53 ∨ (stepsF kk.val).getD m 53 = 54 ∨ (stepsF kk.val).getD m 53 = 55 := fun m hm => stepsF_mem (by rw [List.getD, List.getElem?_eq_getElem hm]; exact List.getElem_mem hm)
  have hsv : ∀ x, stepV kk.val x = appL ((stepsF kk.val).take (stepsF kk.val).length) x := fun x => by rw [List.take_length]; rfl
  intro ⟨j, p2⟩ ⟨hj, hp2⟩ IH
  simp only [] at hj hp2 ⊢
  have hwj : IntKind.i64.wrap ((j : Int) + 1) = ((j + 1 : Nat) : Int) := wrap64 (by omega) (by omega)
  have hTj := hT j
  refine Run.go ?_; (conv => whnf); repeat' (first | ((with_reducible refine Know.mk fun _ => ?_); conv => whnf) | ((with_reducible refine Need.mk ?_ ?_); (first | omega | (dsimp only; omega) | decide | exact bytes_le (by rfl) (by omega) | exact ⟨rfl, by omega, bytes_le (by rfl) (by omega), by omega⟩ | (refine ⟨?_, ?_⟩ <;> (rw [wrap64 (by omega) (by omega)]; omega))); conv => whnf) | ((with_reducible refine Both.mk ?_ ?_) <;> conv => whnf) | ((with_reducible refine Any.mk fun b hb => ?_); conv => whnf) | ((with_reducible refine AskB.dec (fun hb => ?_) (fun hb => ?_)) <;> conv => whnf) | ((with_reducible refine AskB.ndec (fun hb => ?_) (fun hb => ?_)) <;> conv => whnf) | ((with_reducible refine AskB.mk (fun hb => ?_) (fun hb => ?_)) <;> conv => whnf) | ((with_reducible refine Run.drawX rfl (by decide +kernel) ?_); conv => whnf) | ((with_reducible refine Run.drawT rfl (by decide +kernel) ?_); conv => whnf) | ((with_reducible refine Run.drawW rfl (by decide +kernel) ?_); conv => whnf) | fail)
  · have hjl : j < rs.length := by omega
    refine Run.loop [0, 3, 49, 50, 51, 55, 56] (fun (m : Nat) => [(13, .int .i32 (appL ((stepsF kk.val).take m) (rs.getD j 0))), (57, .int .i64 m)]) (fun _ => [(6, .box 66 [p2, .row 90]), (90, .row 5 1 (t ++ catE kk.val (rs.take j)).size (bytesG (t ++ catE kk.val (rs.take j)))), (902, .frame a.tmps (lst l))]) (fun m => m ≤ (stepsF kk.val).length) (fun m => (stepsF kk.val).length - m) 0 (Nat.zero_le _) ⟨Le.refl _, Le.refl _, trivial⟩ ⟨MOle.refl _, MOle.refl _, MOle.refl _, trivial⟩ ?_
    intro m hm IHm
    have hwm : IntKind.i64.wrap ((m : Int) + 1) = ((m + 1 : Nat) : Int) := wrap64 (by omega) (by omega)
    refine Run.go ?_; (conv => whnf); repeat' (first | ((with_reducible refine Know.mk fun _ => ?_); conv => whnf) | ((with_reducible refine Need.mk ?_ ?_); (first | omega | (dsimp only; omega) | decide | exact bytes_le (by rfl) (by omega) | exact ⟨rfl, by omega, bytes_le (by rfl) (by omega), by omega⟩ | (refine ⟨?_, ?_⟩ <;> (rw [wrap64 (by omega) (by omega)]; omega))); conv => whnf) | ((with_reducible refine Both.mk ?_ ?_) <;> conv => whnf) | ((with_reducible refine Any.mk fun b hb => ?_); conv => whnf) | ((with_reducible refine AskB.dec (fun hb => ?_) (fun hb => ?_)) <;> conv => whnf) | ((with_reducible refine AskB.ndec (fun hb => ?_) (fun hb => ?_)) <;> conv => whnf) | ((with_reducible refine AskB.mk (fun hb => ?_) (fun hb => ?_)) <;> conv => whnf) | ((with_reducible refine Run.drawX rfl (by decide +kernel) ?_); conv => whnf) | ((with_reducible refine Run.drawT rfl (by decide +kernel) ?_); conv => whnf) | ((with_reducible refine Run.drawW rfl (by decide +kernel) ?_); conv => whnf) | fail)
    · have hml : m < (stepsF kk.val).length := by omega
      refine Run.callV (stepFn (appL ((stepsF kk.val).take m) (rs.getD j 0)) (hfm m hml)) rfl rfl rfl rfl ⟨Le.refl _, trivial⟩ rfl rfl rfl ?_
      refine Run.go ?_; (conv => whnf); repeat' (first | ((with_reducible refine Know.mk fun _ => ?_); conv => whnf) | ((with_reducible refine Need.mk ?_ ?_); (first | omega | (dsimp only; omega) | decide | exact bytes_le (by rfl) (by omega) | exact ⟨rfl, by omega, bytes_le (by rfl) (by omega), by omega⟩ | (refine ⟨?_, ?_⟩ <;> (rw [wrap64 (by omega) (by omega)]; omega))); conv => whnf) | ((with_reducible refine Both.mk ?_ ?_) <;> conv => whnf) | ((with_reducible refine Any.mk fun b hb => ?_); conv => whnf) | ((with_reducible refine AskB.dec (fun hb => ?_) (fun hb => ?_)) <;> conv => whnf) | ((with_reducible refine AskB.ndec (fun hb => ?_) (fun hb => ?_)) <;> conv => whnf) | ((with_reducible refine AskB.mk (fun hb => ?_) (fun hb => ?_)) <;> conv => whnf) | ((with_reducible refine Run.drawX rfl (by decide +kernel) ?_); conv => whnf) | ((with_reducible refine Run.drawT rfl (by decide +kernel) ?_); conv => whnf) | ((with_reducible refine Run.drawW rfl (by decide +kernel) ?_); conv => whnf) | fail)
      refine Run.to _ _ ?_ ?_ (IHm (m + 1) (by omega) (by omega))
      · exact ⟨Le.refl _, Le.refl _, Le.refl _, Le.refl _, Le.refl _, Le.refl _, Le.refl _, Le.int (appL_take _ _ m hml).symm, Le.int hwm, trivial⟩
      · exact ⟨MOle.refl _, MOle.refl _, MOle.refl _, trivial⟩
    · obtain rfl : m = (stepsF kk.val).length := by omega
      refine Run.bldr 66 5 6 90 p2 (t ++ catE kk.val (rs.take j)) (MOle.refl _) (MOle.refl _) ?_
      refine ws6 p2 _ (Utf8.encode (stepV kk.val (rs.getD j 0))) rfl rfl rfl rfl rfl ?_ ?_ hp2 ?_
      · rw [hsv]; rfl
      · have := encode_small (stepV kk.val (rs.getD j 0)); omega
      refine Run.go ?_; (conv => whnf); repeat' (first | ((with_reducible refine Know.mk fun _ => ?_); conv => whnf) | ((with_reducible refine Need.mk ?_ ?_); (first | omega | (dsimp only; omega) | decide | exact bytes_le (by rfl) (by omega) | exact ⟨rfl, by omega, bytes_le (by rfl) (by omega), by omega⟩ | (refine ⟨?_, ?_⟩ <;> (rw [wrap64 (by omega) (by omega)]; omega))); conv => whnf) | ((with_reducible refine Both.mk ?_ ?_) <;> conv => whnf) | ((with_reducible refine Any.mk fun b hb => ?_); conv => whnf) | ((with_reducible refine AskB.dec (fun hb => ?_) (fun hb => ?_)) <;> conv => whnf) | ((with_reducible refine AskB.ndec (fun hb => ?_) (fun hb => ?_)) <;> conv => whnf) | ((with_reducible refine AskB.mk (fun hb => ?_) (fun hb => ?_)) <;> conv => whnf) | ((with_reducible refine Run.drawX rfl (by decide +kernel) ?_); conv => whnf) | ((with_reducible refine Run.drawT rfl (by decide +kernel) ?_); conv => whnf) | ((with_reducible refine Run.drawW rfl (by decide +kernel) ?_); conv => whnf) | fail)
      refine Run.to _ _ ?_ ?_ (IH (j + 1, .box 6 0) (by simp only []; omega) ⟨by simp only []; omega, .inr rfl⟩)
      · exact ⟨Le.refl _, Le.refl _, Le.refl _, Le.refl _, Le.int hwj, trivial⟩
      · refine ⟨MOle.refl _, ?_, hwf, trivial⟩
        simp only []
        rw [catE_take _ _ _ hjl, ← ByteArray.append_assoc]
        exact MOle.refl _
  · obtain rfl : j = rs.length := by omega
    rw [List.take_length]
    refine Run.back 902 (ts := []) hsz hdf (.inl rfl) (by rfl) Tryd.func41 rfl ?_
    refine to_next (fun i => rfl) ?_ (next p2 hp2)
    exact ⟨MOle.refl _, MOle.refl _, trivial⟩
end Go.Proofs.YtfodjmemdkibpaaDoor.V
