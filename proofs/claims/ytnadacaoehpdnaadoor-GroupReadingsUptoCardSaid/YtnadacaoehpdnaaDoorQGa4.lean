/-
The texts BWy, BWz, BXa, BRx, BXe, BXf, BXg, BXh, BGa, BTb, BTc, BXq, BTd, BGb, of each what the law needs.
-/
import Derived.Test.YtnadacaoehpdnaaDoorQGa3
import Derived.Lib.MapLaws
import Derived.Lib.TrimUEq
namespace Go.Proofs.YtnadacaoehpdnaaDoor.V
set_option linter.unusedVariables false
set_option linter.unusedSimpArgs false
open Go Go.Proofs Go.RowKit
set_option maxRecDepth 100000
set_option maxHeartbeats 4000000
open Go Go.Proofs Go.Proofs.YtnadacaoehpdnaaDoor.V
theorem ws6 {N : Nat} {w0 : World} {S : Nat → Prop} {gl : GlobOk S w0} {f : FuncId} {R : Ending → World → Prop} {ops : Array Oper} {i : Nat} {rest : List Nat} {k : List Item} {env : Env} {h : Heap} {o : Oper} {x y : Operand}
    (p : AV) (t s : ByteArray) (ho : ops.toList[i]? = some o) (hc : calls? o = some (72, [x, y])) (hd : okD N o.dst = true) (hr : ready env ops o = true) (hx : ev (scrubE 900 env) x = .box 6 0) (hy : ev (scrubE 900 env) y = .str s)
    (hs : t.size + s.size ≤ 140737488355328) (hp : p = .nilp ∨ p = .box 6 0)
    (next : Run ⟨Tryd.prog, TB, tbOk, N, w0, S, gl, f, R⟩ (.inRegion ops rest :: k) (putE (envW 90 env) o.dst .u) (bldr 95 5 6 90 (heapW 90 h) (.box 6 0) (t ++ s))) :
    Run ⟨Tryd.prog, TB, tbOk, N, w0, S, gl, f, R⟩ (.inRegion ops (i :: rest) :: k) env (bldr 95 5 6 90 h p t) := by
  refine Run.inline 900 Tryd.f72 _ 19 ho hc Tryd.func72 rfl (by decide) rfl (by show 2 ≤ 19; decide) hd hr (fun a hsz hdf => ?_)
  simp only [List.map, hx, hy]
  have fin : ∀ (E : Env) (H : Heap) (X : AV), (∀ i, E i = scrub 14 (scrub 901 (scrub 900 (env i)))) → (∀ id, Nat.beq id 6 = false → Nat.beq id 90 = false → Nat.beq id 14 = false → Nat.beq id 901 = false → Nat.beq id 900 = false → H id = scrubM 90 (scrubM 14 (scrubM 901 (scrubM 900 (h id))))) →
      MOle (H 6) (.box 95 [.box 6 0, .row 90]) → MOle (H 90) (.row 5 1 (t ++ s).size (bytesG (t ++ s))) → Run ⟨Tryd.prog, TB, tbOk, N, w0, S, gl, f, R⟩ (.inRegion ops rest :: k) (scrubE 90 (putE E o.dst X)) H := by
    intro E H X hE hH h5 h90
    refine Run.weaken (fun i => ?_) (fun id => ?_) next
    · cases hdst : o.dst with
      | none => show Le (scrub 90 (E i)) _; rw [hE]; exact Le.refl _
      | some d =>
        show Le (scrub 90 (upd E d X i)) (upd (envW 90 env) d .u i)
        by_cases e : i = d
        · subst e; rw [upd_same, upd_same]; exact Le.u _
        · rw [upd_other _ _ e, upd_other _ _ e, hE]; exact Le.refl _
    · unfold bldr heapW
      cases e5 : Nat.beq id 6 with
      | true => have := Nat.eq_of_beq_eq_true e5; subst this; exact h5
      | false =>
      cases e90 : Nat.beq id 90 with
      | true => have := Nat.eq_of_beq_eq_true e90; subst this; exact h90
      | false =>
      cases e900 : Nat.beq id 900 with
      | true => simp only [upd, e5, e90, e900, cond_true, cond_false]; exact mole_dead _
      | false =>
      cases e901 : Nat.beq id 901 with
      | true => simp only [upd, e5, e90, e900, e901, cond_true, cond_false]; exact mole_dead _
      | false =>
      cases e14 : Nat.beq id 14 with
      | true => simp only [upd, e5, e90, e900, e901, e14, cond_true, cond_false]; exact mole_dead _
      | false =>
        rw [hH id e5 e90 e14 e901 e900]
        simp only [upd, e5, e90, e900, e901, e14, cond_true, cond_false]
        exact MOle.refl _
  rcases hp with rfl | rfl
  · refine Run.go ?_; (conv => whnf); repeat' (first | ((with_reducible refine Know.mk fun _ => ?_); conv => whnf) | ((with_reducible refine Need.mk ?_ ?_); (first | omega | (dsimp only; omega) | decide | exact bytes_le (by rfl) (by omega) | exact ⟨rfl, by omega, bytes_le (by rfl) (by omega), by omega⟩ | (refine ⟨?_, ?_⟩ <;> (rw [wrap64 (by omega) (by omega)]; omega))); conv => whnf) | ((with_reducible first | refine Both.mk ?_ ?_ | refine Any.mk fun b hb => ?_ | refine AskB.dec (fun hb => ?_) (fun hb => ?_) | refine AskB.ndec (fun hb => ?_) (fun hb => ?_) | refine AskB.mk (fun hb => ?_) (fun hb => ?_)) <;> conv => whnf) | ((with_reducible first | refine Run.drawX rfl (by decide +kernel) ?_ | refine Run.drawT rfl (by decide +kernel) ?_ | refine Run.drawW rfl (by decide +kernel) ?_); conv => whnf) | fail)
    refine Run.inline 901 Tryd.f61 _ 20 rfl rfl Tryd.func61 rfl (by decide) rfl (by decide) rfl rfl (fun a2 hsz2 hdf2 => ?_)
    refine Run.go ?_; (conv => whnf); repeat' (first | ((with_reducible refine Know.mk fun _ => ?_); conv => whnf) | ((with_reducible refine Need.mk ?_ ?_); (first | omega | (dsimp only; omega) | decide | exact bytes_le (by rfl) (by omega) | exact ⟨rfl, by omega, bytes_le (by rfl) (by omega), by omega⟩ | (refine ⟨?_, ?_⟩ <;> (rw [wrap64 (by omega) (by omega)]; omega))); conv => whnf) | ((with_reducible first | refine Both.mk ?_ ?_ | refine Any.mk fun b hb => ?_ | refine AskB.dec (fun hb => ?_) (fun hb => ?_) | refine AskB.ndec (fun hb => ?_) (fun hb => ?_) | refine AskB.mk (fun hb => ?_) (fun hb => ?_)) <;> conv => whnf) | ((with_reducible first | refine Run.drawX rfl (by decide +kernel) ?_ | refine Run.drawT rfl (by decide +kernel) ?_ | refine Run.drawW rfl (by decide +kernel) ?_); conv => whnf) | fail)
    refine Run.toUnsafe (id := 6) (l := [.nilp, .row 90]) (e := 95) (t := 95) (src := 92) (dst := 136) (x := .tmp 8) rfl rfl rfl rfl rfl rfl (by decide) (by kernel_rfl) (by kernel_rfl) (j := (Tryd.prog.info? 95).get (by kernel_rfl)) (by kernel_rfl) (by decide +kernel) ?_
    refine Run.noEscape (f := 79) (x := .tmp 9) rfl rfl rfl rfl Tryd.func79 (by kernel_rfl) (by kernel_rfl) (by kernel_rfl) (by kernel_rfl) ?_
    refine Run.fromUnsafe (id := 6) (l := [.nilp, .row 90]) (e := 95) (u := 95) (src := 136) (dst := 92) (x := .tmp 10) rfl rfl rfl rfl rfl rfl (by kernel_rfl) (by kernel_rfl) (j := (Tryd.prog.info? 95).get (by kernel_rfl)) (by kernel_rfl) (by kernel_rfl) ?_
    refine Run.go ?_; (conv => whnf); repeat' (first | ((with_reducible refine Know.mk fun _ => ?_); conv => whnf) | ((with_reducible refine Need.mk ?_ ?_); (first | omega | (dsimp only; omega) | decide | exact bytes_le (by rfl) (by omega) | exact ⟨rfl, by omega, bytes_le (by rfl) (by omega), by omega⟩ | (refine ⟨?_, ?_⟩ <;> (rw [wrap64 (by omega) (by omega)]; omega))); conv => whnf) | ((with_reducible first | refine Both.mk ?_ ?_ | refine Any.mk fun b hb => ?_ | refine AskB.dec (fun hb => ?_) (fun hb => ?_) | refine AskB.ndec (fun hb => ?_) (fun hb => ?_) | refine AskB.mk (fun hb => ?_) (fun hb => ?_)) <;> conv => whnf) | ((with_reducible first | refine Run.drawX rfl (by decide +kernel) ?_ | refine Run.drawT rfl (by decide +kernel) ?_ | refine Run.drawW rfl (by decide +kernel) ?_); conv => whnf) | fail)
    refine Run.back 901 (ts := []) hsz2 hdf2 (.inl rfl) (by rfl) Tryd.func61 rfl ?_
    refine Run.go ?_; (conv => whnf); repeat' (first | ((with_reducible refine Know.mk fun _ => ?_); conv => whnf) | ((with_reducible refine Need.mk ?_ ?_); (first | omega | (dsimp only; omega) | decide | exact bytes_le (by rfl) (by omega) | exact ⟨rfl, by omega, bytes_le (by rfl) (by omega), by omega⟩ | (refine ⟨?_, ?_⟩ <;> (rw [wrap64 (by omega) (by omega)]; omega))); conv => whnf) | ((with_reducible first | refine Both.mk ?_ ?_ | refine Any.mk fun b hb => ?_ | refine AskB.dec (fun hb => ?_) (fun hb => ?_) | refine AskB.ndec (fun hb => ?_) (fun hb => ?_) | refine AskB.mk (fun hb => ?_) (fun hb => ?_)) <;> conv => whnf) | ((with_reducible first | refine Run.drawX rfl (by decide +kernel) ?_ | refine Run.drawT rfl (by decide +kernel) ?_ | refine Run.drawW rfl (by decide +kernel) ?_); conv => whnf) | fail)
    refine Run.back 900 (ts := [4, 5]) hsz hdf (.inr ⟨_, rfl⟩) (by rfl) Tryd.func72 rfl ?_
    refine Run.holdBoxRow 6 1 90 14 (by rfl) (by rfl) (by rfl) rfl rfl rfl ?_
    refine fin _ _ _ (fun i => rfl) (fun id e5 e90 e14 e901 e900 => ?_) (MOle.refl _) (bytesG_join 5 t s)
    simp only [upd, scrubH, scrubM, bldr, e5, e90, e14, e901, e900, cond_false]
  · refine Run.go ?_; (conv => whnf); repeat' (first | ((with_reducible refine Know.mk fun _ => ?_); conv => whnf) | ((with_reducible refine Need.mk ?_ ?_); (first | omega | (dsimp only; omega) | decide | exact bytes_le (by rfl) (by omega) | exact ⟨rfl, by omega, bytes_le (by rfl) (by omega), by omega⟩ | (refine ⟨?_, ?_⟩ <;> (rw [wrap64 (by omega) (by omega)]; omega))); conv => whnf) | ((with_reducible first | refine Both.mk ?_ ?_ | refine Any.mk fun b hb => ?_ | refine AskB.dec (fun hb => ?_) (fun hb => ?_) | refine AskB.ndec (fun hb => ?_) (fun hb => ?_) | refine AskB.mk (fun hb => ?_) (fun hb => ?_)) <;> conv => whnf) | ((with_reducible first | refine Run.drawX rfl (by decide +kernel) ?_ | refine Run.drawT rfl (by decide +kernel) ?_ | refine Run.drawW rfl (by decide +kernel) ?_); conv => whnf) | fail)
    refine Run.inline 901 Tryd.f61 _ 20 rfl rfl Tryd.func61 rfl (by decide) rfl (by decide) rfl rfl (fun a2 hsz2 hdf2 => ?_)
    refine Run.go ?_; (conv => whnf); repeat' (first | ((with_reducible refine Know.mk fun _ => ?_); conv => whnf) | ((with_reducible refine Need.mk ?_ ?_); (first | omega | (dsimp only; omega) | decide | exact bytes_le (by rfl) (by omega) | exact ⟨rfl, by omega, bytes_le (by rfl) (by omega), by omega⟩ | (refine ⟨?_, ?_⟩ <;> (rw [wrap64 (by omega) (by omega)]; omega))); conv => whnf) | ((with_reducible first | refine Both.mk ?_ ?_ | refine Any.mk fun b hb => ?_ | refine AskB.dec (fun hb => ?_) (fun hb => ?_) | refine AskB.ndec (fun hb => ?_) (fun hb => ?_) | refine AskB.mk (fun hb => ?_) (fun hb => ?_)) <;> conv => whnf) | ((with_reducible first | refine Run.drawX rfl (by decide +kernel) ?_ | refine Run.drawT rfl (by decide +kernel) ?_ | refine Run.drawW rfl (by decide +kernel) ?_); conv => whnf) | fail)
    refine Run.back 901 (ts := []) hsz2 hdf2 (.inl rfl) (by rfl) Tryd.func61 rfl ?_
    refine Run.go ?_; (conv => whnf); repeat' (first | ((with_reducible refine Know.mk fun _ => ?_); conv => whnf) | ((with_reducible refine Need.mk ?_ ?_); (first | omega | (dsimp only; omega) | decide | exact bytes_le (by rfl) (by omega) | exact ⟨rfl, by omega, bytes_le (by rfl) (by omega), by omega⟩ | (refine ⟨?_, ?_⟩ <;> (rw [wrap64 (by omega) (by omega)]; omega))); conv => whnf) | ((with_reducible first | refine Both.mk ?_ ?_ | refine Any.mk fun b hb => ?_ | refine AskB.dec (fun hb => ?_) (fun hb => ?_) | refine AskB.ndec (fun hb => ?_) (fun hb => ?_) | refine AskB.mk (fun hb => ?_) (fun hb => ?_)) <;> conv => whnf) | ((with_reducible first | refine Run.drawX rfl (by decide +kernel) ?_ | refine Run.drawT rfl (by decide +kernel) ?_ | refine Run.drawW rfl (by decide +kernel) ?_); conv => whnf) | fail)
    refine Run.back 900 (ts := [4, 5]) hsz hdf (.inr ⟨_, rfl⟩) (by rfl) Tryd.func72 rfl ?_
    refine Run.holdBoxRow 6 1 90 14 (by rfl) (by rfl) (by rfl) rfl rfl rfl ?_
    refine fin _ _ _ (fun i => rfl) (fun id e5 e90 e14 e901 e900 => ?_) (MOle.refl _) (bytesG_join 5 t s)
    simp only [upd, scrubH, scrubM, bldr, e5, e90, e14, e901, e900, cond_false]

def appF (f : Nat) (x : Int) : Int := if f = 81 then lowV x else if f = 82 then bareV x else letterV x
def appL (l : List Nat) (x : Int) : Int := l.foldl (fun x f => appF f x) x
def stepV (o x : Int) : Int := appL (stepsF o) x
theorem stepFn {f : Nat} (x : Int) (h : f = 81 ∨ f = 82 ∨ f = 83) : Fn Tryd.prog f [.int .i32 x] (.int .i32 (appF f x)) := by
  rcases h with rfl | rfl | rfl
  · exact lower53_fn x
  · exact unmarked54_fn x
  · exact letter55_fn x
theorem stepsF_mem {o : Int} {f : Nat} (h : f ∈ stepsF o) : f = 81 ∨ f = 82 ∨ f = 83 := by
  unfold stepsF at h
  simp only [List.mem_append] at h
  rcases h with (h | h) | h
  · split at h
    · exact .inl (by simpa using h)
    · cases h
  · split at h
    · exact .inr (.inl (by simpa using h))
    · cases h
  · split at h
    · exact .inr (.inr (by simpa using h))
    · cases h
theorem stepsF_len (o : Int) : (stepsF o).length ≤ 3 := by
  unfold stepsF
  repeat' split
  all_goals decide
theorem appL_take (l : List Nat) (x : Int) (m : Nat) (h : m < l.length) : appL (l.take (m + 1)) x = appF (l.getD m 81) (appL (l.take m) x) := by
  unfold appL
  rw [List.take_succ_eq_append_getElem h, List.foldl_append, List.getD, List.getElem?_eq_getElem h]; rfl
/-- Runes written one behind the other, each as the steps leave it. -/
def catE (o : Int) : List Int → ByteArray
  | [] => .empty
  | x :: r => Utf8.encode (stepV o x) ++ catE o r
theorem catE_app (o : Int) : ∀ a b : List Int, catE o (a ++ b) = catE o a ++ catE o b
  | [], b => by simp [catE]
  | x :: a, b => by simp only [List.cons_append, catE]; rw [catE_app o a b, ByteArray.append_assoc]
theorem catE_take (o : Int) (l : List Int) (j : Nat) (h : j < l.length) : catE o (l.take (j + 1)) = catE o (l.take j) ++ Utf8.encode (stepV o (l.getD j 0)) := by
  rw [List.take_succ_eq_append_getElem h, catE_app, List.getD, List.getElem?_eq_getElem h]; simp [catE]
theorem catE_size (o : Int) : ∀ l : List Int, (catE o l).size ≤ 4 * l.length
  | [] => by simp [catE]
  | x :: r => by
    have h1 := catE_size o r
    have h2 := encode_small (stepV o x)
    simp only [catE, ByteArray.size_append, List.length_cons]; omega
/-- Is a rune left out? -/
def dropV (r o : Int) : Bool := decide ((o / 16 % 2 = 1 ∧ kOf r = 4) ∨ (o / 2 % 2 = 1 ∧ kOf r = 2))
def runesV (r o : Int) : List Int := if isLig r = true ∧ o / 4 % 2 = 1 then runesE (ligB r) 0 else [r]
/-- What a rune becomes. -/
def foldR (r o : Int) : ByteArray := if dropV r o = true then .empty else catE o (runesV r o)
theorem ligB_size (r : Int) : (ligB r).size ≤ 3 := by
  unfold ligB
  repeat' split
  all_goals first | (exact Nat.le_of_ble_eq_true rfl) | skip
  rename_i h
  obtain ⟨k, hk⟩ : ∃ k : Fin 7, k.val = (r - 64256).toNat := ⟨⟨(r - 64256).toNat, by omega⟩, rfl⟩
  rw [← hk]
  clear hk h
  revert k; decide +kernel
theorem runesV_len (r o : Int) : (runesV r o).length ≤ 3 := by
  unfold runesV
  split
  · have := runesE_len (ligB r) 0
    have := ligB_size r
    omega
  · simp
theorem foldR_size (r o : Int) : (foldR r o).size ≤ 12 := by
  unfold foldR
  split
  · exact Nat.zero_le _
  · have := catE_size o (runesV r o)
    have := runesV_len r o
    omega
def clean6 (x : AV) : Prop := scrub 902 x = x ∧ scrub 35 x = x ∧ scrW 90 x = x ∧ ∀ X Y, repl 35 X Y x = x
def cleanL : List (Nat × AV) → Prop
  | [] => True
  | p :: r => clean6 p.2 ∧ cleanL r
theorem cleanL_at : ∀ {l : List (Nat × AV)}, cleanL l → ∀ i, clean6 (lst l i)
  | [], _, i => ⟨rfl, rfl, rfl, fun _ _ => rfl⟩
  | p :: r, h, i => by
    show clean6 (cond (Nat.beq i p.1) p.2 (lst r i))
    cases Nat.beq i p.1 with
    | true => exact h.1
    | false => exact cleanL_at h.2 i
theorem to_next {C : Ctx} {l : List (Nat × AV)} {lh : List (Nat × MO)} {k : List Item} {dst : Option Nat} {E : Env} {X : AV} {H : Heap} (hE : ∀ i, E i = lst l i) (hH : fitsH H lh) (next : Run C k (putE (lst l) dst .u) (lstH lh)) : Run C k (putE E dst X) H := by
  refine Run.weaken (fun i => ?_) (fun id => fitsH_le hH id) next
  cases dst with
  | none => show Le (E i) (lst l i); rw [hE]; exact Le.refl _
  | some d =>
    show Le (upd E d X i) (upd (lst l) d .u i)
    by_cases e : i = d
    · subst e; rw [upd_same, upd_same]; exact Le.u _
    · rw [upd_other _ _ e, upd_other _ _ e, hE]; exact Le.refl _
theorem fold41 {N : Nat} {w0 : World} {S : Nat → Prop} {gl : GlobOk S w0} {f : FuncId} {R : Ending → World → Prop} {ops : Array Oper} {i : Nat} {rest : List Nat} {k : List Item} {o : Oper} {x0 x1 x2 x3 : Operand}
    (l : List (Nat × AV)) (p : AV) (t : ByteArray) (r opt : Int) (ho : ops.toList[i]? = some o) (hc : calls? o = some (66, [x0, x1, x2, x3])) (hd : okD N o.dst = true) (hr : ready (lst l) ops o = true)
    (hx0 : ev (lst l) x0 = .box 6 0) (hx1 : ev (lst l) x1 = .int .i32 r) (hx2 : ev (lst l) x2 = .int .i64 opt) (hx3 : ev (lst l) x3 = tF.L (stepsF opt)) (hl : cleanL l) (hs : t.size ≤ 100000000000) (hp : p = .nilp ∨ p = .box 6 0) (h0 : 0 ≤ opt) (h1 : opt ≤ 31)
    (next : ∀ p', (p' = .nilp ∨ p' = .box 6 0) → Run ⟨Tryd.prog, TB, tbOk, N, w0, S, gl, f, R⟩ (.inRegion ops rest :: k) (putE (lst l) o.dst .u) (lstH [(6, .box 95 [p', .row 90]), (90, .row 5 1 (t ++ foldR r opt).size (bytesG (t ++ foldR r opt)))])) :
    Run ⟨Tryd.prog, TB, tbOk, N, w0, S, gl, f, R⟩ (.inRegion ops (i :: rest) :: k) (lst l) (lstH [(6, .box 95 [p, .row 90]), (90, .row 5 1 t.size (bytesG t))]) := by
  have hE : scrubE 902 (lst l) = lst l := funext fun i => (cleanL_at hl i).1
  obtain ⟨kk, rfl⟩ : ∃ k : Fin 32, (k.val : Int) = opt := ⟨⟨opt.toNat, by omega⟩, by simp only []; omega⟩
  obtain ⟨e1, e2, e4, e8, e16⟩ := bits32 kk
  refine Run.inline 902 Tryd.f66 _ 70 ho hc Tryd.func66 rfl (by decide) rfl (by show 4 ≤ 70; decide) hd hr (fun a hsz hdf => ?_)
  rw [hE]
  simp only [List.map, hx0, hx1, hx2, hx3]
  refine Run.to [(0, .box 6 0), (1, .int .i32 r), (2, .int .i64 kk.val), (3, tF.L (stepsF kk.val))] [(6, .box 95 [p, .row 90]), (90, .row 5 1 t.size (bytesG t)), (902, .frame a.tmps (lst l))] ⟨Le.refl _, Le.refl _, Le.refl _, Le.refl _, trivial⟩ ⟨by rcases hp with rfl | rfl <;> exact MOle.refl _, MOle.refl _, MOle.refl _, trivial⟩ ?_
  have hfr : MOle (.frame a.tmps (fun i => scrub 35 (lst l i))) (.frame a.tmps (lst l)) := ⟨rfl, fun i => by show Le (scrub 35 (lst l i)) _; rw [(cleanL_at hl i).2.1]; exact Le.refl _⟩
  have hbx : ∀ X Y, MOle (.box 95 [repl 35 X Y p, .row 90]) (.box 95 [p, .row 90]) := fun X Y => by rcases hp with rfl | rfl <;> exact MOle.refl _
  have hrp : ∀ X Y, MOle (.frame a.tmps (fun i => repl 35 X Y (lst l i))) (.frame a.tmps (lst l)) := fun X Y => ⟨rfl, fun i => by show Le (repl 35 X Y (lst l i)) _; rw [(cleanL_at hl i).2.2.2]; exact Le.refl _⟩
  have hp35 : scrub 35 p = p := by rcases hp with rfl | rfl <;> rfl
  apply Run.cutAt (A := fun CC kk' => dropV r kk.val = false → Run CC kk' (lst [(0, .box 6 0), (2, .int .i64 kk.val), (3, tF.L (stepsF kk.val)), (9, .row 35), (37, .int .i32 r)]) (lstH [(6, .box 95 [p, .row 90]), (90, .row 5 1 t.size (bytesG t)), (902, .frame a.tmps (lst l)), (35, tRn.R 21 [r])]))
  · intro HA
    refine Run.go ?_; (conv => whnf); repeat' (first | ((with_reducible refine Know.mk fun _ => ?_); conv => whnf) | ((with_reducible refine Need.mk ?_ ?_); (first | omega | (dsimp only; omega) | decide | exact bytes_le (by rfl) (by omega) | exact ⟨rfl, by omega, bytes_le (by rfl) (by omega), by omega⟩ | (refine ⟨?_, ?_⟩ <;> (rw [wrap64 (by omega) (by omega)]; omega))); conv => whnf) | ((with_reducible first | refine Both.mk ?_ ?_ | refine Any.mk fun b hb => ?_ | refine AskB.dec (fun hb => ?_) (fun hb => ?_) | refine AskB.ndec (fun hb => ?_) (fun hb => ?_) | refine AskB.mk (fun hb => ?_) (fun hb => ?_)) <;> conv => whnf) | ((with_reducible first | refine Run.drawX rfl (by decide +kernel) ?_ | refine Run.drawT rfl (by decide +kernel) ?_ | refine Run.drawW rfl (by decide +kernel) ?_); conv => whnf) | fail)
    refine Run.callBX (of_fn r) rfl rfl ⟨Le.refl _, trivial⟩ rfl rfl rfl ?_
    (conv => whnf); repeat' (first | ((with_reducible refine Know.mk fun _ => ?_); conv => whnf) | ((with_reducible refine Need.mk ?_ ?_); (first | omega | (dsimp only; omega) | decide | exact bytes_le (by rfl) (by omega) | exact ⟨rfl, by omega, bytes_le (by rfl) (by omega), by omega⟩ | (refine ⟨?_, ?_⟩ <;> (rw [wrap64 (by omega) (by omega)]; omega))); conv => whnf) | ((with_reducible first | refine Both.mk ?_ ?_ | refine Any.mk fun b hb => ?_ | refine AskB.dec (fun hb => ?_) (fun hb => ?_) | refine AskB.ndec (fun hb => ?_) (fun hb => ?_) | refine AskB.mk (fun hb => ?_) (fun hb => ?_)) <;> conv => whnf) | ((with_reducible first | refine Run.drawX rfl (by decide +kernel) ?_ | refine Run.drawT rfl (by decide +kernel) ?_ | refine Run.drawW rfl (by decide +kernel) ?_); conv => whnf) | fail)
    all_goals first
      | (refine Run.back 902 (ts := []) hsz hdf (.inr ⟨_, rfl⟩) (by rfl) Tryd.func66 rfl ?_
         have hemp : t ++ foldR r kk.val = t := by
           unfold foldR
           rw [if_pos (show dropV r kk.val = true from decide_eq_true (by omega))]
           exact ByteArray.append_empty
         rw [hemp] at next
         refine to_next (fun i => rfl) ?_ (next p hp)
         exact ⟨MOle.refl _, MOle.refl _, trivial⟩)
      | (refine Run.to _ _ ?_ ?_ (HA (decide_eq_false (by omega)))
         · exact ⟨Le.refl _, Le.refl _, Le.refl _, Le.refl _, Le.refl _, trivial⟩
         · refine ⟨?_, MOle.refl _, hfr, ⟨rfl, rfl, rfl, fun i j hi hj => ?_⟩, trivial⟩
           · show MOle (.box 95 [scrub 35 p, .row 90]) _
             rw [hp35]; exact MOle.refl _
           · obtain rfl : i = 0 := by have : i < 1 := hi; omega
             obtain rfl : j = 0 := by have : j < 1 := hj; omega
             exact Le.refl _)
  intro hdrop
  apply Run.cutAt (A := fun CC kk' => Run CC kk' (lst [(0, .box 6 0), (3, tF.L (stepsF kk.val)), (49, tRn.L (runesV r kk.val)), (50, .int .i64 (runesV r kk.val).length), (51, .int .i64 0)]) (lstH [(6, .box 95 [p, .row 90]), (90, .row 5 1 t.size (bytesG t)), (902, .frame a.tmps (lst l))]))
  · intro HB
    refine Run.callBX (ligature59_fn r) rfl rfl ⟨Le.refl _, trivial⟩ rfl rfl rfl ?_
    (conv => whnf); repeat' (first | ((with_reducible refine Know.mk fun _ => ?_); conv => whnf) | ((with_reducible refine Need.mk ?_ ?_); (first | omega | (dsimp only; omega) | decide | exact bytes_le (by rfl) (by omega) | exact ⟨rfl, by omega, bytes_le (by rfl) (by omega), by omega⟩ | (refine ⟨?_, ?_⟩ <;> (rw [wrap64 (by omega) (by omega)]; omega))); conv => whnf) | ((with_reducible first | refine Both.mk ?_ ?_ | refine Any.mk fun b hb => ?_ | refine AskB.dec (fun hb => ?_) (fun hb => ?_) | refine AskB.ndec (fun hb => ?_) (fun hb => ?_) | refine AskB.mk (fun hb => ?_) (fun hb => ?_)) <;> conv => whnf) | ((with_reducible first | refine Run.drawX rfl (by decide +kernel) ?_ | refine Run.drawT rfl (by decide +kernel) ?_ | refine Run.drawW rfl (by decide +kernel) ?_); conv => whnf) | fail)
    case _ =>
      have hrv : runesV r kk.val = [r] := if_neg (fun h => by omega)
      rw [hrv] at HB
      refine Run.freeze 35 rfl ?_
      refine Run.to _ _ ?_ ?_ HB
      · exact ⟨Le.refl _, Le.refl _, Le.refl _, Le.refl _, Le.refl _, trivial⟩
      · exact ⟨hbx _ _, MOle.refl _, hrp _ _, trivial⟩
    case _ =>
      have hrv : runesV r kk.val = runesE (ligB r) 0 := if_pos (by constructor <;> first | assumption | omega)
      rw [hrv] at HB
      refine Run.toRunes (e := 21) (ligB r) rfl rfl rfl rfl rfl (by have := ligB_size r; omega) (by kernel_rfl) (by kernel_rfl) (by kernel_rfl) ?_
      refine Run.go ?_; (conv => whnf); repeat' (first | ((with_reducible refine Know.mk fun _ => ?_); conv => whnf) | ((with_reducible refine Need.mk ?_ ?_); (first | omega | (dsimp only; omega) | decide | exact bytes_le (by rfl) (by omega) | exact ⟨rfl, by omega, bytes_le (by rfl) (by omega), by omega⟩ | (refine ⟨?_, ?_⟩ <;> (rw [wrap64 (by omega) (by omega)]; omega))); conv => whnf) | ((with_reducible first | refine Both.mk ?_ ?_ | refine Any.mk fun b hb => ?_ | refine AskB.dec (fun hb => ?_) (fun hb => ?_) | refine AskB.ndec (fun hb => ?_) (fun hb => ?_) | refine AskB.mk (fun hb => ?_) (fun hb => ?_)) <;> conv => whnf) | ((with_reducible first | refine Run.drawX rfl (by decide +kernel) ?_ | refine Run.drawT rfl (by decide +kernel) ?_ | refine Run.drawW rfl (by decide +kernel) ?_); conv => whnf) | fail)
      refine Run.to _ _ ?_ ?_ HB
      · exact ⟨Le.refl _, Le.refl _, Le.refl _, Le.refl _, Le.refl _, trivial⟩
      · exact ⟨MOle.refl _, MOle.refl _, MOle.refl _, trivial⟩
    case _ =>
      have hrv : runesV r kk.val = [r] := if_neg (fun h => by rw [hb] at h; exact Bool.noConfusion h.1)
      rw [hrv] at HB
      refine Run.freeze 35 rfl ?_
      refine Run.to _ _ ?_ ?_ HB
      · exact ⟨Le.refl _, Le.refl _, Le.refl _, Le.refl _, Le.refl _, trivial⟩
      · exact ⟨hbx _ _, MOle.refl _, hrp _ _, trivial⟩
  have hlen := runesV_len r kk.val
  have hfold : foldR r kk.val = catE kk.val (runesV r kk.val) := by unfold foldR; rw [hdrop]; rfl
  rw [hfold] at next
  generalize runesV r kk.val = rs at hlen next ⊢
  have hT : ∀ j, (t ++ catE kk.val (rs.take j)).size ≤ 100000000012 := fun j => by
    have h1 := catE_size kk.val (rs.take j)
    have h2 : (rs.take j).length ≤ 3 := by rw [List.length_take]; omega
    rw [ByteArray.size_append]; omega
  refine Run.loop [0, 3, 49, 50] (fun (a : Nat × AV) => [(51, .int .i64 (a.1 : Int))]) (fun b => [(6, .box 95 [b.2, .row 90]), (90, .row 5 1 (t ++ catE kk.val (rs.take b.1)).size (bytesG (t ++ catE kk.val (rs.take b.1)))), (902, .frame a.tmps (lst l))]) (fun a => a.1 ≤ rs.length ∧ (a.2 = .nilp ∨ a.2 = .box 6 0)) (fun a => rs.length - a.1) (0, p) ⟨Nat.zero_le _, hp⟩ ⟨Le.refl _, trivial⟩ ⟨MOle.refl _, ?_, MOle.refl _, trivial⟩ ?_
  · simp only [List.take_zero, catE]
    rw [ByteArray.append_empty]; exact MOle.refl _
  have hwf : MOle (.frame a.tmps (fun i => scrW 90 (lst l i))) (.frame a.tmps (lst l)) := ⟨rfl, fun i => by show Le (scrW 90 (lst l i)) _; rw [(cleanL_at hl i).2.2.1]; exact Le.refl _⟩
  have hfl := stepsF_len kk.val
  have hfm : ∀ m, m < (stepsF kk.val).length → (stepsF kk.val).getD m 81 = 81 ∨ (stepsF kk.val).getD m 81 = 82 ∨ (stepsF kk.val).getD m 81 = 83 := fun m hm => stepsF_mem (by rw [List.getD, List.getElem?_eq_getElem hm]; exact List.getElem_mem hm)
  have hsv : ∀ x, stepV kk.val x = appL ((stepsF kk.val).take (stepsF kk.val).length) x := fun x => by rw [List.take_length]; rfl
  intro ⟨j, p2⟩ ⟨hj, hp2⟩ IH
  simp only [] at hj hp2 ⊢
  have hwj : IntKind.i64.wrap ((j : Int) + 1) = ((j + 1 : Nat) : Int) := wrap64 (by omega) (by omega)
  have hTj := hT j
  refine Run.go ?_; (conv => whnf); repeat' (first | ((with_reducible refine Know.mk fun _ => ?_); conv => whnf) | ((with_reducible refine Need.mk ?_ ?_); (first | omega | (dsimp only; omega) | decide | exact bytes_le (by rfl) (by omega) | exact ⟨rfl, by omega, bytes_le (by rfl) (by omega), by omega⟩ | (refine ⟨?_, ?_⟩ <;> (rw [wrap64 (by omega) (by omega)]; omega))); conv => whnf) | ((with_reducible first | refine Both.mk ?_ ?_ | refine Any.mk fun b hb => ?_ | refine AskB.dec (fun hb => ?_) (fun hb => ?_) | refine AskB.ndec (fun hb => ?_) (fun hb => ?_) | refine AskB.mk (fun hb => ?_) (fun hb => ?_)) <;> conv => whnf) | ((with_reducible first | refine Run.drawX rfl (by decide +kernel) ?_ | refine Run.drawT rfl (by decide +kernel) ?_ | refine Run.drawW rfl (by decide +kernel) ?_); conv => whnf) | fail)
  · have hjl : j < rs.length := by omega
    refine Run.loop [0, 3, 49, 50, 51, 55, 56] (fun (m : Nat) => [(13, .int .i32 (appL ((stepsF kk.val).take m) (rs.getD j 0))), (57, .int .i64 m)]) (fun _ => [(6, .box 95 [p2, .row 90]), (90, .row 5 1 (t ++ catE kk.val (rs.take j)).size (bytesG (t ++ catE kk.val (rs.take j)))), (902, .frame a.tmps (lst l))]) (fun m => m ≤ (stepsF kk.val).length) (fun m => (stepsF kk.val).length - m) 0 (Nat.zero_le _) ⟨Le.refl _, Le.refl _, trivial⟩ ⟨MOle.refl _, MOle.refl _, MOle.refl _, trivial⟩ ?_
    intro m hm IHm
    have hwm : IntKind.i64.wrap ((m : Int) + 1) = ((m + 1 : Nat) : Int) := wrap64 (by omega) (by omega)
    refine Run.go ?_; (conv => whnf); repeat' (first | ((with_reducible refine Know.mk fun _ => ?_); conv => whnf) | ((with_reducible refine Need.mk ?_ ?_); (first | omega | (dsimp only; omega) | decide | exact bytes_le (by rfl) (by omega) | exact ⟨rfl, by omega, bytes_le (by rfl) (by omega), by omega⟩ | (refine ⟨?_, ?_⟩ <;> (rw [wrap64 (by omega) (by omega)]; omega))); conv => whnf) | ((with_reducible first | refine Both.mk ?_ ?_ | refine Any.mk fun b hb => ?_ | refine AskB.dec (fun hb => ?_) (fun hb => ?_) | refine AskB.ndec (fun hb => ?_) (fun hb => ?_) | refine AskB.mk (fun hb => ?_) (fun hb => ?_)) <;> conv => whnf) | ((with_reducible first | refine Run.drawX rfl (by decide +kernel) ?_ | refine Run.drawT rfl (by decide +kernel) ?_ | refine Run.drawW rfl (by decide +kernel) ?_); conv => whnf) | fail)
    · have hml : m < (stepsF kk.val).length := by omega
      refine Run.callV (stepFn (appL ((stepsF kk.val).take m) (rs.getD j 0)) (hfm m hml)) rfl rfl rfl rfl ⟨Le.refl _, trivial⟩ rfl rfl rfl ?_
      refine Run.go ?_; (conv => whnf); repeat' (first | ((with_reducible refine Know.mk fun _ => ?_); conv => whnf) | ((with_reducible refine Need.mk ?_ ?_); (first | omega | (dsimp only; omega) | decide | exact bytes_le (by rfl) (by omega) | exact ⟨rfl, by omega, bytes_le (by rfl) (by omega), by omega⟩ | (refine ⟨?_, ?_⟩ <;> (rw [wrap64 (by omega) (by omega)]; omega))); conv => whnf) | ((with_reducible first | refine Both.mk ?_ ?_ | refine Any.mk fun b hb => ?_ | refine AskB.dec (fun hb => ?_) (fun hb => ?_) | refine AskB.ndec (fun hb => ?_) (fun hb => ?_) | refine AskB.mk (fun hb => ?_) (fun hb => ?_)) <;> conv => whnf) | ((with_reducible first | refine Run.drawX rfl (by decide +kernel) ?_ | refine Run.drawT rfl (by decide +kernel) ?_ | refine Run.drawW rfl (by decide +kernel) ?_); conv => whnf) | fail)
      refine Run.to _ _ ?_ ?_ (IHm (m + 1) (by omega) (by omega))
      · exact ⟨Le.refl _, Le.refl _, Le.refl _, Le.refl _, Le.refl _, Le.refl _, Le.refl _, Le.int (appL_take _ _ m hml).symm, Le.int hwm, trivial⟩
      · exact ⟨MOle.refl _, MOle.refl _, MOle.refl _, trivial⟩
    · obtain rfl : m = (stepsF kk.val).length := by omega
      refine Run.bldr 95 5 6 90 p2 (t ++ catE kk.val (rs.take j)) (MOle.refl _) (MOle.refl _) ?_
      refine ws6 p2 _ (Utf8.encode (stepV kk.val (rs.getD j 0))) rfl rfl rfl rfl rfl ?_ ?_ hp2 ?_
      · rw [hsv]; rfl
      · have := encode_small (stepV kk.val (rs.getD j 0)); omega
      refine Run.go ?_; (conv => whnf); repeat' (first | ((with_reducible refine Know.mk fun _ => ?_); conv => whnf) | ((with_reducible refine Need.mk ?_ ?_); (first | omega | (dsimp only; omega) | decide | exact bytes_le (by rfl) (by omega) | exact ⟨rfl, by omega, bytes_le (by rfl) (by omega), by omega⟩ | (refine ⟨?_, ?_⟩ <;> (rw [wrap64 (by omega) (by omega)]; omega))); conv => whnf) | ((with_reducible first | refine Both.mk ?_ ?_ | refine Any.mk fun b hb => ?_ | refine AskB.dec (fun hb => ?_) (fun hb => ?_) | refine AskB.ndec (fun hb => ?_) (fun hb => ?_) | refine AskB.mk (fun hb => ?_) (fun hb => ?_)) <;> conv => whnf) | ((with_reducible first | refine Run.drawX rfl (by decide +kernel) ?_ | refine Run.drawT rfl (by decide +kernel) ?_ | refine Run.drawW rfl (by decide +kernel) ?_); conv => whnf) | fail)
      refine Run.to _ _ ?_ ?_ (IH (j + 1, .box 6 0) (by simp only []; omega) ⟨by simp only []; omega, .inr rfl⟩)
      · exact ⟨Le.refl _, Le.refl _, Le.refl _, Le.refl _, Le.int hwj, trivial⟩
      · refine ⟨MOle.refl _, ?_, hwf, trivial⟩
        simp only []
        rw [catE_take _ _ _ hjl, ← ByteArray.append_assoc]
        exact MOle.refl _
  · obtain rfl : j = rs.length := by omega
    rw [List.take_length]
    refine Run.back 902 (ts := []) hsz hdf (.inl rfl) (by rfl) Tryd.func66 rfl ?_
    refine to_next (fun i => rfl) ?_ (next p2 hp2)
    exact ⟨MOle.refl _, MOle.refl _, trivial⟩
end Go.Proofs.YtnadacaoehpdnaaDoor.V

namespace Go.Proofs.YtnadacaoehpdnaaDoor.V
set_option linter.unusedVariables false
set_option linter.unusedSimpArgs false
open Go Go.Proofs Go.RowKit
set_option maxRecDepth 100000
set_option maxHeartbeats 4000000
open Go Go.Proofs Go.Proofs.YtnadacaoehpdnaaDoor.V
theorem wb6 {N : Nat} {w0 : World} {S : Nat → Prop} {gl : GlobOk S w0} {f : FuncId} {R : Ending → World → Prop} {ops : Array Oper} {i : Nat} {rest : List Nat} {k : List Item} {env : Env} {h : Heap} {o : Oper} {x y : Operand}
    (p : AV) (t : ByteArray) (u : UInt8) (ho : ops.toList[i]? = some o) (hc : calls? o = some (48, [x, y])) (hd : okD N o.dst = true) (hr : ready env ops o = true) (hx : ev (scrubE 900 env) x = .box 6 0) (hy : ev (scrubE 900 env) y = .int .u8 (u.toNat : Int))
    (hs : t.size + 1 ≤ 34359738368) (hp : p = .nilp ∨ p = .box 6 0)
    (next : Run ⟨Tryd.prog, TB, tbOk, N, w0, S, gl, f, R⟩ (.inRegion ops rest :: k) (putE (envB 90 env) o.dst .u) (bldr 95 5 6 90 (heapB 90 h) (.box 6 0) (t ++ ⟨#[u]⟩))) :
    Run ⟨Tryd.prog, TB, tbOk, N, w0, S, gl, f, R⟩ (.inRegion ops (i :: rest) :: k) env (bldr 95 5 6 90 h p t) := by
  refine Run.inline 900 Tryd.f48 _ 17 ho hc Tryd.func48 rfl (by decide) rfl (by show 2 ≤ 17; decide) hd hr (fun a hsz hdf => ?_)
  simp only [List.map, hx, hy]
  have fin : ∀ (E : Env) (H : Heap) (X : AV), (∀ i, E i = scrub 14 (scrub 13 (scrub 901 (scrub 900 (env i))))) → (∀ id, Nat.beq id 6 = false → Nat.beq id 90 = false → Nat.beq id 14 = false → Nat.beq id 13 = false → Nat.beq id 901 = false → Nat.beq id 900 = false → H id = scrubM 90 (scrubM 14 (scrubM 13 (scrubM 901 (scrubM 900 (h id)))))) →
      MOle (H 6) (.box 95 [.box 6 0, .row 90]) → MOle (H 90) (.row 5 1 (t ++ ⟨#[u]⟩).size (bytesG (t ++ ⟨#[u]⟩))) → Run ⟨Tryd.prog, TB, tbOk, N, w0, S, gl, f, R⟩ (.inRegion ops rest :: k) (scrubE 90 (putE E o.dst X)) H := by
    intro E H X hE hH h5 h90
    refine Run.weaken (fun i => ?_) (fun id => ?_) next
    · cases hdst : o.dst with
      | none => show Le (scrub 90 (E i)) _; rw [hE]; exact Le.refl _
      | some d =>
        show Le (scrub 90 (upd E d X i)) (upd (envB 90 env) d .u i)
        by_cases e : i = d
        · subst e; rw [upd_same, upd_same]; exact Le.u _
        · rw [upd_other _ _ e, upd_other _ _ e, hE]; exact Le.refl _
    · unfold bldr heapB
      cases e5 : Nat.beq id 6 with
      | true => have := Nat.eq_of_beq_eq_true e5; subst this; exact h5
      | false =>
      cases e90 : Nat.beq id 90 with
      | true => have := Nat.eq_of_beq_eq_true e90; subst this; exact h90
      | false =>
      cases e900 : Nat.beq id 900 with
      | true => simp only [upd, e5, e90, e900, cond_true, cond_false]; exact mole_dead _
      | false =>
      cases e901 : Nat.beq id 901 with
      | true => simp only [upd, e5, e90, e900, e901, cond_true, cond_false]; exact mole_dead _
      | false =>
      cases e13 : Nat.beq id 13 with
      | true => simp only [upd, e5, e90, e900, e901, e13, cond_true, cond_false]; exact mole_dead _
      | false =>
      cases e14 : Nat.beq id 14 with
      | true => simp only [upd, e5, e90, e900, e901, e13, e14, cond_true, cond_false]; exact mole_dead _
      | false =>
        rw [hH id e5 e90 e14 e13 e901 e900]
        simp only [upd, e5, e90, e900, e901, e13, e14, cond_true, cond_false]
        exact MOle.refl _
  rcases hp with rfl | rfl
  · refine Run.go ?_; (conv => whnf); repeat' (first | ((with_reducible refine Know.mk fun _ => ?_); conv => whnf) | ((with_reducible refine Need.mk ?_ ?_); (first | omega | (dsimp only; omega) | decide | exact bytes_le (by rfl) (by omega) | exact ⟨rfl, by omega, bytes_le (by rfl) (by omega), by omega⟩ | (refine ⟨?_, ?_⟩ <;> (rw [wrap64 (by omega) (by omega)]; omega))); conv => whnf) | ((with_reducible first | refine Both.mk ?_ ?_ | refine Any.mk fun b hb => ?_ | refine AskB.dec (fun hb => ?_) (fun hb => ?_) | refine AskB.ndec (fun hb => ?_) (fun hb => ?_) | refine AskB.mk (fun hb => ?_) (fun hb => ?_)) <;> conv => whnf) | ((with_reducible first | refine Run.drawX rfl (by decide +kernel) ?_ | refine Run.drawT rfl (by decide +kernel) ?_ | refine Run.drawW rfl (by decide +kernel) ?_); conv => whnf) | fail)
    refine Run.inline 901 Tryd.f61 _ 20 rfl rfl Tryd.func61 rfl (by decide) rfl (by decide) rfl rfl (fun a2 hsz2 hdf2 => ?_)
    refine Run.go ?_; (conv => whnf); repeat' (first | ((with_reducible refine Know.mk fun _ => ?_); conv => whnf) | ((with_reducible refine Need.mk ?_ ?_); (first | omega | (dsimp only; omega) | decide | exact bytes_le (by rfl) (by omega) | exact ⟨rfl, by omega, bytes_le (by rfl) (by omega), by omega⟩ | (refine ⟨?_, ?_⟩ <;> (rw [wrap64 (by omega) (by omega)]; omega))); conv => whnf) | ((with_reducible first | refine Both.mk ?_ ?_ | refine Any.mk fun b hb => ?_ | refine AskB.dec (fun hb => ?_) (fun hb => ?_) | refine AskB.ndec (fun hb => ?_) (fun hb => ?_) | refine AskB.mk (fun hb => ?_) (fun hb => ?_)) <;> conv => whnf) | ((with_reducible first | refine Run.drawX rfl (by decide +kernel) ?_ | refine Run.drawT rfl (by decide +kernel) ?_ | refine Run.drawW rfl (by decide +kernel) ?_); conv => whnf) | fail)
    refine Run.toUnsafe (id := 6) (l := [.nilp, .row 90]) (e := 95) (t := 95) (src := 92) (dst := 136) (x := .tmp 8) rfl rfl rfl rfl rfl rfl (by decide) (by kernel_rfl) (by kernel_rfl) (j := (Tryd.prog.info? 95).get (by kernel_rfl)) (by kernel_rfl) (by decide +kernel) ?_
    refine Run.noEscape (f := 79) (x := .tmp 9) rfl rfl rfl rfl Tryd.func79 (by kernel_rfl) (by kernel_rfl) (by kernel_rfl) (by kernel_rfl) ?_
    refine Run.fromUnsafe (id := 6) (l := [.nilp, .row 90]) (e := 95) (u := 95) (src := 136) (dst := 92) (x := .tmp 10) rfl rfl rfl rfl rfl rfl (by kernel_rfl) (by kernel_rfl) (j := (Tryd.prog.info? 95).get (by kernel_rfl)) (by kernel_rfl) (by kernel_rfl) ?_
    refine Run.go ?_; (conv => whnf); repeat' (first | ((with_reducible refine Know.mk fun _ => ?_); conv => whnf) | ((with_reducible refine Need.mk ?_ ?_); (first | omega | (dsimp only; omega) | decide | exact bytes_le (by rfl) (by omega) | exact ⟨rfl, by omega, bytes_le (by rfl) (by omega), by omega⟩ | (refine ⟨?_, ?_⟩ <;> (rw [wrap64 (by omega) (by omega)]; omega))); conv => whnf) | ((with_reducible first | refine Both.mk ?_ ?_ | refine Any.mk fun b hb => ?_ | refine AskB.dec (fun hb => ?_) (fun hb => ?_) | refine AskB.ndec (fun hb => ?_) (fun hb => ?_) | refine AskB.mk (fun hb => ?_) (fun hb => ?_)) <;> conv => whnf) | ((with_reducible first | refine Run.drawX rfl (by decide +kernel) ?_ | refine Run.drawT rfl (by decide +kernel) ?_ | refine Run.drawW rfl (by decide +kernel) ?_); conv => whnf) | fail)
    refine Run.back 901 (ts := []) hsz2 hdf2 (.inl rfl) (by rfl) Tryd.func61 rfl ?_
    refine Run.go ?_; (conv => whnf); repeat' (first | ((with_reducible refine Know.mk fun _ => ?_); conv => whnf) | ((with_reducible refine Need.mk ?_ ?_); (first | omega | (dsimp only; omega) | decide | exact bytes_le (by rfl) (by omega) | exact ⟨rfl, by omega, bytes_le (by rfl) (by omega), by omega⟩ | (refine ⟨?_, ?_⟩ <;> (rw [wrap64 (by omega) (by omega)]; omega))); conv => whnf) | ((with_reducible first | refine Both.mk ?_ ?_ | refine Any.mk fun b hb => ?_ | refine AskB.dec (fun hb => ?_) (fun hb => ?_) | refine AskB.ndec (fun hb => ?_) (fun hb => ?_) | refine AskB.mk (fun hb => ?_) (fun hb => ?_)) <;> conv => whnf) | ((with_reducible first | refine Run.drawX rfl (by decide +kernel) ?_ | refine Run.drawT rfl (by decide +kernel) ?_ | refine Run.drawW rfl (by decide +kernel) ?_); conv => whnf) | fail)
    refine Run.back 900 (ts := [4]) hsz hdf (.inr ⟨_, rfl⟩) (by rfl) Tryd.func48 rfl ?_
    refine Run.holdBoxRow 6 1 90 14 (by rfl) (by rfl) (by rfl) rfl rfl rfl ?_
    refine fin _ _ _ (fun i => rfl) (fun id e5 e90 e14 e13 e901 e900 => ?_) (MOle.refl _) (bytesG_push 5 t u _ rfl)
    simp only [upd, scrubH, scrubM, bldr, e5, e90, e14, e13, e901, e900, cond_false]
  · refine Run.go ?_; (conv => whnf); repeat' (first | ((with_reducible refine Know.mk fun _ => ?_); conv => whnf) | ((with_reducible refine Need.mk ?_ ?_); (first | omega | (dsimp only; omega) | decide | exact bytes_le (by rfl) (by omega) | exact ⟨rfl, by omega, bytes_le (by rfl) (by omega), by omega⟩ | (refine ⟨?_, ?_⟩ <;> (rw [wrap64 (by omega) (by omega)]; omega))); conv => whnf) | ((with_reducible first | refine Both.mk ?_ ?_ | refine Any.mk fun b hb => ?_ | refine AskB.dec (fun hb => ?_) (fun hb => ?_) | refine AskB.ndec (fun hb => ?_) (fun hb => ?_) | refine AskB.mk (fun hb => ?_) (fun hb => ?_)) <;> conv => whnf) | ((with_reducible first | refine Run.drawX rfl (by decide +kernel) ?_ | refine Run.drawT rfl (by decide +kernel) ?_ | refine Run.drawW rfl (by decide +kernel) ?_); conv => whnf) | fail)
    refine Run.inline 901 Tryd.f61 _ 20 rfl rfl Tryd.func61 rfl (by decide) rfl (by decide) rfl rfl (fun a2 hsz2 hdf2 => ?_)
    refine Run.go ?_; (conv => whnf); repeat' (first | ((with_reducible refine Know.mk fun _ => ?_); conv => whnf) | ((with_reducible refine Need.mk ?_ ?_); (first | omega | (dsimp only; omega) | decide | exact bytes_le (by rfl) (by omega) | exact ⟨rfl, by omega, bytes_le (by rfl) (by omega), by omega⟩ | (refine ⟨?_, ?_⟩ <;> (rw [wrap64 (by omega) (by omega)]; omega))); conv => whnf) | ((with_reducible first | refine Both.mk ?_ ?_ | refine Any.mk fun b hb => ?_ | refine AskB.dec (fun hb => ?_) (fun hb => ?_) | refine AskB.ndec (fun hb => ?_) (fun hb => ?_) | refine AskB.mk (fun hb => ?_) (fun hb => ?_)) <;> conv => whnf) | ((with_reducible first | refine Run.drawX rfl (by decide +kernel) ?_ | refine Run.drawT rfl (by decide +kernel) ?_ | refine Run.drawW rfl (by decide +kernel) ?_); conv => whnf) | fail)
    refine Run.back 901 (ts := []) hsz2 hdf2 (.inl rfl) (by rfl) Tryd.func61 rfl ?_
    refine Run.go ?_; (conv => whnf); repeat' (first | ((with_reducible refine Know.mk fun _ => ?_); conv => whnf) | ((with_reducible refine Need.mk ?_ ?_); (first | omega | (dsimp only; omega) | decide | exact bytes_le (by rfl) (by omega) | exact ⟨rfl, by omega, bytes_le (by rfl) (by omega), by omega⟩ | (refine ⟨?_, ?_⟩ <;> (rw [wrap64 (by omega) (by omega)]; omega))); conv => whnf) | ((with_reducible first | refine Both.mk ?_ ?_ | refine Any.mk fun b hb => ?_ | refine AskB.dec (fun hb => ?_) (fun hb => ?_) | refine AskB.ndec (fun hb => ?_) (fun hb => ?_) | refine AskB.mk (fun hb => ?_) (fun hb => ?_)) <;> conv => whnf) | ((with_reducible first | refine Run.drawX rfl (by decide +kernel) ?_ | refine Run.drawT rfl (by decide +kernel) ?_ | refine Run.drawW rfl (by decide +kernel) ?_); conv => whnf) | fail)
    refine Run.back 900 (ts := [4]) hsz hdf (.inr ⟨_, rfl⟩) (by rfl) Tryd.func48 rfl ?_
    refine Run.holdBoxRow 6 1 90 14 (by rfl) (by rfl) (by rfl) rfl rfl rfl ?_
    refine fin _ _ _ (fun i => rfl) (fun id e5 e90 e14 e13 e901 e900 => ?_) (MOle.refl _) (bytesG_push 5 t u _ rfl)
    simp only [upd, scrubH, scrubM, bldr, e5, e90, e14, e13, e901, e900, cond_false]

theorem bs6 {N : Nat} {w0 : World} {S : Nat → Prop} {gl : GlobOk S w0} {f : FuncId} {R : Ending → World → Prop} {ops : Array Oper} {i : Nat} {rest : List Nat} {k : List Item} {env : Env} {h : Heap} {o : Oper} {x : Operand}
    (p : AV) (t : ByteArray) (ho : ops.toList[i]? = some o) (hc : calls? o = some (49, [x])) (hd : okD N o.dst = true) (hr : ready env ops o = true) (hx : ev (scrubE 900 env) x = .box 6 0)
    (next : Run ⟨Tryd.prog, TB, tbOk, N, w0, S, gl, f, R⟩ (.inRegion ops rest :: k) (putE (scrubE 900 env) o.dst (.str t)) (upd (upd (upd (scrubH 900 h) 900 .dead) 6 .dead) 90 .dead)) :
    Run ⟨Tryd.prog, TB, tbOk, N, w0, S, gl, f, R⟩ (.inRegion ops (i :: rest) :: k) env (bldr 95 5 6 90 h p t) := by
  refine Run.inline 900 Tryd.f49 _ 14 ho hc Tryd.func49 rfl (by decide) rfl (by show 1 ≤ 14; decide) hd hr (fun a hsz hdf => ?_)
  simp only [List.map, hx]
  have fin : ∀ (H : Heap), (∀ id, Nat.beq id 6 = false → Nat.beq id 90 = false → Nat.beq id 900 = false → H id = scrubM 900 (h id)) →
      Run ⟨Tryd.prog, TB, tbOk, N, w0, S, gl, f, R⟩ (.inRegion ops rest :: k) (putE (scrubE 900 env) o.dst (.str t)) H := by
    intro H hH
    refine Run.weaken (fun i => Le.refl _) (fun id => ?_) next
    cases e5 : Nat.beq id 6 with
    | true => simp only [upd, e5, cond_true, cond_false]; cases Nat.beq id 90 <;> exact mole_dead _
    | false =>
    cases e90 : Nat.beq id 90 with
    | true => simp only [upd, e5, e90, cond_true, cond_false]; exact mole_dead _
    | false =>
    cases e900 : Nat.beq id 900 with
    | true => simp only [upd, e5, e90, e900, cond_true, cond_false]; exact mole_dead _
    | false =>
      rw [hH id e5 e90 e900]
      simp only [upd, e5, e90, e900, cond_true, cond_false]
      exact MOle.refl _
  refine Run.go ?_; (conv => whnf); repeat' (first | ((with_reducible refine Know.mk fun _ => ?_); conv => whnf) | ((with_reducible refine Need.mk ?_ ?_); (first | omega | (dsimp only; omega) | decide | exact bytes_le (by rfl) (by omega) | exact ⟨rfl, by omega, bytes_le (by rfl) (by omega), by omega⟩ | (refine ⟨?_, ?_⟩ <;> (rw [wrap64 (by omega) (by omega)]; omega))); conv => whnf) | ((with_reducible first | refine Both.mk ?_ ?_ | refine Any.mk fun b hb => ?_ | refine AskB.dec (fun hb => ?_) (fun hb => ?_) | refine AskB.ndec (fun hb => ?_) (fun hb => ?_) | refine AskB.mk (fun hb => ?_) (fun hb => ?_)) <;> conv => whnf) | ((with_reducible first | refine Run.drawX rfl (by decide +kernel) ?_ | refine Run.drawT rfl (by decide +kernel) ?_ | refine Run.drawW rfl (by decide +kernel) ?_); conv => whnf) | fail)
  · refine Run.unsafeString0 (i := 10) (rest := [11]) (k := [.code .ret]) (x := .tmp 7) (y := .tmp 12) (c := ⟨.builtin .unsafeString, #[.tmp 7, .tmp 12], #[113, 3]⟩) rfl rfl rfl rfl rfl rfl rfl (.inl rfl) (by show AV.int .i64 (t.size : Int) = _; rw [hb]; rfl) ?_
    have ht : t = .empty := by simpa using hb
    refine Run.go ?_; (conv => whnf); repeat' (first | ((with_reducible refine Know.mk fun _ => ?_); conv => whnf) | ((with_reducible refine Need.mk ?_ ?_); (first | omega | (dsimp only; omega) | decide | exact bytes_le (by rfl) (by omega) | exact ⟨rfl, by omega, bytes_le (by rfl) (by omega), by omega⟩ | (refine ⟨?_, ?_⟩ <;> (rw [wrap64 (by omega) (by omega)]; omega))); conv => whnf) | ((with_reducible first | refine Both.mk ?_ ?_ | refine Any.mk fun b hb => ?_ | refine AskB.dec (fun hb => ?_) (fun hb => ?_) | refine AskB.ndec (fun hb => ?_) (fun hb => ?_) | refine AskB.mk (fun hb => ?_) (fun hb => ?_)) <;> conv => whnf) | ((with_reducible first | refine Run.drawX rfl (by decide +kernel) ?_ | refine Run.drawT rfl (by decide +kernel) ?_ | refine Run.drawW rfl (by decide +kernel) ?_); conv => whnf) | fail)
    refine Run.back 900 (ts := [2]) hsz hdf (.inr ⟨_, rfl⟩) (by rfl) Tryd.func49 rfl ?_
    rw [ht] at fin next ⊢
    exact fin _ (fun id e5 e90 e900 => by simp only [upd, scrubH, bldr, e5, e90, e900, cond_false])
  · refine Run.unsafeString (i := 10) (rest := [11]) (k := [.code .ret]) (x := .tmp 7) (y := .tmp 12) (c := ⟨.builtin .unsafeString, #[.tmp 7, .tmp 12], #[113, 3]⟩) t rfl rfl rfl rfl rfl rfl rfl rfl rfl (e := 5) (n := t.size) (q := 90) (get := bytesG t) rfl rfl hb (fun _ _ => rfl) (by kernel_rfl) (by kernel_rfl) ?_
    refine Run.go ?_; (conv => whnf); repeat' (first | ((with_reducible refine Know.mk fun _ => ?_); conv => whnf) | ((with_reducible refine Need.mk ?_ ?_); (first | omega | (dsimp only; omega) | decide | exact bytes_le (by rfl) (by omega) | exact ⟨rfl, by omega, bytes_le (by rfl) (by omega), by omega⟩ | (refine ⟨?_, ?_⟩ <;> (rw [wrap64 (by omega) (by omega)]; omega))); conv => whnf) | ((with_reducible first | refine Both.mk ?_ ?_ | refine Any.mk fun b hb => ?_ | refine AskB.dec (fun hb => ?_) (fun hb => ?_) | refine AskB.ndec (fun hb => ?_) (fun hb => ?_) | refine AskB.mk (fun hb => ?_) (fun hb => ?_)) <;> conv => whnf) | ((with_reducible first | refine Run.drawX rfl (by decide +kernel) ?_ | refine Run.drawT rfl (by decide +kernel) ?_ | refine Run.drawW rfl (by decide +kernel) ?_); conv => whnf) | fail)
    refine Run.back 900 (ts := [2]) hsz hdf (.inr ⟨_, rfl⟩) (by rfl) Tryd.func49 rfl ?_
    exact fin _ (fun id e5 e90 e900 => by simp only [upd, scrubH, bldr, e5, e90, e900, cond_false])

/-- What a cell becomes. -/
def cellF (o : Int) (c : Cel) : ByteArray := if c.bad = true then ⟨#[UInt8.ofNat c.byte.toNat]⟩ else foldR c.r o
def catC (o : Int) : List Cel → ByteArray
  | [] => .empty
  | c :: r => cellF o c ++ catC o r
theorem catC_app (o : Int) : ∀ a b : List Cel, catC o (a ++ b) = catC o a ++ catC o b
  | [], b => by simp [catC]
  | x :: a, b => by simp only [List.cons_append, catC]; rw [catC_app o a b, ByteArray.append_assoc]
theorem catC_take (o : Int) (l : List Cel) (j : Nat) (h : j < l.length) : catC o (l.take (j + 1)) = catC o (l.take j) ++ cellF o (l.getD j tCel.z) := by
  rw [List.take_succ_eq_append_getElem h, catC_app, List.getD, List.getElem?_eq_getElem h]; simp [catC]
theorem cellF_size (o : Int) (c : Cel) : (cellF o c).size ≤ 12 := by
  unfold cellF
  split
  · exact Nat.le_of_ble_eq_true rfl
  · exact foldR_size _ _
theorem catC_size (o : Int) : ∀ l : List Cel, (catC o l).size ≤ 12 * l.length
  | [] => by simp [catC]
  | x :: r => by
    have h1 := catC_size o r
    have h2 := cellF_size o x
    simp only [catC, ByteArray.size_append, List.length_cons]; omega
/-- What a text becomes. -/
def textF (s : ByteArray) (o : Int) : ByteArray := catC o (cells s 0)
def badO (o : Int) : Prop := o < 0 ∨ 31 < o
instance (o : Int) : Decidable (badO o) := by unfold badO; infer_instance
def textL (s : ByteArray) (o : Int) : AV := tupL [.str (if badO o then .empty else textF s o), .int .i64 (if badO o then 2 else 0)]
theorem cell_byte (s : ByteArray) (p : Nat) : ∀ c ∈ cells s p, ((UInt8.ofNat c.byte.toNat).toNat : Int) = c.byte := by
  intro c hc
  by_cases h : p < s.size
  · have hw := Lib.width_pos s p
    rw [cells_in h] at hc
    rcases List.mem_cons.mp hc with rfl | hc
    · unfold cellAt
      split
      · have := bt_lt s p
        simp only [UInt8.toNat_ofNat']
        omega
      · rfl
    · exact cell_byte s (p + (Utf8.decode s p).2) c hc
  · rw [cells_out h] at hc; cases hc
termination_by s.size - p
theorem text26_fn (s : ByteArray) (o : Int) (hs : s.size ≤ 134217728) : Fn Tryd.prog 51 [.str s, .int .i64 o] (textL s o) := by
  refine Fn.of Tryd.f51 _ Tryd.func51 rfl (by decide) (by show 2 ≤ _; decide) tbOk 33 rfl fun S w0 gl => ?_
  refine Run.go ?_; (conv => whnf); repeat' (first | ((with_reducible refine Know.mk fun _ => ?_); conv => whnf) | ((with_reducible refine Need.mk ?_ ?_); (first | omega | (dsimp only; omega) | decide | exact bytes_le (by rfl) (by omega) | exact ⟨rfl, by omega, bytes_le (by rfl) (by omega), by omega⟩ | (refine ⟨?_, ?_⟩ <;> (rw [wrap64 (by omega) (by omega)]; omega))); conv => whnf) | ((with_reducible first | refine Both.mk ?_ ?_ | refine Any.mk fun b hb => ?_ | refine AskB.dec (fun hb => ?_) (fun hb => ?_) | refine AskB.ndec (fun hb => ?_) (fun hb => ?_) | refine AskB.mk (fun hb => ?_) (fun hb => ?_)) <;> conv => whnf) | ((with_reducible first | refine Run.drawX rfl (by decide +kernel) ?_ | refine Run.drawT rfl (by decide +kernel) ?_ | refine Run.drawW rfl (by decide +kernel) ?_); conv => whnf) | fail)
  refine Run.callBX (wrong37_fn o) rfl rfl ⟨Le.refl _, trivial⟩ rfl rfl rfl ?_
  (conv => whnf); repeat' (first | ((with_reducible refine Know.mk fun _ => ?_); conv => whnf) | ((with_reducible refine Need.mk ?_ ?_); (first | omega | (dsimp only; omega) | decide | exact bytes_le (by rfl) (by omega) | exact ⟨rfl, by omega, bytes_le (by rfl) (by omega), by omega⟩ | (refine ⟨?_, ?_⟩ <;> (rw [wrap64 (by omega) (by omega)]; omega))); conv => whnf) | ((with_reducible first | refine Both.mk ?_ ?_ | refine Any.mk fun b hb => ?_ | refine AskB.dec (fun hb => ?_) (fun hb => ?_) | refine AskB.ndec (fun hb => ?_) (fun hb => ?_) | refine AskB.mk (fun hb => ?_) (fun hb => ?_)) <;> conv => whnf) | ((with_reducible first | refine Run.drawX rfl (by decide +kernel) ?_ | refine Run.drawT rfl (by decide +kernel) ?_ | refine Run.drawW rfl (by decide +kernel) ?_); conv => whnf) | fail)
  · have hbad : badO o := hb
    unfold textL
    rw [if_pos hbad, if_pos hbad]
    exact Run.leave (ts := [4,5]) (.inr ⟨_, rfl⟩) rfl Tryd.func51 rfl (resT ⟨Le.refl _, Le.refl _, trivial⟩)
  have hok : ¬ badO o := hb
  unfold textL
  rw [if_neg hok, if_neg hok]
  have ho : 0 ≤ o ∧ o ≤ 31 := by unfold badO at hok; omega
  refine Run.callBX (steps38_fn o ho.1 ho.2) rfl rfl ⟨Le.refl _, trivial⟩ rfl rfl rfl ?_
  (conv => whnf); repeat' (first | ((with_reducible refine Know.mk fun _ => ?_); conv => whnf) | ((with_reducible refine Need.mk ?_ ?_); (first | omega | (dsimp only; omega) | decide | exact bytes_le (by rfl) (by omega) | exact ⟨rfl, by omega, bytes_le (by rfl) (by omega), by omega⟩ | (refine ⟨?_, ?_⟩ <;> (rw [wrap64 (by omega) (by omega)]; omega))); conv => whnf) | ((with_reducible first | refine Both.mk ?_ ?_ | refine Any.mk fun b hb => ?_ | refine AskB.dec (fun hb => ?_) (fun hb => ?_) | refine AskB.ndec (fun hb => ?_) (fun hb => ?_) | refine AskB.mk (fun hb => ?_) (fun hb => ?_)) <;> conv => whnf) | ((with_reducible first | refine Run.drawX rfl (by decide +kernel) ?_ | refine Run.drawT rfl (by decide +kernel) ?_ | refine Run.drawW rfl (by decide +kernel) ?_); conv => whnf) | fail)
  refine Run.callBX (cells_fn s hs) rfl rfl ⟨Le.refl _, trivial⟩ rfl rfl rfl ?_
  (conv => whnf); repeat' (first | ((with_reducible refine Know.mk fun _ => ?_); conv => whnf) | ((with_reducible refine Need.mk ?_ ?_); (first | omega | (dsimp only; omega) | decide | exact bytes_le (by rfl) (by omega) | exact ⟨rfl, by omega, bytes_le (by rfl) (by omega), by omega⟩ | (refine ⟨?_, ?_⟩ <;> (rw [wrap64 (by omega) (by omega)]; omega))); conv => whnf) | ((with_reducible first | refine Both.mk ?_ ?_ | refine Any.mk fun b hb => ?_ | refine AskB.dec (fun hb => ?_) (fun hb => ?_) | refine AskB.ndec (fun hb => ?_) (fun hb => ?_) | refine AskB.mk (fun hb => ?_) (fun hb => ?_)) <;> conv => whnf) | ((with_reducible first | refine Run.drawX rfl (by decide +kernel) ?_ | refine Run.drawT rfl (by decide +kernel) ?_ | refine Run.drawW rfl (by decide +kernel) ?_); conv => whnf) | fail)
  refine Run.holdBoxNil 6 1 90 5 1 (bytesG .empty) rfl rfl rfl rfl ?_
  have hcl := cells_len s 0
  have hT : ∀ j, (catC o ((cells s 0).take j)).size ≤ 2000000000 := fun j => by
    have h1 := catC_size o ((cells s 0).take j)
    have h2 : ((cells s 0).take j).length ≤ (cells s 0).length := by rw [List.length_take]; omega
    omega
  have hby := cell_byte s 0
  unfold textF
  generalize cells s 0 = L at hcl hT hby ⊢
  refine Run.loop [1, 6, 7, 15, 16] (fun (a : Nat × AV) => [(17, .int .i64 (a.1 : Int))]) (fun b => [(6, .box 95 [b.2, .row 90]), (90, .row 5 1 (catC o (L.take b.1)).size (bytesG (catC o (L.take b.1))))]) (fun a => a.1 ≤ L.length ∧ (a.2 = .nilp ∨ a.2 = .box 6 0)) (fun a => L.length - a.1) (0, .nilp) ⟨Nat.zero_le _, .inl rfl⟩ ⟨Le.refl _, trivial⟩ ⟨MOle.refl _, MOle.refl _, trivial⟩ ?_
  intro ⟨j, p⟩ ⟨hj, hp⟩ IH
  simp only [] at hj hp ⊢
  have hwj : IntKind.i64.wrap ((j : Int) + 1) = ((j + 1 : Nat) : Int) := wrap64 (by omega) (by omega)
  have hTj := hT j
  refine Run.go ?_; (conv => whnf); repeat' (first | ((with_reducible refine Know.mk fun _ => ?_); conv => whnf) | ((with_reducible refine Need.mk ?_ ?_); (first | omega | (dsimp only; omega) | decide | exact bytes_le (by rfl) (by omega) | exact ⟨rfl, by omega, bytes_le (by rfl) (by omega), by omega⟩ | (refine ⟨?_, ?_⟩ <;> (rw [wrap64 (by omega) (by omega)]; omega))); conv => whnf) | ((with_reducible first | refine Both.mk ?_ ?_ | refine Any.mk fun b hb => ?_ | refine AskB.dec (fun hb => ?_) (fun hb => ?_) | refine AskB.ndec (fun hb => ?_) (fun hb => ?_) | refine AskB.mk (fun hb => ?_) (fun hb => ?_)) <;> conv => whnf) | ((with_reducible first | refine Run.drawX rfl (by decide +kernel) ?_ | refine Run.drawT rfl (by decide +kernel) ?_ | refine Run.drawW rfl (by decide +kernel) ?_); conv => whnf) | fail)
  case _ =>
    have hjl : j < L.length := by omega
    have hb2 : (L.getD j tCel.z).bad = true := hb
    have hcf : cellF o (L.getD j tCel.z) = ⟨#[UInt8.ofNat (L.getD j tCel.z).byte.toNat]⟩ := if_pos hb2
    refine Run.bldr 95 5 6 90 p (catC o (L.take j)) (by rcases hp with rfl | rfl <;> exact MOle.refl _) (MOle.refl _) ?_
    refine wb6 p _ (UInt8.ofNat (L.getD j tCel.z).byte.toNat) rfl rfl rfl rfl rfl ?_ (by omega) hp ?_
    · rw [hby _ (by rw [List.getD, List.getElem?_eq_getElem hjl]; exact List.getElem_mem hjl)]; rfl
    refine Run.go ?_; (conv => whnf); repeat' (first | ((with_reducible refine Know.mk fun _ => ?_); conv => whnf) | ((with_reducible refine Need.mk ?_ ?_); (first | omega | (dsimp only; omega) | decide | exact bytes_le (by rfl) (by omega) | exact ⟨rfl, by omega, bytes_le (by rfl) (by omega), by omega⟩ | (refine ⟨?_, ?_⟩ <;> (rw [wrap64 (by omega) (by omega)]; omega))); conv => whnf) | ((with_reducible first | refine Both.mk ?_ ?_ | refine Any.mk fun b hb => ?_ | refine AskB.dec (fun hb => ?_) (fun hb => ?_) | refine AskB.ndec (fun hb => ?_) (fun hb => ?_) | refine AskB.mk (fun hb => ?_) (fun hb => ?_)) <;> conv => whnf) | ((with_reducible first | refine Run.drawX rfl (by decide +kernel) ?_ | refine Run.drawT rfl (by decide +kernel) ?_ | refine Run.drawW rfl (by decide +kernel) ?_); conv => whnf) | fail)
    refine Run.to _ _ ?_ ?_ (IH (j + 1, .box 6 0) (by simp only []; omega) ⟨by simp only []; omega, .inr rfl⟩)
    · exact ⟨Le.refl _, Le.refl _, Le.refl _, Le.refl _, Le.refl _, Le.int hwj, trivial⟩
    · refine ⟨MOle.refl _, ?_, trivial⟩
      simp only []
      rw [catC_take _ _ _ hjl, hcf]
      exact MOle.refl _
  case _ =>
    have hjl : j < L.length := by omega
    have hb2 : (L.getD j tCel.z).bad = false := hb
    have hcf : cellF o (L.getD j tCel.z) = foldR (L.getD j tCel.z).r o := if_neg (by rw [hb2]; exact Bool.noConfusion)
    refine Run.to [(1, .int .i64 o), (6, .box 6 0), (7, tF.L (stepsF o)), (15, tCel.L L), (16, .int .i64 L.length), (17, .int .i64 j), (27, .int .i32 (L.getD j tCel.z).r), (28, .int .i64 o), (29, tF.L (stepsF o))] [(6, .box 95 [p, .row 90]), (90, .row 5 1 (catC o (L.take j)).size (bytesG (catC o (L.take j))))]
      ⟨Le.refl _, Le.refl _, Le.refl _, Le.refl _, Le.refl _, Le.refl _, Le.refl _, Le.refl _, Le.refl _, trivial⟩ ⟨by rcases hp with rfl | rfl <;> exact MOle.refl _, MOle.refl _, trivial⟩ ?_
    refine fold41 _ p _ (L.getD j tCel.z).r o rfl rfl rfl rfl rfl rfl rfl rfl ?_ (by omega) hp ho.1 ho.2 ?_
    · exact ⟨⟨rfl, rfl, rfl, fun _ _ => rfl⟩, ⟨rfl, rfl, rfl, fun _ _ => rfl⟩, ⟨rfl, rfl, rfl, fun _ _ => rfl⟩, ⟨rfl, rfl, rfl, fun _ _ => rfl⟩, ⟨rfl, rfl, rfl, fun _ _ => rfl⟩, ⟨rfl, rfl, rfl, fun _ _ => rfl⟩, ⟨rfl, rfl, rfl, fun _ _ => rfl⟩, ⟨rfl, rfl, rfl, fun _ _ => rfl⟩, ⟨rfl, rfl, rfl, fun _ _ => rfl⟩, trivial⟩
    intro p' hp'
    refine Run.go ?_; (conv => whnf); repeat' (first | ((with_reducible refine Know.mk fun _ => ?_); conv => whnf) | ((with_reducible refine Need.mk ?_ ?_); (first | omega | (dsimp only; omega) | decide | exact bytes_le (by rfl) (by omega) | exact ⟨rfl, by omega, bytes_le (by rfl) (by omega), by omega⟩ | (refine ⟨?_, ?_⟩ <;> (rw [wrap64 (by omega) (by omega)]; omega))); conv => whnf) | ((with_reducible first | refine Both.mk ?_ ?_ | refine Any.mk fun b hb => ?_ | refine AskB.dec (fun hb => ?_) (fun hb => ?_) | refine AskB.ndec (fun hb => ?_) (fun hb => ?_) | refine AskB.mk (fun hb => ?_) (fun hb => ?_)) <;> conv => whnf) | ((with_reducible first | refine Run.drawX rfl (by decide +kernel) ?_ | refine Run.drawT rfl (by decide +kernel) ?_ | refine Run.drawW rfl (by decide +kernel) ?_); conv => whnf) | fail)
    refine Run.to _ _ ?_ ?_ (IH (j + 1, p') (by simp only []; omega) ⟨by simp only []; omega, hp'⟩)
    · exact ⟨Le.refl _, Le.refl _, Le.refl _, Le.refl _, Le.refl _, Le.int hwj, trivial⟩
    · refine ⟨MOle.refl _, ?_, trivial⟩
      simp only []
      rw [catC_take _ _ _ hjl, hcf]
      exact MOle.refl _
  case _ =>
    obtain rfl : j = L.length := by omega
    refine Run.bldr 95 5 6 90 p (catC o (L.take L.length)) (MOle.refl _) (MOle.refl _) ?_
    refine bs6 p _ rfl rfl rfl rfl rfl ?_
    rw [List.take_length]
    refine Run.go ?_; (conv => whnf); repeat' (first | ((with_reducible refine Know.mk fun _ => ?_); conv => whnf) | ((with_reducible refine Need.mk ?_ ?_); (first | omega | (dsimp only; omega) | decide | exact bytes_le (by rfl) (by omega) | exact ⟨rfl, by omega, bytes_le (by rfl) (by omega), by omega⟩ | (refine ⟨?_, ?_⟩ <;> (rw [wrap64 (by omega) (by omega)]; omega))); conv => whnf) | ((with_reducible first | refine Both.mk ?_ ?_ | refine Any.mk fun b hb => ?_ | refine AskB.dec (fun hb => ?_) (fun hb => ?_) | refine AskB.ndec (fun hb => ?_) (fun hb => ?_) | refine AskB.mk (fun hb => ?_) (fun hb => ?_)) <;> conv => whnf) | ((with_reducible first | refine Run.drawX rfl (by decide +kernel) ?_ | refine Run.drawT rfl (by decide +kernel) ?_ | refine Run.drawW rfl (by decide +kernel) ?_); conv => whnf) | fail)
    exact Run.leave (ts := [4,5]) (.inr ⟨_, rfl⟩) rfl Tryd.func51 rfl (resT ⟨Le.refl _, Le.refl _, trivial⟩)
/-- What a number becomes. -/
def runeL (r o : Int) : AV := tupL [.str (if badO o then .empty else foldR r o), .int .i64 (if badO o then 2 else 0)]
end Go.Proofs.YtnadacaoehpdnaaDoor.V

namespace Go.Proofs.YtnadacaoehpdnaaDoor.V
set_option linter.unusedVariables false
set_option linter.unusedSimpArgs false
open Go Go.Proofs Go.RowKit
set_option maxRecDepth 100000
set_option maxHeartbeats 4000000
open Go Go.Proofs Go.Proofs.YtnadacaoehpdnaaDoor.V
theorem bt_get! (s : ByteArray) (i : Nat) : ((s.get! i).toNat : Int) = bt s i := by
  unfold bt
  cases s with | mk a => 
  show ((a[i]!).toNat : Int) = _
  simp only [List.getD_eq_getElem?_getD, Array.getElem?_toList]
  rw [← Array.getD_eq_getD_getElem?]
  rfl
/-- A text of small bytes: its runes are its bytes. -/
theorem dec_ascii {s : ByteArray} {p : Nat} (h : bt s p < 128) : Utf8.decode s p = ((bt s p).toNat, 1) := by
  unfold Utf8.decode
  have e := bt_get! s p
  have h1 : (s.get! p).toNat < 128 := by omega
  simp only [Nat.add_zero, if_pos h1]
  rw [← e]; rfl
theorem runes_ascii (s : ByteArray) (h : ∀ i, bt s i < 128) (p : Nat) : runesE s p = (s.data.toList.drop p).map fun b => (b.toNat : Int) := by
  by_cases hp : p < s.size
  · have hp' : p < s.data.toList.length := by simpa using hp
    rw [runesE_in hp, dec_ascii (h p), runes_ascii s h (p + 1), List.drop_eq_getElem_cons hp', List.map_cons]
    congr 1
    unfold bt
    rw [List.getD, List.getElem?_eq_getElem hp']
    simp
  · have hp' : s.data.toList.length ≤ p := by simpa using hp
    rw [runesE_out hp, List.drop_eq_nil_of_le hp']; rfl
termination_by s.size - p
def bytesI (s : ByteArray) : List Int := s.data.toList.map fun b => (b.toNat : Int)
theorem ligB_ascii (r : Int) (i : Nat) : bt (ligB r) i < 128 := by
  have key : ∀ s : ByteArray, (s.data.toList.all fun b => b.toNat < 128) = true → bt s i < 128 := fun s hs => by
    unfold bt
    by_cases hi : i < s.data.toList.length
    · rw [List.getD, List.getElem?_eq_getElem hi]
      have := List.all_eq_true.mp hs _ (List.getElem_mem hi)
      have := of_decide_eq_true this
      simp only [Option.getD_some]; omega
    · rw [List.getD, List.getElem?_eq_none (by omega)]; decide
  apply key
  unfold ligB
  repeat' split
  all_goals first | rfl | skip
  rename_i h
  obtain ⟨k, hk⟩ : ∃ k : Fin 7, k.val = (r - 64256).toNat := ⟨⟨(r - 64256).toNat, by omega⟩, rfl⟩
  rw [← hk]
  clear hk h
  revert k; decide +kernel
theorem runes_lig (r : Int) : runesE (ligB r) 0 = bytesI (ligB r) := runes_ascii _ (ligB_ascii r) 0
theorem runesV_eq (r o : Int) : runesV r o = if isLig r = true ∧ o / 4 % 2 = 1 then bytesI (ligB r) else [r] := by
  unfold runesV
  rw [runes_lig]
end Go.Proofs.YtnadacaoehpdnaaDoor.V

namespace Go.Proofs.YtnadacaoehpdnaaDoor.V
set_option linter.unusedVariables false
set_option linter.unusedSimpArgs false
open Go
set_option maxRecDepth 100000
/-- A text of these bytes. -/
def bl (l : List UInt8) : ByteArray := ⟨l.toArray⟩
theorem bl_list (l : List UInt8) : (bl l).data.toList = l := by simp [bl]
theorem bl_of (s : ByteArray) : bl s.data.toList = s := by simp [bl]
theorem bl_app (a b : List UInt8) : bl (a ++ b) = bl a ++ bl b := by
  apply ByteArray.ext; apply Array.ext'; simp [bl]
theorem enc_eq (r : Int) : Utf8.encode r = bl (Lib.encodeRune r) := by
  unfold bl Utf8.encode Lib.encodeRune Lib.encodeRuneZ
  by_cases hv : Utf8.valid r = true
  · have h : (0 ≤ r ∧ r < 55296) ∨ (57344 ≤ r ∧ r ≤ 1114111) := by simpa [Utf8.valid] using hv
    obtain ⟨n, rfl⟩ : ∃ n : Nat, r = n := ⟨r.toNat, by omega⟩
    simp only [hv, if_true, Int.toNat_natCast]
    have t : ∀ (a b : Nat), (((a : Int) + (b : Int)).toNat.toUInt8) = UInt8.ofNat (a + b) := fun a b => by
      rw [show ((a : Int) + (b : Int)).toNat = a + b by omega]
    by_cases h1 : n < 128
    · rw [if_pos h1, if_pos (by omega)]
      simp [Nat.toUInt8]
    by_cases h2 : n < 2048
    · rw [if_neg h1, if_pos h2, if_neg (by omega), if_pos (by omega)]
      simp only [List.map_cons, List.map_nil]
      have e1 : (192 + (n : Int) / 64).toNat = 192 + n / 64 := by omega
      have e2 : (128 + (n : Int) % 64).toNat = 128 + n % 64 := by omega
      rw [e1, e2]
    by_cases h3 : n < 65536
    · rw [if_neg h1, if_neg h2, if_pos h3, if_neg (by omega), if_neg (by omega), if_pos (by omega)]
      simp only [List.map_cons, List.map_nil]
      have e1 : (224 + (n : Int) / 4096).toNat = 224 + n / 4096 := by omega
      have e2 : (128 + (n : Int) / 64 % 64).toNat = 128 + n / 64 % 64 := by omega
      have e3 : (128 + (n : Int) % 64).toNat = 128 + n % 64 := by omega
      rw [e1, e2, e3]
    · rw [if_neg h1, if_neg h2, if_neg h3, if_neg (by omega), if_neg (by omega), if_neg (by omega), if_pos (by omega)]
      simp only [List.map_cons, List.map_nil]
      have e0 : (240 + (n : Int) / 262144).toNat = 240 + n / 262144 := by omega
      have e1 : (128 + (n : Int) / 4096 % 64).toNat = 128 + n / 4096 % 64 := by omega
      have e2 : (128 + (n : Int) / 64 % 64).toNat = 128 + n / 64 % 64 := by omega
      have e3 : (128 + (n : Int) % 64).toNat = 128 + n % 64 := by omega
      rw [e0, e1, e2, e3]
  · have h : ¬ ((0 ≤ r ∧ r < 55296) ∨ (57344 ≤ r ∧ r ≤ 1114111)) := by simpa [Utf8.valid] using hv
    have hv' : Utf8.valid r = false := by simpa using hv
    simp only [hv', Bool.false_eq_true, if_false]
    rw [if_neg (show ¬ (0 ≤ r ∧ r ≤ 127) by omega), if_neg (show ¬ (128 ≤ r ∧ r ≤ 2047) by omega), if_neg (show ¬ ((2048 ≤ r ∧ r < 55296) ∨ (57343 < r ∧ r ≤ 65535)) by omega), if_neg (show ¬ (65536 ≤ r ∧ r ≤ 1114111) by omega)]
    rfl
theorem toU (x : Int) (h0 : 0 ≤ x) (h1 : x < 256) : (x.toNat.toUInt8).toNat = x.toNat := by
  rw [Nat.toUInt8, UInt8.toNat_ofNat']
  omega
def encs (rs : List Int) : List UInt8 := rs.flatMap Lib.encodeRune
theorem encs_app (a b : List Int) : encs (a ++ b) = encs a ++ encs b := by unfold encs; rw [List.flatMap_append]
theorem encs_cons (r : Int) (b : List Int) : encs (r :: b) = Lib.encodeRune r ++ encs b := rfl

/-- The steps, by their bits. -/
def stepB (c k l : Bool) (x : Int) : Int := cond l (letterV (cond k (bareV (cond c (lowV x) x)) (cond c (lowV x) x))) (cond k (bareV (cond c (lowV x) x)) (cond c (lowV x) x))
/-- What a rune becomes, as runes: by the bits of the sum. -/
def foldB (c k g l j : Bool) (x : Int) : List Int :=
  if (j = true ∧ kOf x = 4) ∨ (k = true ∧ kOf x = 2) then [] else (if isLig x = true ∧ g = true then bytesI (ligB x) else [x]).map (stepB c k l)
/-- What a rune becomes, as runes. -/
def foldL (o r : Int) : List Int := foldB (decide (o % 2 = 1)) (decide (o / 2 % 2 = 1)) (decide (o / 4 % 2 = 1)) (decide (o / 8 % 2 = 1)) (decide (o / 16 % 2 = 1)) r
theorem stepV_eq (o x : Int) : stepV o x = stepB (decide (o % 2 = 1)) (decide (o / 2 % 2 = 1)) (decide (o / 8 % 2 = 1)) x := by
  unfold stepV appL stepsF stepB
  by_cases h1 : o % 2 = 1 <;> by_cases h2 : o / 2 % 2 = 1 <;> by_cases h3 : o / 8 % 2 = 1 <;> simp [h1, h2, h3, appF]
theorem catE_eq (o : Int) : ∀ l : List Int, catE o l = bl (encs (l.map (stepV o)))
  | [] => rfl
  | x :: r => by
    rw [catE, catE_eq o r, enc_eq, ← bl_app]; rfl
theorem foldR_eq (r o : Int) : foldR r o = bl (encs (foldL o r)) := by
  unfold foldR foldL foldB dropV
  simp only [decide_eq_true_eq]
  split
  · rfl
  · rw [catE_eq, runesV_eq]
    congr 2
    refine List.map_congr_left (fun x _ => stepV_eq o x)
end Go.Proofs.YtnadacaoehpdnaaDoor.V

namespace Go.Proofs.YtnadacaoehpdnaaDoor.V
set_option linter.unusedVariables false
set_option linter.unusedSimpArgs false
open Go Go.Proofs Go.RowKit
set_option maxRecDepth 100000
set_option maxHeartbeats 4000000
open Go Go.Proofs Go.Proofs.YtnadacaoehpdnaaDoor.V
theorem lat_rune : ∀ k : Fin 64, latR.getD k.val 0 ≠ 65533 := by decide +kernel
theorem lat_cells : ∀ (d k : Nat), 64 - k = d → k ≤ 64 → (cells latB (latP.getD k 0)).length = 64 - k ∧ ∀ i, i < 64 - k → ((cells latB (latP.getD k 0)).getD i tCel.z).r = (latR.getD (k + i) 0 : Nat)
  | 0, k, hd, hk => by
    obtain rfl : k = 64 := by omega
    rw [cells_out (by decide)]
    exact ⟨rfl, fun i hi => by omega⟩
  | d + 1, k, hd, hk => by
    obtain ⟨h1, h2, h3⟩ := lat_dec ⟨k, by omega⟩
    have hr := lat_rune ⟨k, by omega⟩
    simp only at h1 h2 h3 hr
    obtain ⟨i1, i2⟩ := lat_cells d (k + 1) (by omega) (by omega)
    rw [cells_in (show latP.getD k 0 < latB.size from h3), h1]
    simp only []
    rw [show latP.getD k 0 + (latP.getD (k + 1) 0 - latP.getD k 0) = latP.getD (k + 1) 0 by omega]
    refine ⟨by rw [List.length_cons, i1]; omega, fun i hi => ?_⟩
    cases i with
    | zero =>
      rw [List.getD_cons_zero]
      unfold cellAt
      rw [h1, if_neg (fun h => hr h.1)]; rfl
    | succ i =>
      rw [List.getD_cons_succ, i2 i (by omega)]
      congr 2; omega
theorem bare45_fn (r : Int) : Fn Tryd.prog 92 [.int .i32 r] (.int .i32 (bareV r)) := by
  refine Fn.of Tryd.f92 _ Tryd.func92 rfl (by decide) (by show 1 ≤ _; decide) tbOk 18 rfl fun S w0 gl => ?_
  obtain ⟨hl, hr⟩ := lat_cells 64 0 rfl (by omega)
  have hw : 192 ≤ r → r ≤ 255 → IntKind.i32.wrap (r - 192) = r - 192 := fun h1 h2 => wrap32 (by omega) (by omega)
  refine Run.go ?_; (conv => whnf); repeat' (first | ((with_reducible refine Know.mk fun _ => ?_); conv => whnf) | ((with_reducible refine Need.mk ?_ ?_); (first | omega | (dsimp only; omega) | decide | exact bytes_le (by rfl) (by omega) | exact ⟨rfl, by omega, bytes_le (by rfl) (by omega), by omega⟩ | (refine ⟨?_, ?_⟩ <;> (rw [wrap64 (by omega) (by omega)]; omega))); conv => whnf) | ((with_reducible first | refine Both.mk ?_ ?_ | refine Any.mk fun b hb => ?_ | refine AskB.dec (fun hb => ?_) (fun hb => ?_) | refine AskB.ndec (fun hb => ?_) (fun hb => ?_) | refine AskB.mk (fun hb => ?_) (fun hb => ?_)) <;> conv => whnf) | ((with_reducible first | refine Run.drawX rfl (by decide +kernel) ?_ | refine Run.drawT rfl (by decide +kernel) ?_ | refine Run.drawW rfl (by decide +kernel) ?_); conv => whnf) | fail)
  · exact Run.leave (ts := [2]) (.inr ⟨_, rfl⟩) rfl Tryd.func92 rfl (Le.int (by unfold bareV; rw [if_pos (.inl hb)]))
  · exact Run.leave (ts := [2]) (.inr ⟨_, rfl⟩) rfl Tryd.func92 rfl (Le.int (by unfold bareV; rw [if_pos (.inr hb)]))
  rename_i hb1
  have hw := hw (by omega) (by omega)
  refine Run.callBX (cells36_fn latB (by decide)) rfl rfl ⟨Le.refl _, trivial⟩ rfl rfl rfl ?_
  have e0 : latP.getD 0 0 = 0 := rfl
  rw [e0] at hl hr
  generalize cells latB 0 = L at hl hr ⊢
  (conv => whnf); repeat' (first | ((with_reducible refine Know.mk fun _ => ?_); conv => whnf) | ((with_reducible refine Need.mk ?_ ?_); (first | omega | (dsimp only; omega) | decide | exact bytes_le (by rfl) (by omega) | exact ⟨rfl, by omega, bytes_le (by rfl) (by omega), by omega⟩ | (refine ⟨?_, ?_⟩ <;> (rw [wrap64 (by omega) (by omega)]; omega))); conv => whnf) | ((with_reducible first | refine Both.mk ?_ ?_ | refine Any.mk fun b hb => ?_ | refine AskB.dec (fun hb => ?_) (fun hb => ?_) | refine AskB.ndec (fun hb => ?_) (fun hb => ?_) | refine AskB.mk (fun hb => ?_) (fun hb => ?_)) <;> conv => whnf) | ((with_reducible first | refine Run.drawX rfl (by decide +kernel) ?_ | refine Run.drawT rfl (by decide +kernel) ?_ | refine Run.drawW rfl (by decide +kernel) ?_); conv => whnf) | fail)
  refine Run.leave (ts := [2]) (.inr ⟨_, rfl⟩) rfl Tryd.func92 rfl (Le.int ?_)
  unfold bareV
  rw [if_neg (by omega), hw]
  have := hr (r - 192).toNat (by omega)
  rw [Nat.zero_add] at this
  exact this
theorem lig61_fn (r : Int) : Fn Tryd.prog 106 [.int .i32 r] (.str (if isLig r = true then ligB r else .empty)) := by
  have hno : ¬ (r = 198 ∨ r = 230 ∨ r = 338 ∨ r = 339 ∨ r = 223 ∨ r = 383 ∨ r = 306 ∨ r = 307 ∨ (64256 ≤ r ∧ r ≤ 64262)) → isLig r = false := fun h => decide_eq_false h
  refine Fn.of Tryd.f106 _ Tryd.func106 rfl (by decide) (by show 1 ≤ _; decide) tbOk 33 rfl fun S w0 gl => ?_
  refine Run.go ?_; (conv => whnf); repeat' (first | ((with_reducible refine Know.mk fun _ => ?_); conv => whnf) | ((with_reducible refine Need.mk ?_ ?_); (first | omega | (dsimp only; omega) | decide | exact bytes_le (by rfl) (by omega) | exact ⟨rfl, by omega, bytes_le (by rfl) (by omega), by omega⟩ | (refine ⟨?_, ?_⟩ <;> (rw [wrap64 (by omega) (by omega)]; omega))); conv => whnf) | ((with_reducible refine Both.mk ?_ ?_) <;> conv => whnf) | ((with_reducible refine Any.mk fun b hb => ?_); conv => whnf) | ((with_reducible first | refine AskB.dec (fun hb => ?_) (fun hb => ?_) | refine AskB.ndec (fun hb => ?_) (fun hb => ?_) | refine AskB.mk (fun hb => ?_) (fun hb => ?_)) <;> first | (exfalso; omega) | (conv => whnf)) | ((with_reducible first | refine Run.drawX rfl (by decide +kernel) ?_ | refine Run.drawT rfl (by decide +kernel) ?_ | refine Run.drawW rfl (by decide +kernel) ?_); conv => whnf) | fail)
  all_goals first
    | (subst hb; exact Run.leave (ts := [2]) (.inr ⟨_, rfl⟩) rfl Tryd.func106 rfl (Le.str (by decide +kernel)))
    | (refine Run.leave (ts := [2]) (.inr ⟨_, rfl⟩) rfl Tryd.func106 rfl (Le.str ?_)
       rw [hno (by omega)]; rfl)
theorem plain46_fn (r : Int) : Fn Tryd.prog 93 [.int .i32 r] (.int .i32 (letterV r)) := by
  refine Fn.of Tryd.f93 _ Tryd.func93 rfl (by decide) (by show 1 ≤ _; decide) tbOk 13 rfl fun S w0 gl => ?_
  refine Run.go ?_; (conv => whnf); repeat' (first | ((with_reducible refine Know.mk fun _ => ?_); conv => whnf) | ((with_reducible refine Need.mk ?_ ?_); (first | omega | (dsimp only; omega) | decide | exact bytes_le (by rfl) (by omega) | exact ⟨rfl, by omega, bytes_le (by rfl) (by omega), by omega⟩ | (refine ⟨?_, ?_⟩ <;> (rw [wrap64 (by omega) (by omega)]; omega))); conv => whnf) | ((with_reducible first | refine Both.mk ?_ ?_ | refine Any.mk fun b hb => ?_ | refine AskB.dec (fun hb => ?_) (fun hb => ?_) | refine AskB.ndec (fun hb => ?_) (fun hb => ?_) | refine AskB.mk (fun hb => ?_) (fun hb => ?_)) <;> conv => whnf) | ((with_reducible first | refine Run.drawX rfl (by decide +kernel) ?_ | refine Run.drawT rfl (by decide +kernel) ?_ | refine Run.drawW rfl (by decide +kernel) ?_); conv => whnf) | fail)
  iterate 4 (· exact Run.leave (ts := [2]) (.inr ⟨_, rfl⟩) rfl Tryd.func93 rfl (Le.int (by subst hb; rfl)))
  · refine Run.leave (ts := [2]) (.inr ⟨_, rfl⟩) rfl Tryd.func93 rfl (Le.int ?_)
    unfold letterV
    rw [if_neg (by omega)]
theorem small44_fn (r : Int) : Fn Tryd.prog 91 [.int .i32 r] (.int .i32 (lowV r)) := by
  have h32 : ∀ x : Int, -1000000 ≤ x → x ≤ 1000000 → IntKind.i32.wrap x = x := fun x h1 h2 => wrap32 (by omega) (by omega)
  have htm : 0 ≤ r → Int.tmod r 2 = r % 2 := fun h => Int.tmod_eq_emod_of_nonneg h
  refine Fn.of Tryd.f91 _ Tryd.func91 rfl (by decide) (by show 1 ≤ _; decide) tbOk 107 rfl fun S w0 gl => ?_
  refine Run.go ?_; (conv => whnf); repeat' (first | ((with_reducible refine Know.mk fun _ => ?_); conv => whnf) | ((with_reducible refine Need.mk ?_ ?_); (first | omega | (dsimp only; omega) | decide | exact bytes_le (by rfl) (by omega) | exact ⟨rfl, by omega, bytes_le (by rfl) (by omega), by omega⟩ | (refine ⟨?_, ?_⟩ <;> (rw [wrap64 (by omega) (by omega)]; omega))); conv => whnf) | ((with_reducible refine Both.mk ?_ ?_) <;> conv => whnf) | ((with_reducible refine Any.mk fun b hb => ?_); conv => whnf) | ((with_reducible first | refine AskB.dec (fun hb => ?_) (fun hb => ?_) | refine AskB.ndec (fun hb => ?_) (fun hb => ?_) | refine AskB.mk (fun hb => ?_) (fun hb => ?_)) <;> first | (exfalso; omega) | (conv => whnf)) | ((with_reducible first | refine Run.drawX rfl (by decide +kernel) ?_ | refine Run.drawT rfl (by decide +kernel) ?_ | refine Run.drawW rfl (by decide +kernel) ?_); conv => whnf) | fail)
  all_goals refine Run.leave (ts := [2]) (.inr ⟨_, rfl⟩) rfl Tryd.func91 rfl (Le.int ?_)
  all_goals unfold lowV
  all_goals first
    | (rw [if_pos (by omega)]; exact h32 _ (by omega) (by omega))
    | (rw [if_neg (by omega), if_pos (by omega)]; exact h32 _ (by omega) (by omega))
    | (rw [if_neg (by omega), if_neg (by omega), if_neg (by omega), if_neg (by omega), if_neg (by omega), if_neg (by omega)])
    | (try rw [h32 _ (by omega) (by omega)]
       (repeat' split) <;> first | omega | (have ht := htm (by omega); omega))
/-- A text's bytes as a slice. -/
def bL (s : ByteArray) : AV := .sl s.size 1 (bytesG s)
theorem bt_bl (l : List Int) (h : ∀ x ∈ l, 0 ≤ x ∧ x < 256) (i : Nat) : bt (bl (l.map fun x => x.toNat.toUInt8)) i = l.getD i 0 := by
  unfold bt
  rw [bl_list]
  by_cases hi : i < l.length
  · rw [List.getD, List.getD, List.getElem?_map, List.getElem?_eq_getElem hi]
    have := h _ (List.getElem_mem hi)
    simp only [Option.map_some, Option.getD_some]
    rw [toU _ this.1 this.2]; omega
  · rw [List.getD, List.getD, List.getElem?_eq_none (by simpa using hi), List.getElem?_eq_none (by simpa using hi)]; rfl
theorem bytes_out {s : ByteArray} (l : List Int) (hs : s = bl (l.map fun x => x.toNat.toUInt8)) (h : ∀ x ∈ l, 0 ≤ x ∧ x < 256) {n : Nat} {g : Nat → Nat → AV} (hn : n = l.length) (hg : ∀ i, i < n → Le (g i 0) (.int .u8 (l.getD i 0))) : Le (.sl n 1 g) (bL s) := by
  subst hs; subst hn
  have hz : (bl (l.map fun x => x.toNat.toUInt8)).size = l.length := by simp [bl, ByteArray.size]
  unfold bL
  rw [hz]
  refine Le.sl (fun i j hi hj => ?_)
  obtain rfl : j = 0 := by omega
  have := hg i hi
  rw [← bt_bl l h i] at this
  exact this
theorem and63_i32 (r : Int) (h1 : 0 ≤ r) (h2 : r < 2147483648) : IntKind.i32.wrap ↑(BitVec.ofInt IntKind.i32.bits r &&& BitVec.ofInt IntKind.i32.bits 63).toNat = r % 64 := by
  obtain ⟨n, rfl⟩ : ∃ n : Nat, r = n := ⟨r.toNat, by omega⟩
  have e : (BitVec.ofInt IntKind.i32.bits (n : Int) &&& BitVec.ofInt IntKind.i32.bits 63).toNat = n % 64 := by
    rw [BitVec.toNat_and, ofInt_nat n (by omega), show (BitVec.ofInt IntKind.i32.bits 63).toNat = 2 ^ 6 - 1 from rfl, Nat.and_two_pow_sub_one_eq_mod]
  rw [e]
  rw [wrap32 (by omega) (by omega)]; omega
theorem u8_in (x : Int) (h0 : 0 ≤ x) (h1 : x < 256) : IntKind.u8.wrap x = x := IntWalk.u8_in x ⟨h0, by show x ≤ _; omega⟩
theorem or_u8_192 : ∀ n : Fin 64, IntKind.u8.wrap ↑(BitVec.ofInt IntKind.u8.bits 192 ||| BitVec.ofInt IntKind.u8.bits (n.val : Int)).toNat = 192 + (n.val : Int) := by decide +kernel
theorem or_u8_128 : ∀ n : Fin 64, IntKind.u8.wrap ↑(BitVec.ofInt IntKind.u8.bits 128 ||| BitVec.ofInt IntKind.u8.bits (n.val : Int)).toNat = 128 + (n.val : Int) := by decide +kernel
theorem or_u8_224 : ∀ n : Fin 16, IntKind.u8.wrap ↑(BitVec.ofInt IntKind.u8.bits 224 ||| BitVec.ofInt IntKind.u8.bits (n.val : Int)).toNat = 224 + (n.val : Int) := by decide +kernel
theorem or_u8_240 : ∀ n : Fin 8, IntKind.u8.wrap ↑(BitVec.ofInt IntKind.u8.bits 240 ||| BitVec.ofInt IntKind.u8.bits (n.val : Int)).toNat = 240 + (n.val : Int) := by decide +kernel
theorem ob192 (x : Int) (h0 : 0 ≤ x) (h1 : x < 64) : IntKind.u8.wrap ↑(BitVec.ofInt IntKind.u8.bits 192 ||| BitVec.ofInt IntKind.u8.bits (IntKind.u8.wrap x)).toNat = 192 + x := by
  rw [u8_in x h0 (by omega)]
  have := or_u8_192 ⟨x.toNat, by omega⟩
  simp only [Int.toNat_of_nonneg h0] at this; exact this
theorem ob128 (x : Int) (h0 : 0 ≤ x) (h1 : x < 64) : IntKind.u8.wrap ↑(BitVec.ofInt IntKind.u8.bits 128 ||| BitVec.ofInt IntKind.u8.bits (IntKind.u8.wrap x)).toNat = 128 + x := by
  rw [u8_in x h0 (by omega)]
  have := or_u8_128 ⟨x.toNat, by omega⟩
  simp only [Int.toNat_of_nonneg h0] at this; exact this
theorem ob224 (x : Int) (h0 : 0 ≤ x) (h1 : x < 16) : IntKind.u8.wrap ↑(BitVec.ofInt IntKind.u8.bits 224 ||| BitVec.ofInt IntKind.u8.bits (IntKind.u8.wrap x)).toNat = 224 + x := by
  rw [u8_in x h0 (by omega)]
  have := or_u8_224 ⟨x.toNat, by omega⟩
  simp only [Int.toNat_of_nonneg h0] at this; exact this
theorem ob240 (x : Int) (h0 : 0 ≤ x) (h1 : x < 8) : IntKind.u8.wrap ↑(BitVec.ofInt IntKind.u8.bits 240 ||| BitVec.ofInt IntKind.u8.bits (IntKind.u8.wrap x)).toNat = 240 + x := by
  rw [u8_in x h0 (by omega)]
  have := or_u8_240 ⟨x.toNat, by omega⟩
  simp only [Int.toNat_of_nonneg h0] at this; exact this
theorem fd6 (r : Int) : Int.fdiv r (2 ^ min (Int.toNat 6) IntKind.i32.bits) = r / 64 := by show Int.fdiv r 64 = _; rw [Int.fdiv_eq_ediv_of_nonneg _ (by decide)]
theorem fd12 (r : Int) : Int.fdiv r (2 ^ min (Int.toNat 12) IntKind.i32.bits) = r / 4096 := by show Int.fdiv r 4096 = _; rw [Int.fdiv_eq_ediv_of_nonneg _ (by decide)]
theorem fd18 (r : Int) : Int.fdiv r (2 ^ min (Int.toNat 18) IntKind.i32.bits) = r / 262144 := by show Int.fdiv r 262144 = _; rw [Int.fdiv_eq_ediv_of_nonneg _ (by decide)]
theorem encZ (r : Int) : Utf8.encode r = bl ((Lib.encodeRuneZ r).map fun x => x.toNat.toUInt8) := enc_eq r
theorem wr1 (r : Int) (h0 : 0 ≤ r) (h1 : r < 4096) : IntKind.u8.wrap ↑(BitVec.ofInt IntKind.u8.bits 192 ||| BitVec.ofInt IntKind.u8.bits (IntKind.u8.wrap (Int.fdiv r (2 ^ min (Int.toNat 6) IntKind.i32.bits)))).toNat = 192 + r / 64 := by
  rw [fd6]; exact ob192 _ (by omega) (by omega)
theorem wr2 (r : Int) (h0 : 0 ≤ r) (h1 : r < 1114112) : IntKind.u8.wrap ↑(BitVec.ofInt IntKind.u8.bits 128 ||| BitVec.ofInt IntKind.u8.bits (IntKind.u8.wrap (IntKind.i32.wrap ↑(BitVec.ofInt IntKind.i32.bits r &&& BitVec.ofInt IntKind.i32.bits 63).toNat))).toNat = 128 + r % 64 := by
  rw [and63_i32 r h0 (by omega)]; exact ob128 _ (by omega) (by omega)
theorem wr3 (r : Int) (h0 : 0 ≤ r) (h1 : r < 1114112) : IntKind.u8.wrap ↑(BitVec.ofInt IntKind.u8.bits 128 ||| BitVec.ofInt IntKind.u8.bits (IntKind.u8.wrap (IntKind.i32.wrap ↑(BitVec.ofInt IntKind.i32.bits (Int.fdiv r (2 ^ min (Int.toNat 6) IntKind.i32.bits)) &&& BitVec.ofInt IntKind.i32.bits 63).toNat))).toNat = 128 + r / 64 % 64 := by
  rw [fd6, and63_i32 _ (by omega) (by omega)]; exact ob128 _ (by omega) (by omega)
theorem wr4 (r : Int) (h0 : 0 ≤ r) (h1 : r < 65536) : IntKind.u8.wrap ↑(BitVec.ofInt IntKind.u8.bits 224 ||| BitVec.ofInt IntKind.u8.bits (IntKind.u8.wrap (Int.fdiv r (2 ^ min (Int.toNat 12) IntKind.i32.bits)))).toNat = 224 + r / 4096 := by
  rw [fd12]; exact ob224 _ (by omega) (by omega)
theorem wr5 (r : Int) (h0 : 0 ≤ r) (h1 : r < 1114112) : IntKind.u8.wrap ↑(BitVec.ofInt IntKind.u8.bits 128 ||| BitVec.ofInt IntKind.u8.bits (IntKind.u8.wrap (IntKind.i32.wrap ↑(BitVec.ofInt IntKind.i32.bits (Int.fdiv r (2 ^ min (Int.toNat 12) IntKind.i32.bits)) &&& BitVec.ofInt IntKind.i32.bits 63).toNat))).toNat = 128 + r / 4096 % 64 := by
  rw [fd12, and63_i32 _ (by omega) (by omega)]; exact ob128 _ (by omega) (by omega)
theorem wr6 (r : Int) (h0 : 0 ≤ r) (h1 : r < 1114112) : IntKind.u8.wrap ↑(BitVec.ofInt IntKind.u8.bits 240 ||| BitVec.ofInt IntKind.u8.bits (IntKind.u8.wrap (Int.fdiv r (2 ^ min (Int.toNat 18) IntKind.i32.bits)))).toNat = 240 + r / 262144 := by
  rw [fd18]; exact ob240 _ (by omega) (by omega)
theorem written62_fn (r : Int) : Fn Tryd.prog 107 [.int .i32 r] (bL (Utf8.encode r)) := by
  refine Fn.of Tryd.f107 _ Tryd.func107 rfl (by decide) (by show 1 ≤ _; decide) tbOk 71 rfl fun S w0 gl => ?_
  refine Run.go ?_; (conv => whnf); repeat' (first | ((with_reducible refine Know.mk fun _ => ?_); conv => whnf) | ((with_reducible refine Need.mk ?_ ?_); (first | omega | (dsimp only; omega) | decide | exact bytes_le (by rfl) (by omega) | exact ⟨rfl, by omega, bytes_le (by rfl) (by omega), by omega⟩ | (refine ⟨?_, ?_⟩ <;> (rw [wrap64 (by omega) (by omega)]; omega))); conv => whnf) | ((with_reducible refine Both.mk ?_ ?_) <;> conv => whnf) | ((with_reducible refine Any.mk fun b hb => ?_); conv => whnf) | ((with_reducible first | refine AskB.dec (fun hb => ?_) (fun hb => ?_) | refine AskB.ndec (fun hb => ?_) (fun hb => ?_) | refine AskB.mk (fun hb => ?_) (fun hb => ?_)) <;> first | (exfalso; omega) | (conv => whnf)) | ((with_reducible first | refine Run.drawX rfl (by decide +kernel) ?_ | refine Run.drawT rfl (by decide +kernel) ?_ | refine Run.drawW rfl (by decide +kernel) ?_); conv => whnf) | fail)
  all_goals refine Run.leave (ts := [2]) (.inr ⟨_, rfl⟩) rfl Tryd.func107 rfl (bytes_out (Lib.encodeRuneZ r) (encZ r) ?_ ?_ ?_)
  all_goals first
    | (rw [Lib.encodeRuneZ_bad (by omega)])
    | (rw [Lib.encodeRuneZ_one (by omega) (by omega)])
    | (rw [Lib.encodeRuneZ_two (by omega) (by omega)])
    | (rw [Lib.encodeRuneZ_three (by omega)])
    | (rw [Lib.encodeRuneZ_four (by omega) (by omega)])
  all_goals first
    | rfl
    | (intro x hx
       simp only [List.mem_cons, List.not_mem_nil, or_false] at hx
       rcases hx with rfl | rfl | rfl | rfl <;> omega)
    | (intro x hx
       simp only [List.mem_cons, List.not_mem_nil, or_false] at hx
       rcases hx with rfl | rfl | rfl <;> omega)
    | (intro x hx
       simp only [List.mem_cons, List.not_mem_nil, or_false] at hx
       rcases hx with rfl | rfl <;> omega)
    | (intro x hx
       simp only [List.mem_cons, List.not_mem_nil, or_false] at hx
       subst hx; omega)
    | skip
  all_goals
    intro i hi
    match i, hi with
    | 0, hi => first | exact Le.int (u8_in r (by omega) (by omega)) | exact Le.int (wr1 r (by omega) (by omega)) | exact Le.int (wr4 r (by omega) (by omega)) | exact Le.int (wr6 r (by omega) (by omega)) | exact Le.int (wr4 65533 (by omega) (by omega))
    | 1, hi => first | exact absurd hi (by decide) | exact Le.int (wr2 r (by omega) (by omega)) | exact Le.int (wr3 r (by omega) (by omega)) | exact Le.int (wr5 r (by omega) (by omega)) | exact Le.int (wr3 65533 (by omega) (by omega))
    | 2, hi => first | exact absurd hi (by decide) | exact Le.int (wr2 r (by omega) (by omega)) | exact Le.int (wr3 r (by omega) (by omega)) | exact Le.int (wr2 65533 (by omega) (by omega))
    | 3, hi => first | exact absurd hi (by decide) | exact Le.int (wr2 r (by omega) (by omega))
    | i + 4, hi => exact absurd hi (by show ¬ i + 4 < _; omega)
end Go.Proofs.YtnadacaoehpdnaaDoor.V

namespace Go.Proofs.YtnadacaoehpdnaaDoor.V
set_option linter.unusedVariables false
set_option linter.unusedSimpArgs false
open Go Go.Proofs Go.RowKit
set_option maxRecDepth 100000
set_option maxHeartbeats 4000000
open Go Go.Proofs Go.Proofs.YtnadacaoehpdnaaDoor.V
def dropE (k : Int) (l : List Int) : List Int := l.filter (fun r => !decide (kOf r = k))
theorem dropE_no {k x : Int} {l : List Int} (h : kOf x = k) : dropE k (x :: l) = dropE k l := by unfold dropE; rw [List.filter_cons_of_neg (by simp [h])]
theorem dropE_yes {k x : Int} {l : List Int} (h : ¬ kOf x = k) : dropE k (x :: l) = x :: dropE k l := by unfold dropE; rw [List.filter_cons_of_pos (by simp [h])]
theorem drop42_fn (l : List Int) (k : Int) (hl : l.length ≤ 1000000) : FnF Tryd.prog 89 [tRn.L l, .int .i64 k] (.row 0) [tRn.R 21 (dropE k l)] := by
  refine FnF.of Tryd.f89 _ Tryd.func89 rfl (by decide) (by show 2 ≤ _; decide) tbOk 28 rfl fun S w0 gl => ?_
  refine Run.go ?_; (conv => whnf); repeat' (first | ((with_reducible refine Know.mk fun _ => ?_); conv => whnf) | ((with_reducible refine Need.mk ?_ ?_); (first | omega | (dsimp only; omega) | decide | exact bytes_le (by rfl) (by omega) | exact ⟨rfl, by omega, bytes_le (by rfl) (by omega), by omega⟩ | (refine ⟨?_, ?_⟩ <;> (rw [wrap64 (by omega) (by omega)]; omega))); conv => whnf) | ((with_reducible first | refine Both.mk ?_ ?_ | refine Any.mk fun b hb => ?_ | refine AskB.dec (fun hb => ?_) (fun hb => ?_) | refine AskB.ndec (fun hb => ?_) (fun hb => ?_) | refine AskB.mk (fun hb => ?_) (fun hb => ?_)) <;> conv => whnf) | ((with_reducible first | refine Run.drawX rfl (by decide +kernel) ?_ | refine Run.drawT rfl (by decide +kernel) ?_ | refine Run.drawW rfl (by decide +kernel) ?_); conv => whnf) | fail)
  refine Run.holdNil 5 1000 21 1 (fun _ _ => .u) rfl ?_
  refine Run.loop [0, 1] (fun (a : Nat × List Int) => [(5, .row 1000), (6, .int .i64 (a.1 : Int))]) (fun a => [(1000, tRn.R 21 a.2)]) (fun a => a.1 ≤ l.length ∧ a.2.length ≤ a.1 ∧ a.2 ++ dropE k (l.drop a.1) = dropE k l) (fun a => l.length - a.1) (0, []) ⟨Nat.zero_le _, Nat.zero_le _, rfl⟩ ⟨Le.refl _, Le.refl _, trivial⟩ ⟨⟨rfl, rfl, rfl, fun i j hi => absurd hi (Nat.not_lt_zero _)⟩, trivial⟩ ?_
  intro ⟨j, m⟩ ⟨hj, hm, hc⟩ IH
  simp only at hj hm hc
  have hwj : IntKind.i64.wrap ((j : Int) + 1) = ((j + 1 : Nat) : Int) := wrap64 (by omega) (by omega)
  show Run _ _ (lst (_ ++ [(5, .row 1000), (6, .int .i64 (j : Int))])) (lstH [(1000, tRn.R 21 m)])
  refine Run.go ?_; (conv => whnf); repeat' (first | ((with_reducible refine Know.mk fun _ => ?_); conv => whnf) | ((with_reducible refine Need.mk ?_ ?_); (first | omega | (dsimp only; omega) | decide | exact bytes_le (by rfl) (by omega) | exact ⟨rfl, by omega, bytes_le (by rfl) (by omega), by omega⟩ | (refine ⟨?_, ?_⟩ <;> (rw [wrap64 (by omega) (by omega)]; omega))); conv => whnf) | ((with_reducible first | refine Both.mk ?_ ?_ | refine Any.mk fun b hb => ?_ | refine AskB.dec (fun hb => ?_) (fun hb => ?_) | refine AskB.ndec (fun hb => ?_) (fun hb => ?_) | refine AskB.mk (fun hb => ?_) (fun hb => ?_)) <;> conv => whnf) | ((with_reducible first | refine Run.drawX rfl (by decide +kernel) ?_ | refine Run.drawT rfl (by decide +kernel) ?_ | refine Run.drawW rfl (by decide +kernel) ?_); conv => whnf) | fail)
  · have hjl : j < l.length := by omega
    rw [drop_at l j tRn.z hjl] at hc
    refine Run.callBX (of60_fn (l.getD j tRn.z)) rfl rfl ⟨Le.refl _, trivial⟩ rfl rfl rfl ?_
    (conv => whnf); repeat' (first | ((with_reducible refine Know.mk fun _ => ?_); conv => whnf) | ((with_reducible refine Need.mk ?_ ?_); (first | omega | (dsimp only; omega) | decide | exact bytes_le (by rfl) (by omega) | exact ⟨rfl, by omega, bytes_le (by rfl) (by omega), by omega⟩ | (refine ⟨?_, ?_⟩ <;> (rw [wrap64 (by omega) (by omega)]; omega))); conv => whnf) | ((with_reducible first | refine Both.mk ?_ ?_ | refine Any.mk fun b hb => ?_ | refine AskB.dec (fun hb => ?_) (fun hb => ?_) | refine AskB.ndec (fun hb => ?_) (fun hb => ?_) | refine AskB.mk (fun hb => ?_) (fun hb => ?_)) <;> conv => whnf) | ((with_reducible first | refine Run.drawX rfl (by decide +kernel) ?_ | refine Run.drawT rfl (by decide +kernel) ?_ | refine Run.drawW rfl (by decide +kernel) ?_); conv => whnf) | fail)
    · have hk : kOf (l.getD j tRn.z) = k := hb
      refine Run.to _ _ ?_ ?_ (IH (j + 1, m) (by simp only []; omega) ⟨by simp only []; omega, by simp only []; omega, ?_⟩)
      · exact ⟨Le.refl _, Le.refl _, Le.refl _, Le.int hwj, trivial⟩
      · exact ⟨MOle.refl _, trivial⟩
      · rw [← hc, dropE_no hk]
    · have hk : ¬ kOf (l.getD j tRn.z) = k := hb
      refine Run.hold (z := 26) 5 1000 (by rfl) (by rfl) (by rfl) ?_
      refine Run.to _ _ ?_ ?_ (IH (j + 1, m ++ [l.getD j tRn.z]) (by simp only []; omega) ⟨by simp only []; omega, by simp only [List.length_append, List.length_singleton]; omega, ?_⟩)
      · exact ⟨Le.refl _, Le.refl _, Le.refl _, Le.int hwj, trivial⟩
      · exact ⟨tRn.push 21 m (l.getD j tRn.z) _ (one0 (Le.refl _)), trivial⟩
      · rw [← hc, dropE_yes hk]; simp
  · obtain rfl : j = l.length := by omega
    have e : m = dropE k l := by rw [← hc, List.drop_length]; simp [dropE]
    refine Run.leaveF (ts := [4]) [1000] (.inr ⟨_, rfl⟩) rfl Tryd.func89 rfl (by decide) ⟨?_, trivial⟩ rfl (Le.refl _)
    rw [← e]; exact MOle.refl _
def ligE (x : Int) : List Int := if isLig x = true then bytesI (ligB x) else [x]
def ligsE (l : List Int) : List Int := l.flatMap ligE
theorem ligB_ne : ∀ r, isLig r = true → ligB r ≠ .empty := by
  intro r h
  unfold isLig at h
  have h := of_decide_eq_true h
  unfold ligB
  repeat' split
  all_goals first | (exact fun e => absurd (congrArg ByteArray.size e) (by decide)) | skip
  · rename_i h9
    obtain ⟨k, hk⟩ : ∃ k : Fin 7, k.val = (r - 64256).toNat := ⟨⟨(r - 64256).toNat, by omega⟩, rfl⟩
    rw [← hk]
    clear hk h h9
    revert k; decide +kernel
  · omega
theorem bytesI_at (s : ByteArray) (j : Nat) (h : j < s.size) : (bytesI s).getD j 0 = bt s j := by
  unfold bytesI bt
  have h2 : j < s.data.toList.length := by simpa using h
  rw [List.getD, List.getD, List.getElem?_map, List.getElem?_eq_getElem h2]; rfl
theorem bytesI_len (s : ByteArray) : (bytesI s).length = s.size := by simp [bytesI]
theorem ligE_len (x : Int) : (ligE x).length ≤ 3 := by
  unfold ligE
  split
  · rw [bytesI_len]; exact ligB_size x
  · simp
theorem ligs43_fn (l : List Int) (hl : l.length ≤ 1000000) : FnF Tryd.prog 90 [tRn.L l] (.row 0) [tRn.R 21 (ligsE l)] := by
  refine FnF.of Tryd.f90 _ Tryd.func90 rfl (by decide) (by show 1 ≤ _; decide) tbOk 41 rfl fun S w0 gl => ?_
  refine Run.go ?_; (conv => whnf); repeat' (first | ((with_reducible refine Know.mk fun _ => ?_); conv => whnf) | ((with_reducible refine Need.mk ?_ ?_); (first | omega | (dsimp only; omega) | decide | exact bytes_le (by rfl) (by omega) | exact ⟨rfl, by omega, bytes_le (by rfl) (by omega), by omega⟩ | (refine ⟨?_, ?_⟩ <;> (rw [wrap64 (by omega) (by omega)]; omega))); conv => whnf) | ((with_reducible first | refine Both.mk ?_ ?_ | refine Any.mk fun b hb => ?_ | refine AskB.dec (fun hb => ?_) (fun hb => ?_) | refine AskB.ndec (fun hb => ?_) (fun hb => ?_) | refine AskB.mk (fun hb => ?_) (fun hb => ?_)) <;> conv => whnf) | ((with_reducible first | refine Run.drawX rfl (by decide +kernel) ?_ | refine Run.drawT rfl (by decide +kernel) ?_ | refine Run.drawW rfl (by decide +kernel) ?_); conv => whnf) | fail)
  refine Run.holdNil 3 1000 21 1 (fun _ _ => .u) rfl ?_
  refine Run.loop [0] (fun (a : Nat × List Int) => [(3, .row 1000), (4, .int .i64 (a.1 : Int))]) (fun a => [(1000, tRn.R 21 a.2)]) (fun a => a.1 ≤ l.length ∧ a.2.length ≤ 3 * a.1 ∧ a.2 ++ ligsE (l.drop a.1) = ligsE l) (fun a => l.length - a.1) (0, []) ⟨Nat.zero_le _, Nat.zero_le _, rfl⟩ ⟨Le.refl _, Le.refl _, trivial⟩ ⟨⟨rfl, rfl, rfl, fun i j hi => absurd hi (Nat.not_lt_zero _)⟩, trivial⟩ ?_
  intro ⟨j, m⟩ ⟨hj, hm, hc⟩ IH
  simp only at hj hm hc
  have hwj : IntKind.i64.wrap ((j : Int) + 1) = ((j + 1 : Nat) : Int) := wrap64 (by omega) (by omega)
  show Run _ _ (lst (_ ++ [(3, .row 1000), (4, .int .i64 (j : Int))])) (lstH [(1000, tRn.R 21 m)])
  refine Run.go ?_; (conv => whnf); repeat' (first | ((with_reducible refine Know.mk fun _ => ?_); conv => whnf) | ((with_reducible refine Need.mk ?_ ?_); (first | omega | (dsimp only; omega) | decide | exact bytes_le (by rfl) (by omega) | exact ⟨rfl, by omega, bytes_le (by rfl) (by omega), by omega⟩ | (refine ⟨?_, ?_⟩ <;> (rw [wrap64 (by omega) (by omega)]; omega))); conv => whnf) | ((with_reducible first | refine Both.mk ?_ ?_ | refine Any.mk fun b hb => ?_ | refine AskB.dec (fun hb => ?_) (fun hb => ?_) | refine AskB.ndec (fun hb => ?_) (fun hb => ?_) | refine AskB.mk (fun hb => ?_) (fun hb => ?_)) <;> conv => whnf) | ((with_reducible first | refine Run.drawX rfl (by decide +kernel) ?_ | refine Run.drawT rfl (by decide +kernel) ?_ | refine Run.drawW rfl (by decide +kernel) ?_); conv => whnf) | fail)
  · have hjl : j < l.length := by omega
    have hc' : m ++ (ligE (l.getD j tRn.z) ++ ligsE (l.drop (j + 1))) = ligsE l := by
      rw [← hc, drop_at l j tRn.z hjl]; rfl
    have hll := ligE_len (l.getD j tRn.z)
    have hsz := ligB_size (l.getD j tRn.z)
    refine Run.callBX (lig61_fn (l.getD j tRn.z)) rfl rfl ⟨Le.refl _, trivial⟩ rfl rfl rfl ?_
    generalize hx : l.getD j tRn.z = x at hc' hll hsz ⊢
    by_cases hL : isLig x = true
    · have hne := ligB_ne x hL
      have hE : ligE x = bytesI (ligB x) := by unfold ligE; rw [if_pos hL]
      rw [hE] at hc' hll
      rw [if_pos hL]
      generalize ligB x = s at hne hc' hll hsz ⊢
      rw [bytesI_len] at hll
      (conv => whnf); repeat' (first | ((with_reducible refine Know.mk fun _ => ?_); conv => whnf) | ((with_reducible refine Need.mk ?_ ?_); (first | omega | (dsimp only; omega) | decide | exact bytes_le (by rfl) (by omega) | exact ⟨rfl, by omega, bytes_le (by rfl) (by omega), by omega⟩ | (refine ⟨?_, ?_⟩ <;> (rw [wrap64 (by omega) (by omega)]; omega))); conv => whnf) | ((with_reducible first | refine Both.mk ?_ ?_ | refine Any.mk fun b hb => ?_ | refine AskB.dec (fun hb => ?_) (fun hb => ?_) | refine AskB.ndec (fun hb => ?_) (fun hb => ?_) | refine AskB.mk (fun hb => ?_) (fun hb => ?_)) <;> conv => whnf) | ((with_reducible first | refine Run.drawX rfl (by decide +kernel) ?_ | refine Run.drawT rfl (by decide +kernel) ?_ | refine Run.drawW rfl (by decide +kernel) ?_); conv => whnf) | fail)
      · exact absurd hb hne
      · refine Run.loop [0, 4, 5] (fun (i : Nat) => [(3, .row 1000), (6, .int .i64 (i : Int))]) (fun i => [(1000, tRn.R 21 (m ++ (bytesI s).take i))]) (fun i => i ≤ s.size) (fun i => s.size - i) 0 (Nat.zero_le _) ⟨Le.refl _, Le.refl _, trivial⟩ ⟨?_, trivial⟩ ?_
        · rw [List.take_zero, List.append_nil]; exact MOle.refl _
        intro i hi IHi
        have hwi : IntKind.i64.wrap ((i : Int) + 1) = ((i + 1 : Nat) : Int) := wrap64 (by omega) (by omega)
        have hbl := bt_lt s i
        have hbi := bytesI_len s
        have hml : (m ++ (bytesI s).take i).length ≤ 9000000 := by rw [List.length_append, List.length_take]; omega
        refine Run.go ?_; (conv => whnf); repeat' (first | ((with_reducible refine Know.mk fun _ => ?_); conv => whnf) | ((with_reducible refine Need.mk ?_ ?_); (first | omega | (dsimp only; omega) | decide | exact bytes_le (by rfl) (by omega) | exact ⟨rfl, by omega, bytes_le (by rfl) (by omega), by omega⟩ | (refine ⟨?_, ?_⟩ <;> (rw [wrap64 (by omega) (by omega)]; omega))); conv => whnf) | ((with_reducible first | refine Both.mk ?_ ?_ | refine Any.mk fun b hb => ?_ | refine AskB.dec (fun hb => ?_) (fun hb => ?_) | refine AskB.ndec (fun hb => ?_) (fun hb => ?_) | refine AskB.mk (fun hb => ?_) (fun hb => ?_)) <;> conv => whnf) | ((with_reducible first | refine Run.drawX rfl (by decide +kernel) ?_ | refine Run.drawT rfl (by decide +kernel) ?_ | refine Run.drawW rfl (by decide +kernel) ?_); conv => whnf) | fail)
        · have his : i < s.size := by omega
          refine Run.hold (z := 39) 3 1000 (by rfl) (by rfl) (by rfl) ?_
          refine Run.to _ _ ?_ ?_ (IHi (i + 1) (by omega) (by omega))
          · exact ⟨Le.refl _, Le.refl _, Le.refl _, Le.refl _, Le.int hwi, trivial⟩
          · refine ⟨?_, trivial⟩
            have e : m ++ (bytesI s).take (i + 1) = (m ++ (bytesI s).take i) ++ [bt s i] := by
              rw [List.take_succ_eq_append_getElem (by omega), ← bytesI_at s i his, List.getD, List.getElem?_eq_getElem (by omega)]; simp
            rw [e]
            exact tRn.push 21 _ (bt s i) _ (one0 (Le.int (wrap32 (show -2147483648 ≤ bt s i by omega) (show bt s i ≤ 2147483647 by omega))))
        · obtain rfl : i = s.size := by omega
          have ht : (bytesI s).take s.size = bytesI s := List.take_of_length_le (by omega)
          rw [ht]
          refine Run.to _ _ ?_ ?_ (IH (j + 1, m ++ bytesI s) (by simp only []; omega) ⟨by simp only []; omega, by simp only [List.length_append]; omega, ?_⟩)
          · exact ⟨Le.refl _, Le.refl _, Le.int hwj, trivial⟩
          · exact ⟨MOle.refl _, trivial⟩
          · rw [← hc']; simp
    · have hE : ligE x = [x] := by unfold ligE; rw [if_neg hL]
      rw [hE] at hc'
      rw [if_neg hL]
      (conv => whnf); repeat' (first | ((with_reducible refine Know.mk fun _ => ?_); conv => whnf) | ((with_reducible refine Need.mk ?_ ?_); (first | omega | (dsimp only; omega) | decide | exact bytes_le (by rfl) (by omega) | exact ⟨rfl, by omega, bytes_le (by rfl) (by omega), by omega⟩ | (refine ⟨?_, ?_⟩ <;> (rw [wrap64 (by omega) (by omega)]; omega))); conv => whnf) | ((with_reducible first | refine Both.mk ?_ ?_ | refine Any.mk fun b hb => ?_ | refine AskB.dec (fun hb => ?_) (fun hb => ?_) | refine AskB.ndec (fun hb => ?_) (fun hb => ?_) | refine AskB.mk (fun hb => ?_) (fun hb => ?_)) <;> conv => whnf) | ((with_reducible first | refine Run.drawX rfl (by decide +kernel) ?_ | refine Run.drawT rfl (by decide +kernel) ?_ | refine Run.drawW rfl (by decide +kernel) ?_); conv => whnf) | fail)
      case _ =>
        refine Run.hold (z := 26) 3 1000 (by rfl) (by rfl) (by rfl) ?_
        refine Run.go ?_; (conv => whnf); repeat' (first | ((with_reducible refine Know.mk fun _ => ?_); conv => whnf) | ((with_reducible refine Need.mk ?_ ?_); (first | omega | (dsimp only; omega) | decide | exact bytes_le (by rfl) (by omega) | exact ⟨rfl, by omega, bytes_le (by rfl) (by omega), by omega⟩ | (refine ⟨?_, ?_⟩ <;> (rw [wrap64 (by omega) (by omega)]; omega))); conv => whnf) | ((with_reducible first | refine Both.mk ?_ ?_ | refine Any.mk fun b hb => ?_ | refine AskB.dec (fun hb => ?_) (fun hb => ?_) | refine AskB.ndec (fun hb => ?_) (fun hb => ?_) | refine AskB.mk (fun hb => ?_) (fun hb => ?_)) <;> conv => whnf) | ((with_reducible first | refine Run.drawX rfl (by decide +kernel) ?_ | refine Run.drawT rfl (by decide +kernel) ?_ | refine Run.drawW rfl (by decide +kernel) ?_); conv => whnf) | fail)
        · exact absurd hb (by decide)
        · refine Run.to _ _ ?_ ?_ (IH (j + 1, m ++ [x]) (by simp only []; omega) ⟨by simp only []; omega, by simp only [List.length_append, List.length_singleton]; omega, ?_⟩)
          · exact ⟨Le.refl _, Le.refl _, Le.int hwj, trivial⟩
          · refine ⟨?_, trivial⟩
            rw [← hx]
            exact tRn.push 21 m (l.getD j tRn.z) _ (one0 (Le.refl _))
          · rw [← hc']; simp
      all_goals exact absurd rfl hb
  · obtain rfl : j = l.length := by omega
    have e : m = ligsE l := by rw [← hc, List.drop_length]; simp [ligsE]
    refine Run.leaveF (ts := [2]) [1000] (.inr ⟨_, rfl⟩) rfl Tryd.func90 rfl (by decide) ⟨?_, trivial⟩ rfl (Le.refl _)
    rw [← e]; exact MOle.refl _
end Go.Proofs.YtnadacaoehpdnaaDoor.V

namespace Go.Proofs.YtnadacaoehpdnaaDoor.V
set_option linter.unusedVariables false
set_option linter.unusedSimpArgs false
open Go Go.Proofs Go.RowKit
set_option maxRecDepth 100000
set_option maxHeartbeats 4000000
open Go Go.Proofs Go.Proofs.YtnadacaoehpdnaaDoor.V
def backE (l : List Int) : ByteArray := bl (encs l)
theorem backE_size : ∀ l : List Int, (backE l).size ≤ 4 * l.length
  | [] => by decide
  | x :: l => by
    have h := backE_size l
    have h2 := encode_small x
    have e : backE (x :: l) = Utf8.encode x ++ backE l := by unfold backE; rw [encs_cons, bl_app, enc_eq]
    rw [e, ByteArray.size_append, List.length_cons]; omega
theorem backE_take (l : List Int) (j : Nat) (h : j < l.length) : backE (l.take (j + 1)) = backE (l.take j) ++ Utf8.encode (l.getD j tRn.z) := by
  unfold backE
  rw [List.take_succ_eq_append_getElem h, encs_app, bl_app, List.getD, List.getElem?_eq_getElem h, enc_eq]
  simp [encs]
theorem back47_fn (l : List Int) (hl : l.length ≤ 10000000) : Fn Tryd.prog 94 [tRn.L l] (.str (backE l)) := by
  refine Fn.of Tryd.f94 _ Tryd.func94 rfl (by decide) (by show 1 ≤ _; decide) tbOk 20 rfl fun S w0 gl => ?_
  refine Run.go ?_; (conv => whnf); repeat' (first | ((with_reducible refine Know.mk fun _ => ?_); conv => whnf) | ((with_reducible refine Need.mk ?_ ?_); (first | omega | (dsimp only; omega) | decide | exact bytes_le (by rfl) (by omega) | exact ⟨rfl, by omega, bytes_le (by rfl) (by omega), by omega⟩ | (refine ⟨?_, ?_⟩ <;> (rw [wrap64 (by omega) (by omega)]; omega))); conv => whnf) | ((with_reducible first | refine Both.mk ?_ ?_ | refine Any.mk fun b hb => ?_ | refine AskB.dec (fun hb => ?_) (fun hb => ?_) | refine AskB.ndec (fun hb => ?_) (fun hb => ?_) | refine AskB.mk (fun hb => ?_) (fun hb => ?_)) <;> conv => whnf) | ((with_reducible first | refine Run.drawX rfl (by decide +kernel) ?_ | refine Run.drawT rfl (by decide +kernel) ?_ | refine Run.drawW rfl (by decide +kernel) ?_); conv => whnf) | fail)
  refine Run.holdNil 3 1000 5 1 (bytesG .empty) rfl ?_
  refine Run.loop [0] (fun (j : Nat) => [(3, .row 1000), (4, .int .i64 (j : Int))]) (fun j => [(1000, .row 5 1 (backE (l.take j)).size (bytesG (backE (l.take j))))]) (fun j => j ≤ l.length) (fun j => l.length - j) 0 (Nat.zero_le _) ⟨Le.refl _, Le.refl _, trivial⟩ ⟨MOle.refl _, trivial⟩ ?_
  intro j hj IH
  have hwj : IntKind.i64.wrap ((j : Int) + 1) = ((j + 1 : Nat) : Int) := wrap64 (by omega) (by omega)
  have hT : (backE (l.take j)).size ≤ 40000000 := by
    have h1 := backE_size (l.take j)
    rw [List.length_take] at h1; omega
  refine Run.go ?_; (conv => whnf); repeat' (first | ((with_reducible refine Know.mk fun _ => ?_); conv => whnf) | ((with_reducible refine Need.mk ?_ ?_); (first | omega | (dsimp only; omega) | decide | exact bytes_le (by rfl) (by omega) | exact ⟨rfl, by omega, bytes_le (by rfl) (by omega), by omega⟩ | (refine ⟨?_, ?_⟩ <;> (rw [wrap64 (by omega) (by omega)]; omega))); conv => whnf) | ((with_reducible first | refine Both.mk ?_ ?_ | refine Any.mk fun b hb => ?_ | refine AskB.dec (fun hb => ?_) (fun hb => ?_) | refine AskB.ndec (fun hb => ?_) (fun hb => ?_) | refine AskB.mk (fun hb => ?_) (fun hb => ?_)) <;> conv => whnf) | ((with_reducible first | refine Run.drawX rfl (by decide +kernel) ?_ | refine Run.drawT rfl (by decide +kernel) ?_ | refine Run.drawW rfl (by decide +kernel) ?_); conv => whnf) | fail)
  · have hjl : j < l.length := by omega
    have he := encode_small (l.getD j tRn.z)
    refine Run.callBX (written62_fn (l.getD j tRn.z)) rfl rfl ⟨Le.refl _, trivial⟩ rfl rfl rfl ?_
    (conv => whnf); repeat' (first | ((with_reducible refine Know.mk fun _ => ?_); conv => whnf) | ((with_reducible refine Need.mk ?_ ?_); (first | omega | (dsimp only; omega) | decide | exact bytes_le (by rfl) (by omega) | exact ⟨rfl, by omega, bytes_le (by rfl) (by omega), by omega⟩ | (refine ⟨?_, ?_⟩ <;> (rw [wrap64 (by omega) (by omega)]; omega))); conv => whnf) | ((with_reducible first | refine Both.mk ?_ ?_ | refine Any.mk fun b hb => ?_ | refine AskB.dec (fun hb => ?_) (fun hb => ?_) | refine AskB.ndec (fun hb => ?_) (fun hb => ?_) | refine AskB.mk (fun hb => ?_) (fun hb => ?_)) <;> conv => whnf) | ((with_reducible first | refine Run.drawX rfl (by decide +kernel) ?_ | refine Run.drawT rfl (by decide +kernel) ?_ | refine Run.drawW rfl (by decide +kernel) ?_); conv => whnf) | fail)
    refine Run.hold (z := 17) 3 1000 (by rfl) (by rfl) (by rfl) ?_
    refine Run.to _ _ ?_ ?_ (IH (j + 1) (by omega) (by omega))
    · exact ⟨Le.refl _, Le.refl _, Le.int hwj, trivial⟩
    · refine ⟨?_, trivial⟩
      rw [backE_take l j hjl]
      exact bytesG_join 5 (backE (l.take j)) (Utf8.encode (l.getD j tRn.z))
  · obtain rfl : j = l.length := by omega
    rw [List.take_length]
    refine Run.rowStr (x := .tmp 18) (src := 93) (dst := 9) (e := 5) (q := 1000) (backE l) rfl rfl rfl rfl rfl rfl rfl (fun _ _ => rfl) (by kernel_rfl) (by kernel_rfl) (by kernel_rfl) ?_
    refine Run.go ?_; (conv => whnf); repeat' (first | ((with_reducible refine Know.mk fun _ => ?_); conv => whnf) | ((with_reducible refine Need.mk ?_ ?_); (first | omega | (dsimp only; omega) | decide | exact bytes_le (by rfl) (by omega) | exact ⟨rfl, by omega, bytes_le (by rfl) (by omega), by omega⟩ | (refine ⟨?_, ?_⟩ <;> (rw [wrap64 (by omega) (by omega)]; omega))); conv => whnf) | ((with_reducible first | refine Both.mk ?_ ?_ | refine Any.mk fun b hb => ?_ | refine AskB.dec (fun hb => ?_) (fun hb => ?_) | refine AskB.ndec (fun hb => ?_) (fun hb => ?_) | refine AskB.mk (fun hb => ?_) (fun hb => ?_)) <;> conv => whnf) | ((with_reducible first | refine Run.drawX rfl (by decide +kernel) ?_ | refine Run.drawT rfl (by decide +kernel) ?_ | refine Run.drawW rfl (by decide +kernel) ?_); conv => whnf) | fail)
    exact Run.leave (ts := [2]) (.inr ⟨_, rfl⟩) rfl Tryd.func94 rfl (Le.refl _)
/-- What the document makes of a rune: step by step. -/
def refL (r o : Int) : List Int :=
  let l0 := [r]
  let l1 := if o / 16 % 2 = 1 then dropE 4 l0 else l0
  let l2 := if o / 2 % 2 = 1 then dropE 2 l1 else l1
  if o / 4 % 2 = 1 then ligsE l2 else l2
theorem dropE_len (k : Int) (l : List Int) : (dropE k l).length ≤ l.length := List.length_filter_le _ _
theorem ligsE_len : ∀ l : List Int, (ligsE l).length ≤ 3 * l.length
  | [] => by simp [ligsE]
  | x :: l => by
    have h := ligsE_len l
    have h2 := ligE_len x
    have e : ligsE (x :: l) = ligE x ++ ligsE l := rfl
    rw [e, List.length_append, List.length_cons]; omega
theorem refQ : ∀ o : Fin 32, Int.tmod (IntKind.i64.wrap (Int.tdiv (o.val : Int) 16)) 2 = (o.val : Int) / 16 % 2 ∧ Int.tmod (IntKind.i64.wrap (Int.tdiv (o.val : Int) 2)) 2 = (o.val : Int) / 2 % 2 ∧ Int.tmod (IntKind.i64.wrap (Int.tdiv (o.val : Int) 4)) 2 = (o.val : Int) / 4 % 2 ∧
    Int.tmod (IntKind.i64.wrap (Int.tdiv (o.val : Int) 8)) 2 = (o.val : Int) / 8 % 2 ∧ Int.tmod (o.val : Int) 2 = (o.val : Int) % 2 := by decide +kernel
/-- A step, or none. -/
def ifV (c : Prop) [Decidable c] (f : Int → Int) (x : Int) : Int := if c then f x else x
theorem getD_setL {α : Type} (l : List α) (i : Nat) (x z : α) (h : i < l.length) : (l.set i x).getD i z = x := by
  rw [List.getD, List.getElem?_set_self h]; rfl
theorem stepV_if (o x : Int) : stepV o x = ifV (o / 8 % 2 = 1) letterV (ifV (o / 2 % 2 = 1) bareV (ifV (o % 2 = 1) lowV x)) := by
  rw [stepV_eq]
  unfold stepB ifV
  by_cases h1 : o % 2 = 1 <;> by_cases h2 : o / 2 % 2 = 1 <;> by_cases h3 : o / 8 % 2 = 1 <;> simp [h1, h2, h3]
theorem rune28_fn (r o : Int) : Fn Tryd.prog 70 [.int .i32 r, .int .i64 o] (tupL [.str (if badO o then .empty else backE ((refL r o).map (stepV o))), .int .i64 (if badO o then 2 else 0)]) := by
  refine Fn.of Tryd.f70 _ Tryd.func70 rfl (by decide) (by show 2 ≤ _; decide) tbOk 77 rfl fun S w0 gl => ?_
  by_cases hbad : badO o
  · rw [if_pos hbad, if_pos hbad]
    have hbo : o < 0 ∨ 31 < o := hbad
    refine Run.go ?_; (conv => whnf); repeat' (first | ((with_reducible refine Know.mk fun _ => ?_); conv => whnf) | ((with_reducible refine Need.mk ?_ ?_); (first | omega | (dsimp only; omega) | decide | exact bytes_le (by rfl) (by omega) | exact ⟨rfl, by omega, bytes_le (by rfl) (by omega), by omega⟩ | (refine ⟨?_, ?_⟩ <;> (rw [wrap64 (by omega) (by omega)]; omega))); conv => whnf) | ((with_reducible refine Both.mk ?_ ?_) <;> conv => whnf) | ((with_reducible refine Any.mk fun b hb => ?_); conv => whnf) | ((with_reducible first | refine AskB.dec (fun hb => ?_) (fun hb => ?_) | refine AskB.ndec (fun hb => ?_) (fun hb => ?_) | refine AskB.mk (fun hb => ?_) (fun hb => ?_)) <;> first | (exfalso; omega) | (conv => whnf)) | ((with_reducible first | refine Run.drawX rfl (by decide +kernel) ?_ | refine Run.drawT rfl (by decide +kernel) ?_ | refine Run.drawW rfl (by decide +kernel) ?_); conv => whnf) | fail)
    all_goals first
      | exact Run.leave (ts := [4,5]) (.inr ⟨_, rfl⟩) rfl Tryd.func70 rfl (resT ⟨Le.refl _, Le.refl _, trivial⟩)
      | (exfalso; omega)
  rw [if_neg hbad, if_neg hbad]
  have hbo : ¬ (o < 0 ∨ 31 < o) := hbad
  obtain ⟨kk, rfl⟩ : ∃ k : Fin 32, (k.val : Int) = o := ⟨⟨o.toNat, by omega⟩, by simp only []; omega⟩
  obtain ⟨q16, q2, q4, q8, q1⟩ := refQ kk
  have hrl : ∀ l1 l2 l3, l1 = (if (kk.val : Int) / 16 % 2 = 1 then dropE 4 [r] else [r]) → l2 = (if (kk.val : Int) / 2 % 2 = 1 then dropE 2 l1 else l1) → l3 = (if (kk.val : Int) / 4 % 2 = 1 then ligsE l2 else l2) → refL r kk.val = l3 := fun l1 l2 l3 h1 h2 h3 => by rw [h3, h2, h1]; rfl
  have hd1 := dropE_len 4 [r]
  have hd2 := dropE_len 2 [r]
  have hd3 := dropE_len 2 (dropE 4 [r])
  have e1 : ([r] : List Int).length = 1 := rfl
  have hn : (refL r kk.val).length ≤ 3 := by
    unfold refL
    simp only []
    split
    · refine Nat.le_trans (ligsE_len _) ?_
      repeat' split
      all_goals omega
    · repeat' split
      all_goals omega
  apply Run.cutAt (A := fun CC kk' => ∀ l, refL r kk.val = l → Run CC kk' (lst [(1, .int .i64 kk.val), (6, .row 1000), (7, .int .i64 0)]) (lstH [(1000, tRn.R 21 l)]))
  · intro HA
    have one1 : ∀ (g : Nat → Nat → AV), g 0 0 = .int .i32 r → Le (.sl 1 1 g) (tRn.L [r]) := fun g h => Le.sl (fun i j hi hj => by
      obtain rfl : i = 0 := by omega
      obtain rfl : j = 0 := by omega
      rw [h]; exact Le.refl _)
    by_cases b16 : (kk.val : Int) / 16 % 2 = 1 <;> by_cases b2 : (kk.val : Int) / 2 % 2 = 1 <;> by_cases b4 : (kk.val : Int) / 4 % 2 = 1
    all_goals
      refine Run.go ?_; (conv => whnf); repeat' (first | ((with_reducible refine Know.mk fun _ => ?_); conv => whnf) | ((with_reducible refine Need.mk ?_ ?_); (first | omega | (dsimp only; omega) | decide | exact bytes_le (by rfl) (by omega) | exact ⟨rfl, by omega, bytes_le (by rfl) (by omega), by omega⟩ | (refine ⟨?_, ?_⟩ <;> (rw [wrap64 (by omega) (by omega)]; omega))); conv => whnf) | ((with_reducible refine Both.mk ?_ ?_) <;> conv => whnf) | ((with_reducible refine Any.mk fun b hb => ?_); conv => whnf) | ((with_reducible first | refine AskB.dec (fun hb => ?_) (fun hb => ?_) | refine AskB.ndec (fun hb => ?_) (fun hb => ?_) | refine AskB.mk (fun hb => ?_) (fun hb => ?_)) <;> first | (exfalso; omega) | (conv => whnf)) | ((with_reducible first | refine Run.drawX rfl (by decide +kernel) ?_ | refine Run.drawT rfl (by decide +kernel) ?_ | refine Run.drawW rfl (by decide +kernel) ?_); conv => whnf) | fail)
      all_goals try (exfalso; omega)
    · refine Run.callFA 1000 (drop42_fn [r] 4 (by omega)) rfl rfl ⟨one1 _ rfl, Le.refl _, trivial⟩ rfl rfl rfl (flat_cons (Ty.R_flat (fun _ _ _ => rfl)) flat_nil) ?_
      (conv => whnf); repeat' (first | ((with_reducible refine Know.mk fun _ => ?_); conv => whnf) | ((with_reducible refine Need.mk ?_ ?_); (first | omega | (dsimp only; omega) | decide | exact bytes_le (by rfl) (by omega) | exact ⟨rfl, by omega, bytes_le (by rfl) (by omega), by omega⟩ | (refine ⟨?_, ?_⟩ <;> (rw [wrap64 (by omega) (by omega)]; omega))); conv => whnf) | ((with_reducible refine Both.mk ?_ ?_) <;> conv => whnf) | ((with_reducible refine Any.mk fun b hb => ?_); conv => whnf) | ((with_reducible first | refine AskB.dec (fun hb => ?_) (fun hb => ?_) | refine AskB.ndec (fun hb => ?_) (fun hb => ?_) | refine AskB.mk (fun hb => ?_) (fun hb => ?_)) <;> first | (exfalso; omega) | (conv => whnf)) | ((with_reducible first | refine Run.drawX rfl (by decide +kernel) ?_ | refine Run.drawT rfl (by decide +kernel) ?_ | refine Run.drawW rfl (by decide +kernel) ?_); conv => whnf) | fail)
      all_goals try (exfalso; omega)
      refine Run.callFA 1000 (drop42_fn _ 2 (by omega)) rfl rfl ⟨Le.refl _, Le.refl _, trivial⟩ rfl rfl rfl (flat_cons (Ty.R_flat (fun _ _ _ => rfl)) flat_nil) ?_
      (conv => whnf); repeat' (first | ((with_reducible refine Know.mk fun _ => ?_); conv => whnf) | ((with_reducible refine Need.mk ?_ ?_); (first | omega | (dsimp only; omega) | decide | exact bytes_le (by rfl) (by omega) | exact ⟨rfl, by omega, bytes_le (by rfl) (by omega), by omega⟩ | (refine ⟨?_, ?_⟩ <;> (rw [wrap64 (by omega) (by omega)]; omega))); conv => whnf) | ((with_reducible refine Both.mk ?_ ?_) <;> conv => whnf) | ((with_reducible refine Any.mk fun b hb => ?_); conv => whnf) | ((with_reducible first | refine AskB.dec (fun hb => ?_) (fun hb => ?_) | refine AskB.ndec (fun hb => ?_) (fun hb => ?_) | refine AskB.mk (fun hb => ?_) (fun hb => ?_)) <;> first | (exfalso; omega) | (conv => whnf)) | ((with_reducible first | refine Run.drawX rfl (by decide +kernel) ?_ | refine Run.drawT rfl (by decide +kernel) ?_ | refine Run.drawW rfl (by decide +kernel) ?_); conv => whnf) | fail)
      all_goals try (exfalso; omega)
      refine Run.callFA 1000 (ligs43_fn _ (by omega)) rfl rfl ⟨Le.refl _, trivial⟩ rfl rfl rfl (flat_cons (Ty.R_flat (fun _ _ _ => rfl)) flat_nil) ?_
      (conv => whnf); repeat' (first | ((with_reducible refine Know.mk fun _ => ?_); conv => whnf) | ((with_reducible refine Need.mk ?_ ?_); (first | omega | (dsimp only; omega) | decide | exact bytes_le (by rfl) (by omega) | exact ⟨rfl, by omega, bytes_le (by rfl) (by omega), by omega⟩ | (refine ⟨?_, ?_⟩ <;> (rw [wrap64 (by omega) (by omega)]; omega))); conv => whnf) | ((with_reducible refine Both.mk ?_ ?_) <;> conv => whnf) | ((with_reducible refine Any.mk fun b hb => ?_); conv => whnf) | ((with_reducible first | refine AskB.dec (fun hb => ?_) (fun hb => ?_) | refine AskB.ndec (fun hb => ?_) (fun hb => ?_) | refine AskB.mk (fun hb => ?_) (fun hb => ?_)) <;> first | (exfalso; omega) | (conv => whnf)) | ((with_reducible first | refine Run.drawX rfl (by decide +kernel) ?_ | refine Run.drawT rfl (by decide +kernel) ?_ | refine Run.drawW rfl (by decide +kernel) ?_); conv => whnf) | fail)
      all_goals try (exfalso; omega)
      refine Run.to _ _ ?_ ?_ (HA _ (hrl _ _ _ (if_pos b16).symm (if_pos b2).symm (if_pos b4).symm))
      · exact ⟨Le.refl _, Le.refl _, Le.refl _, trivial⟩
      · exact ⟨MOle.refl _, trivial⟩
    · refine Run.callFA 1000 (drop42_fn [r] 4 (by omega)) rfl rfl ⟨one1 _ rfl, Le.refl _, trivial⟩ rfl rfl rfl (flat_cons (Ty.R_flat (fun _ _ _ => rfl)) flat_nil) ?_
      (conv => whnf); repeat' (first | ((with_reducible refine Know.mk fun _ => ?_); conv => whnf) | ((with_reducible refine Need.mk ?_ ?_); (first | omega | (dsimp only; omega) | decide | exact bytes_le (by rfl) (by omega) | exact ⟨rfl, by omega, bytes_le (by rfl) (by omega), by omega⟩ | (refine ⟨?_, ?_⟩ <;> (rw [wrap64 (by omega) (by omega)]; omega))); conv => whnf) | ((with_reducible refine Both.mk ?_ ?_) <;> conv => whnf) | ((with_reducible refine Any.mk fun b hb => ?_); conv => whnf) | ((with_reducible first | refine AskB.dec (fun hb => ?_) (fun hb => ?_) | refine AskB.ndec (fun hb => ?_) (fun hb => ?_) | refine AskB.mk (fun hb => ?_) (fun hb => ?_)) <;> first | (exfalso; omega) | (conv => whnf)) | ((with_reducible first | refine Run.drawX rfl (by decide +kernel) ?_ | refine Run.drawT rfl (by decide +kernel) ?_ | refine Run.drawW rfl (by decide +kernel) ?_); conv => whnf) | fail)
      all_goals try (exfalso; omega)
      refine Run.callFA 1000 (drop42_fn _ 2 (by omega)) rfl rfl ⟨Le.refl _, Le.refl _, trivial⟩ rfl rfl rfl (flat_cons (Ty.R_flat (fun _ _ _ => rfl)) flat_nil) ?_
      (conv => whnf); repeat' (first | ((with_reducible refine Know.mk fun _ => ?_); conv => whnf) | ((with_reducible refine Need.mk ?_ ?_); (first | omega | (dsimp only; omega) | decide | exact bytes_le (by rfl) (by omega) | exact ⟨rfl, by omega, bytes_le (by rfl) (by omega), by omega⟩ | (refine ⟨?_, ?_⟩ <;> (rw [wrap64 (by omega) (by omega)]; omega))); conv => whnf) | ((with_reducible refine Both.mk ?_ ?_) <;> conv => whnf) | ((with_reducible refine Any.mk fun b hb => ?_); conv => whnf) | ((with_reducible first | refine AskB.dec (fun hb => ?_) (fun hb => ?_) | refine AskB.ndec (fun hb => ?_) (fun hb => ?_) | refine AskB.mk (fun hb => ?_) (fun hb => ?_)) <;> first | (exfalso; omega) | (conv => whnf)) | ((with_reducible first | refine Run.drawX rfl (by decide +kernel) ?_ | refine Run.drawT rfl (by decide +kernel) ?_ | refine Run.drawW rfl (by decide +kernel) ?_); conv => whnf) | fail)
      all_goals try (exfalso; omega)
      refine Run.to _ _ ?_ ?_ (HA _ (hrl _ _ _ (if_pos b16).symm (if_pos b2).symm (if_neg b4).symm))
      · exact ⟨Le.refl _, Le.refl _, Le.refl _, trivial⟩
      · exact ⟨MOle.refl _, trivial⟩
    · refine Run.callFA 1000 (drop42_fn [r] 4 (by omega)) rfl rfl ⟨one1 _ rfl, Le.refl _, trivial⟩ rfl rfl rfl (flat_cons (Ty.R_flat (fun _ _ _ => rfl)) flat_nil) ?_
      (conv => whnf); repeat' (first | ((with_reducible refine Know.mk fun _ => ?_); conv => whnf) | ((with_reducible refine Need.mk ?_ ?_); (first | omega | (dsimp only; omega) | decide | exact bytes_le (by rfl) (by omega) | exact ⟨rfl, by omega, bytes_le (by rfl) (by omega), by omega⟩ | (refine ⟨?_, ?_⟩ <;> (rw [wrap64 (by omega) (by omega)]; omega))); conv => whnf) | ((with_reducible refine Both.mk ?_ ?_) <;> conv => whnf) | ((with_reducible refine Any.mk fun b hb => ?_); conv => whnf) | ((with_reducible first | refine AskB.dec (fun hb => ?_) (fun hb => ?_) | refine AskB.ndec (fun hb => ?_) (fun hb => ?_) | refine AskB.mk (fun hb => ?_) (fun hb => ?_)) <;> first | (exfalso; omega) | (conv => whnf)) | ((with_reducible first | refine Run.drawX rfl (by decide +kernel) ?_ | refine Run.drawT rfl (by decide +kernel) ?_ | refine Run.drawW rfl (by decide +kernel) ?_); conv => whnf) | fail)
      all_goals try (exfalso; omega)
      refine Run.callFA 1000 (ligs43_fn _ (by omega)) rfl rfl ⟨Le.refl _, trivial⟩ rfl rfl rfl (flat_cons (Ty.R_flat (fun _ _ _ => rfl)) flat_nil) ?_
      (conv => whnf); repeat' (first | ((with_reducible refine Know.mk fun _ => ?_); conv => whnf) | ((with_reducible refine Need.mk ?_ ?_); (first | omega | (dsimp only; omega) | decide | exact bytes_le (by rfl) (by omega) | exact ⟨rfl, by omega, bytes_le (by rfl) (by omega), by omega⟩ | (refine ⟨?_, ?_⟩ <;> (rw [wrap64 (by omega) (by omega)]; omega))); conv => whnf) | ((with_reducible refine Both.mk ?_ ?_) <;> conv => whnf) | ((with_reducible refine Any.mk fun b hb => ?_); conv => whnf) | ((with_reducible first | refine AskB.dec (fun hb => ?_) (fun hb => ?_) | refine AskB.ndec (fun hb => ?_) (fun hb => ?_) | refine AskB.mk (fun hb => ?_) (fun hb => ?_)) <;> first | (exfalso; omega) | (conv => whnf)) | ((with_reducible first | refine Run.drawX rfl (by decide +kernel) ?_ | refine Run.drawT rfl (by decide +kernel) ?_ | refine Run.drawW rfl (by decide +kernel) ?_); conv => whnf) | fail)
      all_goals try (exfalso; omega)
      refine Run.to _ _ ?_ ?_ (HA _ (hrl _ _ _ (if_pos b16).symm (if_neg b2).symm (if_pos b4).symm))
      · exact ⟨Le.refl _, Le.refl _, Le.refl _, trivial⟩
      · exact ⟨MOle.refl _, trivial⟩
    · refine Run.callFA 1000 (drop42_fn [r] 4 (by omega)) rfl rfl ⟨one1 _ rfl, Le.refl _, trivial⟩ rfl rfl rfl (flat_cons (Ty.R_flat (fun _ _ _ => rfl)) flat_nil) ?_
      (conv => whnf); repeat' (first | ((with_reducible refine Know.mk fun _ => ?_); conv => whnf) | ((with_reducible refine Need.mk ?_ ?_); (first | omega | (dsimp only; omega) | decide | exact bytes_le (by rfl) (by omega) | exact ⟨rfl, by omega, bytes_le (by rfl) (by omega), by omega⟩ | (refine ⟨?_, ?_⟩ <;> (rw [wrap64 (by omega) (by omega)]; omega))); conv => whnf) | ((with_reducible refine Both.mk ?_ ?_) <;> conv => whnf) | ((with_reducible refine Any.mk fun b hb => ?_); conv => whnf) | ((with_reducible first | refine AskB.dec (fun hb => ?_) (fun hb => ?_) | refine AskB.ndec (fun hb => ?_) (fun hb => ?_) | refine AskB.mk (fun hb => ?_) (fun hb => ?_)) <;> first | (exfalso; omega) | (conv => whnf)) | ((with_reducible first | refine Run.drawX rfl (by decide +kernel) ?_ | refine Run.drawT rfl (by decide +kernel) ?_ | refine Run.drawW rfl (by decide +kernel) ?_); conv => whnf) | fail)
      all_goals try (exfalso; omega)
      refine Run.to _ _ ?_ ?_ (HA _ (hrl _ _ _ (if_pos b16).symm (if_neg b2).symm (if_neg b4).symm))
      · exact ⟨Le.refl _, Le.refl _, Le.refl _, trivial⟩
      · exact ⟨MOle.refl _, trivial⟩
    · refine Run.callFA 1000 (drop42_fn [r] 2 (by omega)) rfl rfl ⟨one1 _ rfl, Le.refl _, trivial⟩ rfl rfl rfl (flat_cons (Ty.R_flat (fun _ _ _ => rfl)) flat_nil) ?_
      (conv => whnf); repeat' (first | ((with_reducible refine Know.mk fun _ => ?_); conv => whnf) | ((with_reducible refine Need.mk ?_ ?_); (first | omega | (dsimp only; omega) | decide | exact bytes_le (by rfl) (by omega) | exact ⟨rfl, by omega, bytes_le (by rfl) (by omega), by omega⟩ | (refine ⟨?_, ?_⟩ <;> (rw [wrap64 (by omega) (by omega)]; omega))); conv => whnf) | ((with_reducible refine Both.mk ?_ ?_) <;> conv => whnf) | ((with_reducible refine Any.mk fun b hb => ?_); conv => whnf) | ((with_reducible first | refine AskB.dec (fun hb => ?_) (fun hb => ?_) | refine AskB.ndec (fun hb => ?_) (fun hb => ?_) | refine AskB.mk (fun hb => ?_) (fun hb => ?_)) <;> first | (exfalso; omega) | (conv => whnf)) | ((with_reducible first | refine Run.drawX rfl (by decide +kernel) ?_ | refine Run.drawT rfl (by decide +kernel) ?_ | refine Run.drawW rfl (by decide +kernel) ?_); conv => whnf) | fail)
      all_goals try (exfalso; omega)
      refine Run.callFA 1000 (ligs43_fn _ (by omega)) rfl rfl ⟨Le.refl _, trivial⟩ rfl rfl rfl (flat_cons (Ty.R_flat (fun _ _ _ => rfl)) flat_nil) ?_
      (conv => whnf); repeat' (first | ((with_reducible refine Know.mk fun _ => ?_); conv => whnf) | ((with_reducible refine Need.mk ?_ ?_); (first | omega | (dsimp only; omega) | decide | exact bytes_le (by rfl) (by omega) | exact ⟨rfl, by omega, bytes_le (by rfl) (by omega), by omega⟩ | (refine ⟨?_, ?_⟩ <;> (rw [wrap64 (by omega) (by omega)]; omega))); conv => whnf) | ((with_reducible refine Both.mk ?_ ?_) <;> conv => whnf) | ((with_reducible refine Any.mk fun b hb => ?_); conv => whnf) | ((with_reducible first | refine AskB.dec (fun hb => ?_) (fun hb => ?_) | refine AskB.ndec (fun hb => ?_) (fun hb => ?_) | refine AskB.mk (fun hb => ?_) (fun hb => ?_)) <;> first | (exfalso; omega) | (conv => whnf)) | ((with_reducible first | refine Run.drawX rfl (by decide +kernel) ?_ | refine Run.drawT rfl (by decide +kernel) ?_ | refine Run.drawW rfl (by decide +kernel) ?_); conv => whnf) | fail)
      all_goals try (exfalso; omega)
      refine Run.to _ _ ?_ ?_ (HA _ (hrl _ _ _ (if_neg b16).symm (if_pos b2).symm (if_pos b4).symm))
      · exact ⟨Le.refl _, Le.refl _, Le.refl _, trivial⟩
      · exact ⟨MOle.refl _, trivial⟩
    · refine Run.callFA 1000 (drop42_fn [r] 2 (by omega)) rfl rfl ⟨one1 _ rfl, Le.refl _, trivial⟩ rfl rfl rfl (flat_cons (Ty.R_flat (fun _ _ _ => rfl)) flat_nil) ?_
      (conv => whnf); repeat' (first | ((with_reducible refine Know.mk fun _ => ?_); conv => whnf) | ((with_reducible refine Need.mk ?_ ?_); (first | omega | (dsimp only; omega) | decide | exact bytes_le (by rfl) (by omega) | exact ⟨rfl, by omega, bytes_le (by rfl) (by omega), by omega⟩ | (refine ⟨?_, ?_⟩ <;> (rw [wrap64 (by omega) (by omega)]; omega))); conv => whnf) | ((with_reducible refine Both.mk ?_ ?_) <;> conv => whnf) | ((with_reducible refine Any.mk fun b hb => ?_); conv => whnf) | ((with_reducible first | refine AskB.dec (fun hb => ?_) (fun hb => ?_) | refine AskB.ndec (fun hb => ?_) (fun hb => ?_) | refine AskB.mk (fun hb => ?_) (fun hb => ?_)) <;> first | (exfalso; omega) | (conv => whnf)) | ((with_reducible first | refine Run.drawX rfl (by decide +kernel) ?_ | refine Run.drawT rfl (by decide +kernel) ?_ | refine Run.drawW rfl (by decide +kernel) ?_); conv => whnf) | fail)
      all_goals try (exfalso; omega)
      refine Run.to _ _ ?_ ?_ (HA _ (hrl _ _ _ (if_neg b16).symm (if_pos b2).symm (if_neg b4).symm))
      · exact ⟨Le.refl _, Le.refl _, Le.refl _, trivial⟩
      · exact ⟨MOle.refl _, trivial⟩
    · refine Run.callFA 1000 (ligs43_fn [r] (by omega)) rfl rfl ⟨one1 _ rfl, trivial⟩ rfl rfl rfl (flat_cons (Ty.R_flat (fun _ _ _ => rfl)) flat_nil) ?_
      (conv => whnf); repeat' (first | ((with_reducible refine Know.mk fun _ => ?_); conv => whnf) | ((with_reducible refine Need.mk ?_ ?_); (first | omega | (dsimp only; omega) | decide | exact bytes_le (by rfl) (by omega) | exact ⟨rfl, by omega, bytes_le (by rfl) (by omega), by omega⟩ | (refine ⟨?_, ?_⟩ <;> (rw [wrap64 (by omega) (by omega)]; omega))); conv => whnf) | ((with_reducible refine Both.mk ?_ ?_) <;> conv => whnf) | ((with_reducible refine Any.mk fun b hb => ?_); conv => whnf) | ((with_reducible first | refine AskB.dec (fun hb => ?_) (fun hb => ?_) | refine AskB.ndec (fun hb => ?_) (fun hb => ?_) | refine AskB.mk (fun hb => ?_) (fun hb => ?_)) <;> first | (exfalso; omega) | (conv => whnf)) | ((with_reducible first | refine Run.drawX rfl (by decide +kernel) ?_ | refine Run.drawT rfl (by decide +kernel) ?_ | refine Run.drawW rfl (by decide +kernel) ?_); conv => whnf) | fail)
      all_goals try (exfalso; omega)
      refine Run.to _ _ ?_ ?_ (HA _ (hrl _ _ _ (if_neg b16).symm (if_neg b2).symm (if_pos b4).symm))
      · exact ⟨Le.refl _, Le.refl _, Le.refl _, trivial⟩
      · exact ⟨MOle.refl _, trivial⟩
    · refine Run.hold (z := 15) 6 1000 (by rfl) (by rfl) (by rfl) ?_
      refine Run.to _ _ ?_ ?_ (HA [r] (hrl _ _ _ (if_neg b16).symm (if_neg b2).symm (if_neg b4).symm))
      · exact ⟨Le.refl _, Le.refl _, Le.refl _, trivial⟩
      refine ⟨⟨rfl, rfl, rfl, fun i j hi hj => ?_⟩, trivial⟩
      obtain rfl : i = 0 := by have : i < 1 := hi; omega
      obtain rfl : j = 0 := by have : j < 1 := hj; omega
      exact Le.refl _
  intro l hrfl
  rw [hrfl] at hn ⊢
  refine Run.loop [1, 6] (fun (j : Nat) => [(7, .int .i64 (j : Int))]) (fun j => [(1000, tRn.R 21 (mapTo (stepV kk.val) l j))]) (fun j => j ≤ l.length) (fun j => l.length - j) 0 (Nat.zero_le _) ⟨Le.refl _, trivial⟩ ⟨by rw [mapTo_zero]; exact MOle.refl _, trivial⟩ ?_
  intro j hj IH
  have hwj : IntKind.i64.wrap ((j : Int) + 1) = ((j + 1 : Nat) : Int) := wrap64 (by omega) (by omega)
  have hml := mapTo_len (stepV kk.val) l j
  have hst : j < l.length → (mapTo (stepV kk.val) l j).set j (stepV kk.val ((mapTo (stepV kk.val) l j).getD j tRn.z)) = mapTo (stepV kk.val) l (j + 1) := fun h => by
    rw [mapTo_at _ _ _ _ h, mapTo_set _ _ _ _ h]
  generalize hL : mapTo (stepV kk.val) l j = L at hml hst ⊢
  refine Run.goS true 0 ?_; (conv => whnf); repeat' (first | ((with_reducible refine Know.mk fun _ => ?_); conv => whnf) | ((with_reducible refine Need.mk ?_ ?_); (first | omega | (dsimp only; omega) | decide | exact bytes_le (by rfl) (by omega) | exact ⟨rfl, by omega, bytes_le (by rfl) (by omega), by omega⟩ | (refine ⟨?_, ?_⟩ <;> (rw [wrap64 (by omega) (by omega)]; omega))); conv => whnf) | ((with_reducible first | refine Both.mk ?_ ?_ | refine Any.mk fun b hb => ?_ | refine AskB.dec (fun hb => ?_) (fun hb => ?_) | refine AskB.ndec (fun hb => ?_) (fun hb => ?_) | refine AskB.mk (fun hb => ?_) (fun hb => ?_)) <;> conv => whnf) | ((with_reducible first | refine Run.drawX rfl (by decide +kernel) ?_ | refine Run.drawT rfl (by decide +kernel) ?_ | refine Run.drawW rfl (by decide +kernel) ?_); conv => whnf) | fail)
  refine Run.cond2 rfl (fun hb => ?_) (fun hb => ?_)
  · have hjl : j < L.length := by have := of_decide_eq_true hb; omega
    refine Run.goS true 0 ?_; (conv => whnf); repeat' (first | ((with_reducible refine Know.mk fun _ => ?_); conv => whnf) | ((with_reducible refine Need.mk ?_ ?_); (first | omega | (dsimp only; omega) | decide | exact bytes_le (by rfl) (by omega) | exact ⟨rfl, by omega, bytes_le (by rfl) (by omega), by omega⟩ | (refine ⟨?_, ?_⟩ <;> (rw [wrap64 (by omega) (by omega)]; omega))); conv => whnf) | ((with_reducible first | refine Both.mk ?_ ?_ | refine Any.mk fun b hb => ?_ | refine AskB.dec (fun hb => ?_) (fun hb => ?_) | refine AskB.ndec (fun hb => ?_) (fun hb => ?_) | refine AskB.mk (fun hb => ?_) (fun hb => ?_)) <;> conv => whnf) | ((with_reducible first | refine Run.drawX rfl (by decide +kernel) ?_ | refine Run.drawT rfl (by decide +kernel) ?_ | refine Run.drawW rfl (by decide +kernel) ?_); conv => whnf) | fail)
    refine Run.ifk [1, 6, 7] (fun (_ : Unit) => []) (fun _ => [(1000, tRn.R 21 (L.set j (ifV ((kk.val : Int) % 2 = 1) lowV (L.getD j tRn.z))))]) (fun _ => True) rfl ⟨fun next => ⟨fun hb => ?_, fun hb => ?_⟩, fun _ _ => ?_⟩
    · have hb := of_decide_eq_true hb
      refine Run.goS false 6 ?_; (conv => whnf); repeat' (first | ((with_reducible refine Know.mk fun _ => ?_); conv => whnf) | ((with_reducible refine Need.mk ?_ ?_); (first | omega | (dsimp only; omega) | decide | exact bytes_le (by rfl) (by omega) | exact ⟨rfl, by omega, bytes_le (by rfl) (by omega), by omega⟩ | (refine ⟨?_, ?_⟩ <;> (rw [wrap64 (by omega) (by omega)]; omega))); conv => whnf) | ((with_reducible first | refine Both.mk ?_ ?_ | refine Any.mk fun b hb => ?_ | refine AskB.dec (fun hb => ?_) (fun hb => ?_) | refine AskB.ndec (fun hb => ?_) (fun hb => ?_) | refine AskB.mk (fun hb => ?_) (fun hb => ?_)) <;> conv => whnf) | ((with_reducible first | refine Run.drawX rfl (by decide +kernel) ?_ | refine Run.drawT rfl (by decide +kernel) ?_ | refine Run.drawW rfl (by decide +kernel) ?_); conv => whnf) | fail)
      refine Run.callB (small44_fn (L.getD j tRn.z)) rfl rfl ⟨?_, trivial⟩ rfl rfl rfl ?_
      · exact Le.int rfl
      refine Run.goS false 6 ?_; (conv => whnf); repeat' (first | ((with_reducible refine Know.mk fun _ => ?_); conv => whnf) | ((with_reducible refine Need.mk ?_ ?_); (first | omega | (dsimp only; omega) | decide | exact bytes_le (by rfl) (by omega) | exact ⟨rfl, by omega, bytes_le (by rfl) (by omega), by omega⟩ | (refine ⟨?_, ?_⟩ <;> (rw [wrap64 (by omega) (by omega)]; omega))); conv => whnf) | ((with_reducible first | refine Both.mk ?_ ?_ | refine Any.mk fun b hb => ?_ | refine AskB.dec (fun hb => ?_) (fun hb => ?_) | refine AskB.ndec (fun hb => ?_) (fun hb => ?_) | refine AskB.mk (fun hb => ?_) (fun hb => ?_)) <;> conv => whnf) | ((with_reducible first | refine Run.drawX rfl (by decide +kernel) ?_ | refine Run.drawT rfl (by decide +kernel) ?_ | refine Run.drawW rfl (by decide +kernel) ?_); conv => whnf) | fail)
      refine Run.to _ _ ?_ ?_ (next () trivial)
      · exact ⟨Le.refl _, Le.refl _, Le.refl _, trivial⟩
      · refine ⟨?_, trivial⟩
        rw [show ifV ((kk.val : Int) % 2 = 1) lowV (L.getD j tRn.z) = lowV (L.getD j tRn.z) from if_pos (by omega)]
        exact tRn.set 21 L j _ hjl _ rfl (Le.one (Le.refl _))
    · have hb := of_decide_eq_false hb
      refine Run.goS false 6 ?_; (conv => whnf); repeat' (first | ((with_reducible refine Know.mk fun _ => ?_); conv => whnf) | ((with_reducible refine Need.mk ?_ ?_); (first | omega | (dsimp only; omega) | decide | exact bytes_le (by rfl) (by omega) | exact ⟨rfl, by omega, bytes_le (by rfl) (by omega), by omega⟩ | (refine ⟨?_, ?_⟩ <;> (rw [wrap64 (by omega) (by omega)]; omega))); conv => whnf) | ((with_reducible first | refine Both.mk ?_ ?_ | refine Any.mk fun b hb => ?_ | refine AskB.dec (fun hb => ?_) (fun hb => ?_) | refine AskB.ndec (fun hb => ?_) (fun hb => ?_) | refine AskB.mk (fun hb => ?_) (fun hb => ?_)) <;> conv => whnf) | ((with_reducible first | refine Run.drawX rfl (by decide +kernel) ?_ | refine Run.drawT rfl (by decide +kernel) ?_ | refine Run.drawW rfl (by decide +kernel) ?_); conv => whnf) | fail)
      refine Run.to _ _ ?_ ?_ (next () trivial)
      · exact ⟨Le.refl _, Le.refl _, Le.refl _, trivial⟩
      · refine ⟨?_, trivial⟩
        rw [show ifV ((kk.val : Int) % 2 = 1) lowV (L.getD j tRn.z) = L.getD j tRn.z from if_neg (by omega), set_same]
        exact MOle.refl _
    generalize hx1 : ifV ((kk.val : Int) % 2 = 1) lowV (L.getD j tRn.z) = x1
    have hl1 : (L.set j x1).length = l.length := by rw [List.length_set]; exact hml
    have hg1 : (L.set j x1).getD (j : Int).toNat tRn.z = x1 := getD_setL L j x1 _ hjl
    have hst2 : ∀ y, (L.set j x1).set j y = L.set j y := fun y => List.set_set ..
    generalize hM1 : L.set j x1 = M1 at hl1 hg1 hst2
    refine Run.goS true 0 ?_; (conv => whnf); repeat' (first | ((with_reducible refine Know.mk fun _ => ?_); conv => whnf) | ((with_reducible refine Need.mk ?_ ?_); (first | omega | (dsimp only; omega) | decide | exact bytes_le (by rfl) (by omega) | exact ⟨rfl, by omega, bytes_le (by rfl) (by omega), by omega⟩ | (refine ⟨?_, ?_⟩ <;> (rw [wrap64 (by omega) (by omega)]; omega))); conv => whnf) | ((with_reducible first | refine Both.mk ?_ ?_ | refine Any.mk fun b hb => ?_ | refine AskB.dec (fun hb => ?_) (fun hb => ?_) | refine AskB.ndec (fun hb => ?_) (fun hb => ?_) | refine AskB.mk (fun hb => ?_) (fun hb => ?_)) <;> conv => whnf) | ((with_reducible first | refine Run.drawX rfl (by decide +kernel) ?_ | refine Run.drawT rfl (by decide +kernel) ?_ | refine Run.drawW rfl (by decide +kernel) ?_); conv => whnf) | fail)
    refine Run.ifk [1, 6, 7] (fun (_ : Unit) => []) (fun _ => [(1000, tRn.R 21 (L.set j (ifV ((kk.val : Int) / 2 % 2 = 1) bareV x1)))]) (fun _ => True) rfl ⟨fun next => ⟨fun hb => ?_, fun hb => ?_⟩, fun _ _ => ?_⟩
    · have hb := of_decide_eq_true hb
      refine Run.goS false 6 ?_; (conv => whnf); repeat' (first | ((with_reducible refine Know.mk fun _ => ?_); conv => whnf) | ((with_reducible refine Need.mk ?_ ?_); (first | omega | (dsimp only; omega) | decide | exact bytes_le (by rfl) (by omega) | exact ⟨rfl, by omega, bytes_le (by rfl) (by omega), by omega⟩ | (refine ⟨?_, ?_⟩ <;> (rw [wrap64 (by omega) (by omega)]; omega))); conv => whnf) | ((with_reducible first | refine Both.mk ?_ ?_ | refine Any.mk fun b hb => ?_ | refine AskB.dec (fun hb => ?_) (fun hb => ?_) | refine AskB.ndec (fun hb => ?_) (fun hb => ?_) | refine AskB.mk (fun hb => ?_) (fun hb => ?_)) <;> conv => whnf) | ((with_reducible first | refine Run.drawX rfl (by decide +kernel) ?_ | refine Run.drawT rfl (by decide +kernel) ?_ | refine Run.drawW rfl (by decide +kernel) ?_); conv => whnf) | fail)
      refine Run.callB (bare45_fn (x1)) rfl rfl ⟨?_, trivial⟩ rfl rfl rfl ?_
      · exact Le.int hg1
      refine Run.goS false 6 ?_; (conv => whnf); repeat' (first | ((with_reducible refine Know.mk fun _ => ?_); conv => whnf) | ((with_reducible refine Need.mk ?_ ?_); (first | omega | (dsimp only; omega) | decide | exact bytes_le (by rfl) (by omega) | exact ⟨rfl, by omega, bytes_le (by rfl) (by omega), by omega⟩ | (refine ⟨?_, ?_⟩ <;> (rw [wrap64 (by omega) (by omega)]; omega))); conv => whnf) | ((with_reducible first | refine Both.mk ?_ ?_ | refine Any.mk fun b hb => ?_ | refine AskB.dec (fun hb => ?_) (fun hb => ?_) | refine AskB.ndec (fun hb => ?_) (fun hb => ?_) | refine AskB.mk (fun hb => ?_) (fun hb => ?_)) <;> conv => whnf) | ((with_reducible first | refine Run.drawX rfl (by decide +kernel) ?_ | refine Run.drawT rfl (by decide +kernel) ?_ | refine Run.drawW rfl (by decide +kernel) ?_); conv => whnf) | fail)
      refine Run.to _ _ ?_ ?_ (next () trivial)
      · exact ⟨Le.refl _, Le.refl _, Le.refl _, trivial⟩
      · refine ⟨?_, trivial⟩
        rw [show ifV ((kk.val : Int) / 2 % 2 = 1) bareV x1 = bareV x1 from if_pos (by omega), ← hst2]
        exact tRn.set 21 M1 j _ (by omega) _ rfl (Le.one (Le.refl _))
    · have hb := of_decide_eq_false hb
      refine Run.goS false 6 ?_; (conv => whnf); repeat' (first | ((with_reducible refine Know.mk fun _ => ?_); conv => whnf) | ((with_reducible refine Need.mk ?_ ?_); (first | omega | (dsimp only; omega) | decide | exact bytes_le (by rfl) (by omega) | exact ⟨rfl, by omega, bytes_le (by rfl) (by omega), by omega⟩ | (refine ⟨?_, ?_⟩ <;> (rw [wrap64 (by omega) (by omega)]; omega))); conv => whnf) | ((with_reducible first | refine Both.mk ?_ ?_ | refine Any.mk fun b hb => ?_ | refine AskB.dec (fun hb => ?_) (fun hb => ?_) | refine AskB.ndec (fun hb => ?_) (fun hb => ?_) | refine AskB.mk (fun hb => ?_) (fun hb => ?_)) <;> conv => whnf) | ((with_reducible first | refine Run.drawX rfl (by decide +kernel) ?_ | refine Run.drawT rfl (by decide +kernel) ?_ | refine Run.drawW rfl (by decide +kernel) ?_); conv => whnf) | fail)
      refine Run.to _ _ ?_ ?_ (next () trivial)
      · exact ⟨Le.refl _, Le.refl _, Le.refl _, trivial⟩
      · refine ⟨?_, trivial⟩
        rw [show ifV ((kk.val : Int) / 2 % 2 = 1) bareV x1 = x1 from if_neg (by omega), hM1]
        exact MOle.refl _
    generalize hx2 : ifV ((kk.val : Int) / 2 % 2 = 1) bareV x1 = x2
    have hl2 : (L.set j x2).length = l.length := by rw [List.length_set]; exact hml
    have hg2 : (L.set j x2).getD (j : Int).toNat tRn.z = x2 := getD_setL L j x2 _ hjl
    have hst3 : ∀ y, (L.set j x2).set j y = L.set j y := fun y => List.set_set ..
    generalize hM2 : L.set j x2 = M2 at hl2 hg2 hst3
    refine Run.goS true 0 ?_; (conv => whnf); repeat' (first | ((with_reducible refine Know.mk fun _ => ?_); conv => whnf) | ((with_reducible refine Need.mk ?_ ?_); (first | omega | (dsimp only; omega) | decide | exact bytes_le (by rfl) (by omega) | exact ⟨rfl, by omega, bytes_le (by rfl) (by omega), by omega⟩ | (refine ⟨?_, ?_⟩ <;> (rw [wrap64 (by omega) (by omega)]; omega))); conv => whnf) | ((with_reducible first | refine Both.mk ?_ ?_ | refine Any.mk fun b hb => ?_ | refine AskB.dec (fun hb => ?_) (fun hb => ?_) | refine AskB.ndec (fun hb => ?_) (fun hb => ?_) | refine AskB.mk (fun hb => ?_) (fun hb => ?_)) <;> conv => whnf) | ((with_reducible first | refine Run.drawX rfl (by decide +kernel) ?_ | refine Run.drawT rfl (by decide +kernel) ?_ | refine Run.drawW rfl (by decide +kernel) ?_); conv => whnf) | fail)
    refine Run.ifk [1, 6, 7] (fun (_ : Unit) => []) (fun _ => [(1000, tRn.R 21 (L.set j (ifV ((kk.val : Int) / 8 % 2 = 1) letterV x2)))]) (fun _ => True) rfl ⟨fun next => ⟨fun hb => ?_, fun hb => ?_⟩, fun _ _ => ?_⟩
    · have hb := of_decide_eq_true hb
      refine Run.goS false 5 ?_; (conv => whnf); repeat' (first | ((with_reducible refine Know.mk fun _ => ?_); conv => whnf) | ((with_reducible refine Need.mk ?_ ?_); (first | omega | (dsimp only; omega) | decide | exact bytes_le (by rfl) (by omega) | exact ⟨rfl, by omega, bytes_le (by rfl) (by omega), by omega⟩ | (refine ⟨?_, ?_⟩ <;> (rw [wrap64 (by omega) (by omega)]; omega))); conv => whnf) | ((with_reducible first | refine Both.mk ?_ ?_ | refine Any.mk fun b hb => ?_ | refine AskB.dec (fun hb => ?_) (fun hb => ?_) | refine AskB.ndec (fun hb => ?_) (fun hb => ?_) | refine AskB.mk (fun hb => ?_) (fun hb => ?_)) <;> conv => whnf) | ((with_reducible first | refine Run.drawX rfl (by decide +kernel) ?_ | refine Run.drawT rfl (by decide +kernel) ?_ | refine Run.drawW rfl (by decide +kernel) ?_); conv => whnf) | fail)
      refine Run.callB (plain46_fn (x2)) rfl rfl ⟨?_, trivial⟩ rfl rfl rfl ?_
      · exact Le.int hg2
      refine Run.goS false 5 ?_; (conv => whnf); repeat' (first | ((with_reducible refine Know.mk fun _ => ?_); conv => whnf) | ((with_reducible refine Need.mk ?_ ?_); (first | omega | (dsimp only; omega) | decide | exact bytes_le (by rfl) (by omega) | exact ⟨rfl, by omega, bytes_le (by rfl) (by omega), by omega⟩ | (refine ⟨?_, ?_⟩ <;> (rw [wrap64 (by omega) (by omega)]; omega))); conv => whnf) | ((with_reducible first | refine Both.mk ?_ ?_ | refine Any.mk fun b hb => ?_ | refine AskB.dec (fun hb => ?_) (fun hb => ?_) | refine AskB.ndec (fun hb => ?_) (fun hb => ?_) | refine AskB.mk (fun hb => ?_) (fun hb => ?_)) <;> conv => whnf) | ((with_reducible first | refine Run.drawX rfl (by decide +kernel) ?_ | refine Run.drawT rfl (by decide +kernel) ?_ | refine Run.drawW rfl (by decide +kernel) ?_); conv => whnf) | fail)
      refine Run.to _ _ ?_ ?_ (next () trivial)
      · exact ⟨Le.refl _, Le.refl _, Le.refl _, trivial⟩
      · refine ⟨?_, trivial⟩
        rw [show ifV ((kk.val : Int) / 8 % 2 = 1) letterV x2 = letterV x2 from if_pos (by omega), ← hst3]
        exact tRn.set 21 M2 j _ (by omega) _ rfl (Le.one (Le.refl _))
    · have hb := of_decide_eq_false hb
      refine Run.goS false 5 ?_; (conv => whnf); repeat' (first | ((with_reducible refine Know.mk fun _ => ?_); conv => whnf) | ((with_reducible refine Need.mk ?_ ?_); (first | omega | (dsimp only; omega) | decide | exact bytes_le (by rfl) (by omega) | exact ⟨rfl, by omega, bytes_le (by rfl) (by omega), by omega⟩ | (refine ⟨?_, ?_⟩ <;> (rw [wrap64 (by omega) (by omega)]; omega))); conv => whnf) | ((with_reducible first | refine Both.mk ?_ ?_ | refine Any.mk fun b hb => ?_ | refine AskB.dec (fun hb => ?_) (fun hb => ?_) | refine AskB.ndec (fun hb => ?_) (fun hb => ?_) | refine AskB.mk (fun hb => ?_) (fun hb => ?_)) <;> conv => whnf) | ((with_reducible first | refine Run.drawX rfl (by decide +kernel) ?_ | refine Run.drawT rfl (by decide +kernel) ?_ | refine Run.drawW rfl (by decide +kernel) ?_); conv => whnf) | fail)
      refine Run.to _ _ ?_ ?_ (next () trivial)
      · exact ⟨Le.refl _, Le.refl _, Le.refl _, trivial⟩
      · refine ⟨?_, trivial⟩
        rw [show ifV ((kk.val : Int) / 8 % 2 = 1) letterV x2 = x2 from if_neg (by omega), hM2]
        exact MOle.refl _
    refine Run.go ?_; (conv => whnf); repeat' (first | ((with_reducible refine Know.mk fun _ => ?_); conv => whnf) | ((with_reducible refine Need.mk ?_ ?_); (first | omega | (dsimp only; omega) | decide | exact bytes_le (by rfl) (by omega) | exact ⟨rfl, by omega, bytes_le (by rfl) (by omega), by omega⟩ | (refine ⟨?_, ?_⟩ <;> (rw [wrap64 (by omega) (by omega)]; omega))); conv => whnf) | ((with_reducible first | refine Both.mk ?_ ?_ | refine Any.mk fun b hb => ?_ | refine AskB.dec (fun hb => ?_) (fun hb => ?_) | refine AskB.ndec (fun hb => ?_) (fun hb => ?_) | refine AskB.mk (fun hb => ?_) (fun hb => ?_)) <;> conv => whnf) | ((with_reducible first | refine Run.drawX rfl (by decide +kernel) ?_ | refine Run.drawT rfl (by decide +kernel) ?_ | refine Run.drawW rfl (by decide +kernel) ?_); conv => whnf) | fail)
    refine Run.to _ _ ?_ ?_ (IH (j + 1) (by omega) (by omega))
    · exact ⟨Le.refl _, Le.refl _, Le.int hwj, trivial⟩
    · refine ⟨?_, trivial⟩
      have hst4 := hst (by omega)
      rw [stepV_if, hx1, hx2] at hst4
      rw [← hst4]
      exact MOle.refl _
  · have hb := of_decide_eq_false hb
    obtain rfl : j = l.length := by omega
    refine Run.go ?_; (conv => whnf); repeat' (first | ((with_reducible refine Know.mk fun _ => ?_); conv => whnf) | ((with_reducible refine Need.mk ?_ ?_); (first | omega | (dsimp only; omega) | decide | exact bytes_le (by rfl) (by omega) | exact ⟨rfl, by omega, bytes_le (by rfl) (by omega), by omega⟩ | (refine ⟨?_, ?_⟩ <;> (rw [wrap64 (by omega) (by omega)]; omega))); conv => whnf) | ((with_reducible first | refine Both.mk ?_ ?_ | refine Any.mk fun b hb => ?_ | refine AskB.dec (fun hb => ?_) (fun hb => ?_) | refine AskB.ndec (fun hb => ?_) (fun hb => ?_) | refine AskB.mk (fun hb => ?_) (fun hb => ?_)) <;> conv => whnf) | ((with_reducible first | refine Run.drawX rfl (by decide +kernel) ?_ | refine Run.drawT rfl (by decide +kernel) ?_ | refine Run.drawW rfl (by decide +kernel) ?_); conv => whnf) | fail)
    rw [mapTo_all] at hL
    have hLn : L.length ≤ 10000000 := by omega
    refine Run.callAX (back47_fn L hLn) rfl rfl ⟨Le.refl _, trivial⟩ rfl rfl rfl ?_
    (conv => whnf); repeat' (first | ((with_reducible refine Know.mk fun _ => ?_); conv => whnf) | ((with_reducible refine Need.mk ?_ ?_); (first | omega | (dsimp only; omega) | decide | exact bytes_le (by rfl) (by omega) | exact ⟨rfl, by omega, bytes_le (by rfl) (by omega), by omega⟩ | (refine ⟨?_, ?_⟩ <;> (rw [wrap64 (by omega) (by omega)]; omega))); conv => whnf) | ((with_reducible first | refine Both.mk ?_ ?_ | refine Any.mk fun b hb => ?_ | refine AskB.dec (fun hb => ?_) (fun hb => ?_) | refine AskB.ndec (fun hb => ?_) (fun hb => ?_) | refine AskB.mk (fun hb => ?_) (fun hb => ?_)) <;> conv => whnf) | ((with_reducible first | refine Run.drawX rfl (by decide +kernel) ?_ | refine Run.drawT rfl (by decide +kernel) ?_ | refine Run.drawW rfl (by decide +kernel) ?_); conv => whnf) | fail)
    rw [hL]
    exact Run.leave (ts := [4,5]) (.inr ⟨_, rfl⟩) rfl Tryd.func70 rfl (resT ⟨Le.refl _, Le.refl _, trivial⟩)
end Go.Proofs.YtnadacaoehpdnaaDoor.V

namespace Go.Proofs.YtnadacaoehpdnaaDoor.V
set_option linter.unusedVariables false
set_option linter.unusedSimpArgs false
open Go Go.Proofs Go.RowKit
set_option maxRecDepth 100000
set_option maxHeartbeats 4000000
open Go Go.Proofs Go.Proofs.YtnadacaoehpdnaaDoor.V
theorem refL_eq (r o : Int) : backE ((refL r o).map (stepV o)) = foldR r o := by
  have hd : ∀ k, dropE k [r] = if kOf r = k then [] else [r] := fun k => by
    by_cases h : kOf r = k
    · rw [dropE_no h, if_pos h]; rfl
    · rw [dropE_yes h, if_neg h]; rfl
  have hn : ∀ k, dropE k [] = [] := fun k => rfl
  have hl0 : ligsE [] = [] := rfl
  have hl1 : ligsE [r] = ligE r := by simp [ligsE]
  unfold foldR dropV backE
  rw [catE_eq, runesV_eq]
  unfold refL
  simp only [hd]
  by_cases h16 : o / 16 % 2 = 1 <;> by_cases h2 : o / 2 % 2 = 1 <;> by_cases h4 : o / 4 % 2 = 1 <;> by_cases k4 : kOf r = 4 <;> by_cases k2 : kOf r = 2 <;> by_cases hL : isLig r = true <;> simp [h16, h2, h4, k4, k2, hL, hd, hn, hl0, hl1, ligE, encs, bl] <;> rfl
theorem rune28_fn' (r o : Int) : Fn Tryd.prog 70 [.int .i32 r, .int .i64 o] (runeL r o) := by
  have := rune28_fn r o
  rw [refL_eq] at this
  exact this
theorem text29_fn (s : ByteArray) (o : Int) (hs : s.size ≤ 134217728) : Fn Tryd.prog 54 [.str s, .int .i64 o] (textL s o) := by
  refine Fn.of Tryd.f54 _ Tryd.func54 rfl (by decide) (by show 2 ≤ _; decide) tbOk 53 rfl fun S w0 gl => ?_
  by_cases hbad : badO o
  · have hbo : o < 0 ∨ 31 < o := hbad
    unfold textL
    rw [if_pos hbad, if_pos hbad]
    refine Run.go ?_; (conv => whnf); repeat' (first | ((with_reducible refine Know.mk fun _ => ?_); conv => whnf) | ((with_reducible refine Need.mk ?_ ?_); (first | omega | (dsimp only; omega) | decide | exact bytes_le (by rfl) (by omega) | exact ⟨rfl, by omega, bytes_le (by rfl) (by omega), by omega⟩ | (refine ⟨?_, ?_⟩ <;> (rw [wrap64 (by omega) (by omega)]; omega))); conv => whnf) | ((with_reducible refine Both.mk ?_ ?_) <;> conv => whnf) | ((with_reducible refine Any.mk fun b hb => ?_); conv => whnf) | ((with_reducible first | refine AskB.dec (fun hb => ?_) (fun hb => ?_) | refine AskB.ndec (fun hb => ?_) (fun hb => ?_) | refine AskB.mk (fun hb => ?_) (fun hb => ?_)) <;> first | (exfalso; omega) | (conv => whnf)) | ((with_reducible first | refine Run.drawX rfl (by decide +kernel) ?_ | refine Run.drawT rfl (by decide +kernel) ?_ | refine Run.drawW rfl (by decide +kernel) ?_); conv => whnf) | fail)
    all_goals first
      | exact Run.leave (ts := [4,5]) (.inr ⟨_, rfl⟩) rfl Tryd.func54 rfl (resT ⟨Le.refl _, Le.refl _, trivial⟩)
      | (exfalso; omega)
  have hbo : ¬ (o < 0 ∨ 31 < o) := hbad
  unfold textL
  rw [if_neg hbad, if_neg hbad]
  refine Run.go ?_; (conv => whnf); repeat' (first | ((with_reducible refine Know.mk fun _ => ?_); conv => whnf) | ((with_reducible refine Need.mk ?_ ?_); (first | omega | (dsimp only; omega) | decide | exact bytes_le (by rfl) (by omega) | exact ⟨rfl, by omega, bytes_le (by rfl) (by omega), by omega⟩ | (refine ⟨?_, ?_⟩ <;> (rw [wrap64 (by omega) (by omega)]; omega))); conv => whnf) | ((with_reducible refine Both.mk ?_ ?_) <;> conv => whnf) | ((with_reducible refine Any.mk fun b hb => ?_); conv => whnf) | ((with_reducible first | refine AskB.dec (fun hb => ?_) (fun hb => ?_) | refine AskB.ndec (fun hb => ?_) (fun hb => ?_) | refine AskB.mk (fun hb => ?_) (fun hb => ?_)) <;> first | (exfalso; omega) | (conv => whnf)) | ((with_reducible first | refine Run.drawX rfl (by decide +kernel) ?_ | refine Run.drawT rfl (by decide +kernel) ?_ | refine Run.drawW rfl (by decide +kernel) ?_); conv => whnf) | fail)
  all_goals try (exfalso; omega)
  refine Run.callBX (cells36_fn s hs) rfl rfl ⟨Le.refl _, trivial⟩ rfl rfl rfl ?_
  have hcl := cells_len s 0
  have hT : ∀ j, (catC o ((cells s 0).take j)).size ≤ 2000000000 := fun j => by
    have h1 := catC_size o ((cells s 0).take j)
    have h2 : ((cells s 0).take j).length ≤ (cells s 0).length := by rw [List.length_take]; omega
    omega
  have hby := cell_byte s 0
  unfold textF
  generalize cells s 0 = L at hcl hT hby ⊢
  (conv => whnf); repeat' (first | ((with_reducible refine Know.mk fun _ => ?_); conv => whnf) | ((with_reducible refine Need.mk ?_ ?_); (first | omega | (dsimp only; omega) | decide | exact bytes_le (by rfl) (by omega) | exact ⟨rfl, by omega, bytes_le (by rfl) (by omega), by omega⟩ | (refine ⟨?_, ?_⟩ <;> (rw [wrap64 (by omega) (by omega)]; omega))); conv => whnf) | ((with_reducible first | refine Both.mk ?_ ?_ | refine Any.mk fun b hb => ?_ | refine AskB.dec (fun hb => ?_) (fun hb => ?_) | refine AskB.ndec (fun hb => ?_) (fun hb => ?_) | refine AskB.mk (fun hb => ?_) (fun hb => ?_)) <;> conv => whnf) | ((with_reducible first | refine Run.drawX rfl (by decide +kernel) ?_ | refine Run.drawT rfl (by decide +kernel) ?_ | refine Run.drawW rfl (by decide +kernel) ?_); conv => whnf) | fail)
  refine Run.holdNil 6 1000 5 1 (bytesG .empty) rfl ?_
  refine Run.loop [1, 7] (fun (j : Nat) => [(6, .row 1000), (8, .int .i64 (j : Int))]) (fun j => [(1000, .row 5 1 (catC o (L.take j)).size (bytesG (catC o (L.take j))))]) (fun j => j ≤ L.length) (fun j => L.length - j) 0 (Nat.zero_le _) ⟨Le.refl _, Le.refl _, trivial⟩ ⟨MOle.refl _, trivial⟩ ?_
  intro j hj IH
  have hwj : IntKind.i64.wrap ((j : Int) + 1) = ((j + 1 : Nat) : Int) := wrap64 (by omega) (by omega)
  have hTj := hT j
  refine Run.go ?_; (conv => whnf); repeat' (first | ((with_reducible refine Know.mk fun _ => ?_); conv => whnf) | ((with_reducible refine Need.mk ?_ ?_); (first | omega | (dsimp only; omega) | decide | exact bytes_le (by rfl) (by omega) | exact ⟨rfl, by omega, bytes_le (by rfl) (by omega), by omega⟩ | (refine ⟨?_, ?_⟩ <;> (rw [wrap64 (by omega) (by omega)]; omega))); conv => whnf) | ((with_reducible first | refine Both.mk ?_ ?_ | refine Any.mk fun b hb => ?_ | refine AskB.dec (fun hb => ?_) (fun hb => ?_) | refine AskB.ndec (fun hb => ?_) (fun hb => ?_) | refine AskB.mk (fun hb => ?_) (fun hb => ?_)) <;> conv => whnf) | ((with_reducible first | refine Run.drawX rfl (by decide +kernel) ?_ | refine Run.drawT rfl (by decide +kernel) ?_ | refine Run.drawW rfl (by decide +kernel) ?_); conv => whnf) | fail)
  case _ =>
    have hjl : j < L.length := by omega
    have hb2 : (L.getD j tCel.z).bad = true := hb
    have hcf : cellF o (L.getD j tCel.z) = ⟨#[UInt8.ofNat (L.getD j tCel.z).byte.toNat]⟩ := if_pos hb2
    refine Run.hold (z := 37) 6 1000 (by rfl) (by rfl) (by rfl) ?_
    refine Run.to _ _ ?_ ?_ (IH (j + 1) (by omega) (by omega))
    · exact ⟨Le.refl _, Le.refl _, Le.refl _, Le.int hwj, trivial⟩
    · refine ⟨?_, trivial⟩
      rw [catC_take _ _ _ hjl, hcf]
      refine bytesG_push 5 _ (UInt8.ofNat (L.getD j tCel.z).byte.toNat) _ ?_
      rw [hby _ (by rw [List.getD, List.getElem?_eq_getElem hjl]; exact List.getElem_mem hjl)]; rfl
  case _ =>
    have hjl : j < L.length := by omega
    have hb2 : (L.getD j tCel.z).bad = false := hb
    have hcf : cellF o (L.getD j tCel.z) = foldR (L.getD j tCel.z).r o := if_neg (by rw [hb2]; exact Bool.noConfusion)
    have hfs := foldR_size (L.getD j tCel.z).r o
    have hru := rune28_fn' (L.getD j tCel.z).r o
    unfold runeL at hru
    rw [if_neg hbad, if_neg hbad] at hru
    refine Run.callBX hru rfl rfl ⟨Le.refl _, Le.refl _, trivial⟩ rfl rfl rfl ?_
    (conv => whnf); repeat' (first | ((with_reducible refine Know.mk fun _ => ?_); conv => whnf) | ((with_reducible refine Need.mk ?_ ?_); (first | omega | (dsimp only; omega) | decide | exact bytes_le (by rfl) (by omega) | exact ⟨rfl, by omega, bytes_le (by rfl) (by omega), by omega⟩ | (refine ⟨?_, ?_⟩ <;> (rw [wrap64 (by omega) (by omega)]; omega))); conv => whnf) | ((with_reducible first | refine Both.mk ?_ ?_ | refine Any.mk fun b hb => ?_ | refine AskB.dec (fun hb => ?_) (fun hb => ?_) | refine AskB.ndec (fun hb => ?_) (fun hb => ?_) | refine AskB.mk (fun hb => ?_) (fun hb => ?_)) <;> conv => whnf) | ((with_reducible first | refine Run.drawX rfl (by decide +kernel) ?_ | refine Run.drawT rfl (by decide +kernel) ?_ | refine Run.drawW rfl (by decide +kernel) ?_); conv => whnf) | fail)
    refine Run.hold (z := 50) 6 1000 (by rfl) (by rfl) (by rfl) ?_
    refine Run.to _ _ ?_ ?_ (IH (j + 1) (by omega) (by omega))
    · exact ⟨Le.refl _, Le.refl _, Le.refl _, Le.int hwj, trivial⟩
    · refine ⟨?_, trivial⟩
      rw [catC_take _ _ _ hjl, hcf]
      exact bytesG_join 5 _ _
  case _ =>
    obtain rfl : j = L.length := by omega
    rw [List.take_length]
    refine Run.rowStr (x := .tmp 51) (src := 93) (dst := 9) (e := 5) (q := 1000) (catC o L) rfl rfl rfl rfl rfl rfl rfl (fun _ _ => rfl) (by kernel_rfl) (by kernel_rfl) (by kernel_rfl) ?_
    refine Run.go ?_; (conv => whnf); repeat' (first | ((with_reducible refine Know.mk fun _ => ?_); conv => whnf) | ((with_reducible refine Need.mk ?_ ?_); (first | omega | (dsimp only; omega) | decide | exact bytes_le (by rfl) (by omega) | exact ⟨rfl, by omega, bytes_le (by rfl) (by omega), by omega⟩ | (refine ⟨?_, ?_⟩ <;> (rw [wrap64 (by omega) (by omega)]; omega))); conv => whnf) | ((with_reducible first | refine Both.mk ?_ ?_ | refine Any.mk fun b hb => ?_ | refine AskB.dec (fun hb => ?_) (fun hb => ?_) | refine AskB.ndec (fun hb => ?_) (fun hb => ?_) | refine AskB.mk (fun hb => ?_) (fun hb => ?_)) <;> conv => whnf) | ((with_reducible first | refine Run.drawX rfl (by decide +kernel) ?_ | refine Run.drawT rfl (by decide +kernel) ?_ | refine Run.drawW rfl (by decide +kernel) ?_); conv => whnf) | fail)
    exact Run.leave (ts := [4,5]) (.inr ⟨_, rfl⟩) rfl Tryd.func54 rfl (resT ⟨Le.refl _, Le.refl _, trivial⟩)
end Go.Proofs.YtnadacaoehpdnaaDoor.V

namespace Go.Proofs.YtnadacaoehpdnaaDoor.V
set_option linter.unusedVariables false
set_option linter.unusedSimpArgs false
open Go Go.Proofs Go.RowKit
theorem getD_app1 {α : Type} {l : List α} {x z : α} {i : Nat} (h : i < l.length) : (l ++ [x]).getD i z = l.getD i z := by
  rw [List.getD, List.getD, List.getElem?_append_left h]
theorem getD_app2 {α : Type} {l : List α} {x z : α} : (l ++ [x]).getD l.length z = x := by simp [List.getD]
structure Rd where
  none : Bool
  text : ByteArray
  wits : List Int
deriving DecidableEq
def rd0 : Rd := ⟨false, .empty, []⟩
def tRd : Ty Rd := ⟨3, fun r j => match j with | 0 => .bool r.none | 1 => .str r.text | _ => tI.L r.wits, rd0⟩
def rdG (l : List Rd) : Nat → Nat → AV := fun i j => match j with | 0 => .bool (l.getD i rd0).none | _ => .str (l.getD i rd0).text
def rdN (l : List Rd) : Nat → Nat := fun i => (l.getD i rd0).wits.length
def rdW (l : List Rd) : Nat → Nat → Nat → AV := fun i => tI.G (l.getD i rd0).wits
/-- Readings as nested rows. -/
def rdM (l : List Rd) : MO := .mat 47 3 l.length (rdG l) 2 3 1 (rdN l) (rdW l) none
/-- Is it the reading of these witnesses? -/
def sameR (o : Int) (nn : Bool) (key : ByteArray) (r : Rd) : Bool := r.none == nn && decide (textF r.text o = key)
def ensR (l : List Rd) (k : Nat) (nn : Bool) (text : ByteArray) : List Rd := if k = l.length then l ++ [⟨nn, text, []⟩] else l
def pushW (l : List Rd) (k : Nat) (i : Int) : List Rd := l.set k ⟨(l.getD k rd0).none, (l.getD k rd0).text, (l.getD k rd0).wits ++ [i]⟩
def addR (o : Int) (l : List Rd) (i : Int) (nn : Bool) (text key : ByteArray) : List Rd := pushW (ensR l (l.findIdx (sameR o nn key)) nn text) (l.findIdx (sameR o nn key)) i
/-- A cell's text. -/
def textAt (t : Tab) (c i : Nat) : ByteArray := if atC t c i < 0 then .empty else ((witAt t i).words.getD (atC t c i).toNat tWrd.z).text
def keyAt (t : Tab) (c : Nat) (o : Int) (i : Nat) : ByteArray := if atC t c i < 0 then .empty else textF (textAt t c i) o
/-- The readings of the first witnesses. -/
def readE (t : Tab) (c : Nat) (o : Int) : Nat → List Rd
  | 0 => []
  | i + 1 => addR o (readE t c o i) i (decide (atC t c i < 0)) (textAt t c i) (keyAt t c o i)
theorem ens_len (l : List Rd) (k : Nat) (nn : Bool) (text : ByteArray) (h : k ≤ l.length) : k < (ensR l k nn text).length ∧ (ensR l k nn text).length ≤ l.length + 1 := by
  unfold ensR
  split
  · rw [List.length_append, List.length_singleton]; omega
  · omega
theorem push_len (l : List Rd) (k : Nat) (i : Int) : (pushW l k i).length = l.length := by simp [pushW]
theorem add_len (o : Int) (l : List Rd) (i : Int) (nn : Bool) (text key : ByteArray) : (addR o l i nn text key).length ≤ l.length + 1 := by
  unfold addR
  rw [push_len]
  exact (ens_len l _ nn text List.findIdx_le_length).2
theorem read_len (t : Tab) (c : Nat) (o : Int) : ∀ n, (readE t c o n).length ≤ n
  | 0 => Nat.le_refl _
  | n + 1 => Nat.le_trans (add_len _ _ _ _ _ _) (Nat.succ_le_succ (read_len t c o n))
/-- No reading has more witnesses than there are. -/
theorem wits_le (t : Tab) (c : Nat) (o : Int) : ∀ n, ∀ r ∈ readE t c o n, r.wits.length ≤ n
  | 0, r, h => by cases h
  | n + 1, r, h => by
    have ih := wits_le t c o n
    have key : ∀ (l : List Rd) k i (r : Rd), (∀ x ∈ l, x.wits.length ≤ n) → r ∈ pushW l k i → r.wits.length ≤ n + 1 := by
      intro l k i r hl hr
      unfold pushW at hr
      rcases List.mem_or_eq_of_mem_set hr with h1 | h1
      · have := hl r h1; omega
      · subst h1
        simp only [List.length_append, List.length_singleton]
        have : (l.getD k rd0).wits.length ≤ n := by
          by_cases hk : k < l.length
          · exact hl _ (getD_mem' k hk)
          · rw [List.getD, List.getElem?_eq_none (by omega)]; exact Nat.zero_le _
        omega
    refine key _ _ _ r (fun x hx => ?_) h
    unfold ensR at hx
    split at hx
    · rcases List.mem_append.mp hx with h1 | h1
      · exact ih x h1
      · rw [List.mem_singleton] at h1; subst h1; exact Nat.zero_le _
    · exact ih x hx
theorem fidx_hit {α : Type} {p : α → Bool} {z : α} : ∀ {l : List α} {k : Nat}, k ≤ l.findIdx p → k < l.length → p (l.getD k z) = true → l.findIdx p = k
  | [], k, _, h, _ => absurd h (Nat.not_lt_zero _)
  | x :: l, 0, _, _, h => by rw [List.findIdx_cons]; rw [List.getD_cons_zero] at h; rw [h]; rfl
  | x :: l, k + 1, hk, hl, h => by
    rw [List.findIdx_cons] at hk ⊢
    cases hx : p x with
    | true => rw [hx] at hk; exact absurd hk (by simp)
    | false =>
      rw [hx] at hk
      simp only [cond_false] at hk ⊢
      rw [fidx_hit (p := p) (l := l) (k := k) (z := z) (by omega) (by simpa using hl) (by rw [List.getD_cons_succ] at h; exact h)]
theorem fidx_miss {α : Type} {p : α → Bool} {z : α} : ∀ {l : List α} {k : Nat}, k ≤ l.findIdx p → k < l.length → p (l.getD k z) = false → k + 1 ≤ l.findIdx p
  | [], k, _, h, _ => absurd h (Nat.not_lt_zero _)
  | x :: l, 0, _, _, h => by rw [List.findIdx_cons]; rw [List.getD_cons_zero] at h; rw [h]; simp
  | x :: l, k + 1, hk, hl, h => by
    rw [List.findIdx_cons] at hk ⊢
    cases hx : p x with
    | true => rw [hx] at hk; exact absurd hk (by simp)
    | false =>
      rw [hx] at hk
      simp only [cond_false] at hk ⊢
      have := fidx_miss (p := p) (l := l) (z := z) (k := k) (by omega) (by simpa using hl) (by rw [List.getD_cons_succ] at h; exact h)
      omega
theorem mem_add {o : Int} {l : List Rd} {i : Int} {nn : Bool} {text key : ByteArray} {r : Rd} (h : r ∈ addR o l i nn text key) : r.text = text ∨ ∃ x ∈ l, r.text = x.text := by
  have he : ∀ x ∈ ensR l (l.findIdx (sameR o nn key)) nn text, x.text = text ∨ ∃ y ∈ l, x.text = y.text := fun x hx => by
    unfold ensR at hx
    split at hx
    · rcases List.mem_append.mp hx with h1 | h1
      · exact .inr ⟨x, h1, rfl⟩
      · rw [List.mem_singleton] at h1; subst h1; exact .inl rfl
    · exact .inr ⟨x, hx, rfl⟩
  unfold addR pushW at h
  rcases List.mem_or_eq_of_mem_set h with h1 | h1
  · exact he r h1
  · subst h1
    exact he ((ensR l (l.findIdx (sameR o nn key)) nn text).getD (l.findIdx (sameR o nn key)) rd0) (getD_mem' _ (ens_len l _ nn text List.findIdx_le_length).1)
theorem read_text (t : Tab) (c : Nat) (o : Int) (B : Nat) : ∀ n, (∀ j, j < n → (textAt t c j).size ≤ B) → ∀ r ∈ readE t c o n, r.text.size ≤ B
  | 0, _, r, h => by cases h
  | n + 1, hb, r, h => by
    rcases mem_add h with h1 | ⟨x, hx, h1⟩
    · rw [h1]; exact hb n (by omega)
    · rw [h1]; exact read_text t c o B n (fun j hj => hb j (by omega)) x hx
/-! ### readings as nested rows -/
theorem rdM_nil (g : Nat → Nat → AV) (gg : Nat → Nat → Nat → AV) (len : Nat → Nat) : MOle (.mat 47 3 0 g 2 3 1 len gg none) (rdM []) :=
  MOle.mat' rfl (fun i j hi => absurd hi (Nat.not_lt_zero _)) (fun i hi => absurd hi (Nat.not_lt_zero _))
theorem rdM_app (l : List Rd) (nn : Bool) (text : ByteArray) (g : Nat → Nat → AV) (h0 : Le (g 0 0) (.bool nn)) (h1 : Le (g 0 1) (.str text)) :
    MOle (.mat 47 3 (l.length + 1) (joinRow l.length (rdG l) g) 2 3 1 (fun i => if i < l.length then rdN l i else 0) (fun i => if i < l.length then rdW l i else fun _ _ => .u) none) (rdM (l ++ [⟨nn, text, []⟩])) := by
  have ha : ∀ i, i < l.length → (l ++ [(⟨nn, text, []⟩ : Rd)]).getD i rd0 = l.getD i rd0 := fun i hi => getD_app1 hi
  have hz : (l ++ [(⟨nn, text, []⟩ : Rd)]).getD l.length rd0 = ⟨nn, text, []⟩ := getD_app2
  refine MOle.mat' (by simp) (fun i j hi hj hne => ?_) (fun i hi _ => ?_)
  · unfold joinRow rdG
    by_cases hil : i < l.length
    · rw [if_pos hil, ha i hil]; exact Le.refl _
    · obtain rfl : i = l.length := by omega
      rw [if_neg hil, hz, Nat.sub_self]
      match j, hj, hne with
      | 0, _, _ => exact h0
      | 1, _, _ => exact h1
      | 2, _, h => exact absurd rfl h
  · unfold rdN rdW
    by_cases hil : i < l.length
    · rw [if_pos hil, if_pos hil, ha i hil]
      exact ⟨rfl, fun _ _ _ _ => Le.refl _⟩
    · obtain rfl : i = l.length := by omega
      rw [if_neg hil, if_neg hil, hz]
      exact ⟨rfl, fun a b ha' => absurd ha' (Nat.not_lt_zero _)⟩
theorem rdM_push (l : List Rd) (k : Nat) (i : Int) (hk : k < l.length) (g : Nat → Nat → AV) (hg : g 0 0 = .int .i64 i) :
    MOle (.mat 47 3 l.length (rdG l) 2 3 1 (updIn (rdN l) k (rdN l k + 1)) (updIn (rdW l) k (joinRow (rdN l k) (rdW l k) g)) none) (rdM (pushW l k i)) := by
  have ho : ∀ j, j ≠ k → (pushW l k i).getD j rd0 = l.getD j rd0 := fun j hj => by unfold pushW; simp [List.getD, List.getElem?_set_ne (Ne.symm hj)]
  have hs : (pushW l k i).getD k rd0 = ⟨(l.getD k rd0).none, (l.getD k rd0).text, (l.getD k rd0).wits ++ [i]⟩ := by unfold pushW; rw [List.getD, List.getElem?_set_self hk]; rfl
  refine MOle.mat' (push_len l k i).symm (fun j c hj hc hne => ?_) (fun j hj _ => ?_)
  · unfold rdG
    by_cases e : j = k
    · subst e; rw [hs]; exact Le.refl _
    · rw [ho j e]; exact Le.refl _
  · unfold updIn
    by_cases e : j = k
    · subst e
      rw [if_pos rfl, if_pos rfl]
      unfold rdN rdW
      rw [hs]
      refine ⟨by simp, fun a b ha hb => ?_⟩
      obtain rfl : b = 0 := by omega
      unfold joinRow Ty.G
      by_cases hal : a < (l.getD j rd0).wits.length
      · rw [if_pos hal]
        rw [getD_app1 hal]; exact Le.refl _
      · rw [if_neg hal]
        obtain rfl : a = (l.getD j rd0).wits.length := by omega
        rw [getD_app2, Nat.sub_self, hg]; exact Le.refl _
    · rw [if_neg e, if_neg e]
      unfold rdN rdW
      rw [ho j e]
      exact ⟨rfl, fun _ _ _ _ => Le.refl _⟩
/-- Readings handed back. -/
theorem rdM_out (l : List Rd) : Le (.sl l.length 3 (fun i j => cond (Nat.beq j 2) (.sl (rdN l i) 1 (rdW l i)) (rdG l i j))) (tRd.L l) :=
  Le.sl (fun i j hi hj => by
    match j, hj with
    | 0, _ => exact Le.refl _
    | 1, _ => exact Le.refl _
    | 2, _ => exact Le.refl _)
end Go.Proofs.YtnadacaoehpdnaaDoor.V

namespace Go.Proofs.YtnadacaoehpdnaaDoor.V
set_option linter.unusedVariables false
set_option linter.unusedSimpArgs false
open Go Go.Proofs Go.RowKit
set_option maxRecDepth 100000
set_option maxHeartbeats 4000000
/-- A small rune is its byte. -/
theorem dec_small (s : ByteArray) (p : Nat) (h : (Utf8.decode s p).1 < 128) : bt s p = ((Utf8.decode s p).1 : Nat) ∧ (Utf8.decode s p).2 = 1 := by
  have hb := bt_lt s p
  rw [dec_at] at h ⊢
  have k0 := bt_lt s (p + 1)
  rcases Lib.decodeN_shape (s.size - p) (bt s p).toNat (bt s (p + 1)).toNat (bt s (p + 2)).toNat (bt s (p + 3)).toNat with ⟨c, e⟩ | ⟨c1, c2, c3, cv, e⟩ | ⟨c1, c2, c3, c4, cv, cs, e⟩ | ⟨c1, c2, c3, c4, c5, cv, cw, e⟩ | e
  all_goals (rw [e] at h ⊢; simp only at h ⊢)
  · exact ⟨by omega, trivial⟩
  all_goals (exfalso; omega)
theorem named_fn (s : ByteArray) : Fn Tryd.prog 42 [.str s] (.bool (decide (NameOk s))) := by
  refine Fn.of Tryd.f42 _ Tryd.func42 rfl (by decide) (by show 1 ≤ _; decide) tbOk 40 rfl fun S w0 gl => ?_
  have hno : ¬ NameOk s → decide (NameOk s) = false := fun h => decide_eq_false h
  have hz : s.size = 0 ↔ s = ⟨#[]⟩ := ⟨fun h => by
    apply ByteArray.ext
    exact Array.eq_empty_of_size_eq_zero h, fun h => by rw [h]; rfl⟩
  refine Run.go ?_; (conv => whnf); repeat' (first | ((with_reducible refine Know.mk fun _ => ?_); conv => whnf) | ((with_reducible refine Need.mk ?_ ?_); (first | omega | (dsimp only; omega) | decide | exact bytes_le (by rfl) (by omega) | exact ⟨rfl, by omega, bytes_le (by rfl) (by omega), by omega⟩ | (refine ⟨?_, ?_⟩ <;> (rw [wrap64 (by omega) (by omega)]; omega))); conv => whnf) | ((with_reducible first | refine Both.mk ?_ ?_ | refine Any.mk fun b hb => ?_ | refine AskB.dec (fun hb => ?_) (fun hb => ?_) | refine AskB.ndec (fun hb => ?_) (fun hb => ?_) | refine AskB.mk (fun hb => ?_) (fun hb => ?_)) <;> conv => whnf) | ((with_reducible first | refine Run.drawX rfl (by decide +kernel) ?_ | refine Run.drawT rfl (by decide +kernel) ?_ | refine Run.drawW rfl (by decide +kernel) ?_); conv => whnf) | fail)
  · exact Run.leave (ts := [2]) (.inr ⟨_, rfl⟩) rfl Tryd.func42 rfl (Le.ff.trans (Le.bool (hno (fun h => by have := h.1; have := hz.mpr hb; omega)).symm))
  · exact Run.leave (ts := [2]) (.inr ⟨_, rfl⟩) rfl Tryd.func42 rfl (Le.ff.trans (Le.bool (hno (fun h => by have := h.2.1; omega)).symm))
  rename_i hne _
  have hs8 : s.size ≤ 8 := by omega
  have hs1 : 1 ≤ s.size := by
    have := mt hz.mp hne
    omega
  refine Run.loop [0, 13] (fun (p : Nat) => []) (fun p => [(13, .iter s p)]) (fun p => p ≤ s.size ∧ ∀ i, i < p → alnum (bt s i)) (fun p => s.size - p) 0 ⟨Nat.zero_le _, fun i hi => absurd hi (Nat.not_lt_zero _)⟩ trivial ⟨MOle.refl _, trivial⟩ ?_
  intro p ⟨hp, ha⟩ IH
  have hsm := dec_small s p
  show Run _ _ (lst (_ ++ [])) (lstH [(13, .iter s p)])
  refine Run.go ?_; (conv => whnf); repeat' (first | ((with_reducible refine Know.mk fun _ => ?_); conv => whnf) | ((with_reducible refine Need.mk ?_ ?_); (first | omega | (dsimp only; omega) | decide | exact bytes_le (by rfl) (by omega) | exact ⟨rfl, by omega, bytes_le (by rfl) (by omega), by omega⟩ | (refine ⟨?_, ?_⟩ <;> (rw [wrap64 (by omega) (by omega)]; omega))); conv => whnf) | ((with_reducible refine Both.mk ?_ ?_) <;> conv => whnf) | ((with_reducible refine Any.mk fun b hb => ?_); conv => whnf) | ((with_reducible first | refine AskB.dec (fun hb => ?_) (fun hb => ?_) | refine AskB.ndec (fun hb => ?_) (fun hb => ?_) | refine AskB.mk (fun hb => ?_) (fun hb => ?_)) <;> first | (exfalso; omega) | (conv => whnf)) | ((with_reducible first | refine Run.drawX rfl (by decide +kernel) ?_ | refine Run.drawT rfl (by decide +kernel) ?_ | refine Run.drawW rfl (by decide +kernel) ?_); conv => whnf) | fail)
  all_goals try (
    have hps : p < s.size := by omega
    have hr : (Utf8.decode s p).1 < 128 := by omega
    obtain ⟨h1, h2⟩ := hsm hr
    have hal : alnum (bt s p) := by unfold alnum; omega
    refine Run.to _ _ ?_ ?_ (IH (p + 1) (by omega) ⟨by omega, fun i hi => ?_⟩)
    · exact ⟨Le.refl _, Le.refl _, trivial⟩
    · rw [h2]; exact ⟨MOle.refl _, trivial⟩
    · by_cases e : i = p
      · subst e; exact hal
      · exact ha i (by omega))
  all_goals try (
    have hps : p < s.size := by omega
    refine Run.leave (ts := [2]) (.inr ⟨_, rfl⟩) rfl Tryd.func42 rfl (Le.ff.trans (Le.bool (hno (fun h => ?_)).symm))
    have hal := h.2.2 p hps
    have h128 : bt s p < 128 := by unfold alnum at hal; omega
    have hd := dec_ascii h128
    have hbl := bt_lt s p
    have h1 : (((Utf8.decode s p).1 : Nat) : Int) = bt s p := by rw [hd]; simp only []; omega
    unfold alnum at hal
    omega)
  all_goals (
    refine Run.leave (ts := [2]) (.inr ⟨_, rfl⟩) rfl Tryd.func42 rfl (Le.tt.trans (Le.bool (decide_eq_true ⟨hs1, hs8, fun i hi => ha i (by omega)⟩).symm)))
theorem name_fn (s : ByteArray) : Fn Tryd.prog 52 [.str s] (.bool (decide (NameOk s))) := by
  refine Fn.of Tryd.f52 _ Tryd.func52 rfl (by decide) (by show 1 ≤ _; decide) tbOk 45 rfl fun S w0 gl => ?_
  have hno : ¬ NameOk s → decide (NameOk s) = false := fun h => decide_eq_false h
  refine Run.go ?_; (conv => whnf); repeat' (first | ((with_reducible refine Know.mk fun _ => ?_); conv => whnf) | ((with_reducible refine Need.mk ?_ ?_); (first | omega | (dsimp only; omega) | decide | exact bytes_le (by rfl) (by omega) | exact ⟨rfl, by omega, bytes_le (by rfl) (by omega), by omega⟩ | (refine ⟨?_, ?_⟩ <;> (rw [wrap64 (by omega) (by omega)]; omega))); conv => whnf) | ((with_reducible first | refine Both.mk ?_ ?_ | refine Any.mk fun b hb => ?_ | refine AskB.dec (fun hb => ?_) (fun hb => ?_) | refine AskB.ndec (fun hb => ?_) (fun hb => ?_) | refine AskB.mk (fun hb => ?_) (fun hb => ?_)) <;> conv => whnf) | ((with_reducible first | refine Run.drawX rfl (by decide +kernel) ?_ | refine Run.drawT rfl (by decide +kernel) ?_ | refine Run.drawW rfl (by decide +kernel) ?_); conv => whnf) | fail)
  · exact Run.leave (ts := [2]) (.inr ⟨_, rfl⟩) rfl Tryd.func52 rfl (Le.ff.trans (Le.bool (hno (fun h => by have := h.1; omega)).symm))
  · exact Run.leave (ts := [2]) (.inr ⟨_, rfl⟩) rfl Tryd.func52 rfl (Le.ff.trans (Le.bool (hno (fun h => by have := h.2.1; omega)).symm))
  have hs8 : s.size ≤ 8 := by omega
  have hs1 : 1 ≤ s.size := by omega
  refine Run.loop [0] (fun (p : Nat) => [(3, .int .i64 (p : Int))]) (fun p => []) (fun p => p ≤ s.size ∧ ∀ i, i < p → alnum (bt s i)) (fun p => s.size - p) 0 ⟨Nat.zero_le _, fun i hi => absurd hi (Nat.not_lt_zero _)⟩ ⟨Le.refl _, trivial⟩ trivial ?_
  intro p ⟨hp, ha⟩ IH
  have hwp : IntKind.i64.wrap ((p : Int) + 1) = ((p + 1 : Nat) : Int) := wrap64 (by omega) (by omega)
  refine Run.go ?_; (conv => whnf); repeat' (first | ((with_reducible refine Know.mk fun _ => ?_); conv => whnf) | ((with_reducible refine Need.mk ?_ ?_); (first | omega | (dsimp only; omega) | decide | exact bytes_le (by rfl) (by omega) | exact ⟨rfl, by omega, bytes_le (by rfl) (by omega), by omega⟩ | (refine ⟨?_, ?_⟩ <;> (rw [wrap64 (by omega) (by omega)]; omega))); conv => whnf) | ((with_reducible refine Both.mk ?_ ?_) <;> conv => whnf) | ((with_reducible refine Any.mk fun b hb => ?_); conv => whnf) | ((with_reducible first | refine AskB.dec (fun hb => ?_) (fun hb => ?_) | refine AskB.ndec (fun hb => ?_) (fun hb => ?_) | refine AskB.mk (fun hb => ?_) (fun hb => ?_)) <;> first | (exfalso; omega) | (conv => whnf)) | ((with_reducible first | refine Run.drawX rfl (by decide +kernel) ?_ | refine Run.drawT rfl (by decide +kernel) ?_ | refine Run.drawW rfl (by decide +kernel) ?_); conv => whnf) | fail)
  all_goals try (
    have hps : p < s.size := by omega
    have hal : alnum (bt s p) := by unfold alnum; simp only [Int.toNat_natCast] at *; omega
    refine Run.to _ _ ?_ ?_ (IH (p + 1) (by omega) ⟨by omega, fun i hi => ?_⟩)
    · exact ⟨Le.refl _, Le.int hwp, trivial⟩
    · trivial
    · by_cases e : i = p
      · subst e; exact hal
      · exact ha i (by omega))
  all_goals try (
    have hps : p < s.size := by omega
    refine Run.leave (ts := [2]) (.inr ⟨_, rfl⟩) rfl Tryd.func52 rfl (Le.ff.trans (Le.bool (hno (fun h => ?_)).symm))
    have hal := h.2.2 p hps
    unfold alnum at hal
    simp only [Int.toNat_natCast] at *
    omega)
  all_goals (
    refine Run.leave (ts := [2]) (.inr ⟨_, rfl⟩) rfl Tryd.func52 rfl (Le.tt.trans (Le.bool (decide_eq_true ⟨hs1, hs8, fun i hi => ha i (by omega)⟩).symm)))
end Go.Proofs.YtnadacaoehpdnaaDoor.V

namespace Go.Proofs.YtnadacaoehpdnaaDoor.V
set_option linter.unusedVariables false
set_option linter.unusedSimpArgs false
open Go Go.Proofs Go.RowKit
set_option maxRecDepth 100000
set_option maxHeartbeats 4000000
theorem tot_le {t : Tab} (hf : FitT t) : ∀ n, n ≤ t.wits.length → sumR (lens t) n ≤ n * 2000000
  | 0, _ => by simp [sumR]
  | n + 1, h => by
    have h1 := tot_le hf n (by omega)
    have h2 := (hf.wit (t.wits.getD n wit0) (getD_mem' n (by omega))).2.1
    simp only [sumR, lens, witAt] at *
    rw [Nat.add_mul]; omega
theorem ins_mem {α : Type} [DecidableEq α] (k : α) : ∀ (l : List α) (x : α), x ∈ ins k l ↔ x = k ∨ x ∈ l
  | [], x => by simp [ins]
  | p :: l, x => by
    unfold ins
    split
    · rename_i e; subst e; simp
    · rw [List.mem_cons, ins_mem k l x, List.mem_cons]
      constructor
      · rintro (h | h | h)
        · exact .inr (.inl h)
        · exact .inl h
        · exact .inr (.inr h)
      · rintro (h | h | h)
        · exact .inr (.inl h)
        · exact .inl h
        · exact .inr (.inr h)
theorem check_fn (t : Tab) (hf : FitT t) : Fn Tryd.prog 18 [tbA t] (.int .i64 (chkT t)) := by
  refine Fn.of Tryd.f18 _ Tryd.func18 rfl (by decide) (by show 1 ≤ _; decide) tbOk 124 rfl fun S w0 gl => ?_
  have hno : ∀ {P : Prop}, (OkT t → ¬ P) → P → chkT t = 121 := fun h p => chk_no (fun o => h o p)
  have hfw := hf.wits
  have hfc := hf.cols
  refine Run.go ?_; (conv => whnf); repeat' (first | ((with_reducible refine Know.mk fun _ => ?_); conv => whnf) | ((with_reducible refine Need.mk ?_ ?_); (first | omega | (dsimp only; omega) | decide | exact bytes_le (by rfl) (by omega) | exact ⟨rfl, by omega, bytes_le (by rfl) (by omega), by omega⟩ | (refine ⟨?_, ?_⟩ <;> (rw [wrap64 (by omega) (by omega)]; omega))); conv => whnf) | ((with_reducible first | refine Both.mk ?_ ?_ | refine Any.mk fun b hb => ?_ | refine AskB.dec (fun hb => ?_) (fun hb => ?_) | refine AskB.ndec (fun hb => ?_) (fun hb => ?_) | refine AskB.mk (fun hb => ?_) (fun hb => ?_)) <;> conv => whnf) | ((with_reducible first | refine Run.drawX rfl (by decide +kernel) ?_ | refine Run.drawT rfl (by decide +kernel) ?_ | refine Run.drawW rfl (by decide +kernel) ?_); conv => whnf) | fail)
  · exact Run.leave (ts := [2]) (.inr ⟨_, rfl⟩) rfl Tryd.func18 rfl (Le.int (hno (fun o h => by have := o.n1; omega) hb).symm)
  · exact Run.leave (ts := [2]) (.inr ⟨_, rfl⟩) rfl Tryd.func18 rfl (Le.int (hno (fun o h => by have := o.n12; omega) hb).symm)
  · exact Run.leave (ts := [2]) (.inr ⟨_, rfl⟩) rfl Tryd.func18 rfl (Le.int (hno (fun o h => by have := o.nc; omega) hb).symm)
  have hn1 : 1 ≤ t.wits.length := by omega
  have hn12 : t.wits.length ≤ 12 := by omega
  have hnc : t.cols.length ≤ 4096 := by omega
  have htl := tot_le hf
  refine Run.loop [3, 31, 32] (fun (a : Nat × List ByteArray) => [(1, .box 1 0), (4, .int .i64 ((sumR (lens t) a.1 : Nat) : Int)), (33, .int .i64 (a.1 : Int))]) (fun a => [(1, .box 25 [tWit.L t.wits, tIL.L t.cols]), (29, .mp (.sb a.2))])
    (fun a => a.1 ≤ t.wits.length ∧ (∀ i, i < a.1 → WitOk t i) ∧ ∀ s, s ∈ a.2 ↔ ∃ k, k < a.1 ∧ (witAt t k).name = s) (fun a => t.wits.length - a.1) (0, []) ⟨Nat.zero_le _, fun i hi => absurd hi (Nat.not_lt_zero _), fun s => ⟨fun h => (by cases h), fun ⟨k, hk, _⟩ => absurd hk (Nat.not_lt_zero _)⟩⟩
    ⟨Le.refl _, Le.refl _, Le.refl _, trivial⟩ ⟨MOle.refl _, MOle.refl _, trivial⟩ ?_
  intro ⟨i, l⟩ ⟨hi, hwk, hl⟩ IH
  simp only [] at hi hwk hl ⊢
  have hwi : IntKind.i64.wrap ((i : Int) + 1) = ((i + 1 : Nat) : Int) := wrap64 (by omega) (by omega)
  have hti := htl i hi
  refine Run.go ?_; (conv => whnf); repeat' (first | ((with_reducible refine Know.mk fun _ => ?_); conv => whnf) | ((with_reducible refine Need.mk ?_ ?_); (first | omega | (dsimp only; omega) | decide | exact bytes_le (by rfl) (by omega) | exact ⟨rfl, by omega, bytes_le (by rfl) (by omega), by omega⟩ | (refine ⟨?_, ?_⟩ <;> (rw [wrap64 (by omega) (by omega)]; omega))); conv => whnf) | ((with_reducible first | refine Both.mk ?_ ?_ | refine Any.mk fun b hb => ?_ | refine AskB.dec (fun hb => ?_) (fun hb => ?_) | refine AskB.ndec (fun hb => ?_) (fun hb => ?_) | refine AskB.mk (fun hb => ?_) (fun hb => ?_)) <;> conv => whnf) | ((with_reducible first | refine Run.drawX rfl (by decide +kernel) ?_ | refine Run.drawT rfl (by decide +kernel) ?_ | refine Run.drawW rfl (by decide +kernel) ?_); conv => whnf) | fail)
  · have hil : i < t.wits.length := by omega
    have hwt := hf.wit (witAt t i) (getD_mem' i hil)
    refine Run.callBX (named_fn (witAt t i).name) rfl rfl ⟨Le.refl _, trivial⟩ rfl rfl rfl ?_
    (conv => whnf); repeat' (first | ((with_reducible refine Know.mk fun _ => ?_); conv => whnf) | ((with_reducible refine Need.mk ?_ ?_); (first | omega | (dsimp only; omega) | decide | exact bytes_le (by rfl) (by omega) | exact ⟨rfl, by omega, bytes_le (by rfl) (by omega), by omega⟩ | (refine ⟨?_, ?_⟩ <;> (rw [wrap64 (by omega) (by omega)]; omega))); conv => whnf) | ((with_reducible first | refine Both.mk ?_ ?_ | refine Any.mk fun b hb => ?_ | refine AskB.dec (fun hb => ?_) (fun hb => ?_) | refine AskB.ndec (fun hb => ?_) (fun hb => ?_) | refine AskB.mk (fun hb => ?_) (fun hb => ?_)) <;> conv => whnf) | ((with_reducible first | refine Run.drawX rfl (by decide +kernel) ?_ | refine Run.drawT rfl (by decide +kernel) ?_ | refine Run.drawW rfl (by decide +kernel) ?_); conv => whnf) | fail)
    · have hk : ¬ WitOk t i := fun h => by
        have hd := (hasK_iff _ _).mp hb
        obtain ⟨k, hk1, hk2⟩ := (hl _).mp hd
        exact h.2.2 k hk1 hk2
      exact Run.leave (ts := [2]) (.inr ⟨_, rfl⟩) rfl Tryd.func18 rfl (Le.int (hno (fun o h => h (o.wit i hil)) hk).symm)
    · refine Run.callBX (right19_fn (witAt t i).head (witAt t i).words hwt.1) rfl rfl ⟨Le.refl _, Le.refl _, trivial⟩ rfl rfl rfl ?_
      (conv => whnf); repeat' (first | ((with_reducible refine Know.mk fun _ => ?_); conv => whnf) | ((with_reducible refine Need.mk ?_ ?_); (first | omega | (dsimp only; omega) | decide | exact bytes_le (by rfl) (by omega) | exact ⟨rfl, by omega, bytes_le (by rfl) (by omega), by omega⟩ | (refine ⟨?_, ?_⟩ <;> (rw [wrap64 (by omega) (by omega)]; omega))); conv => whnf) | ((with_reducible first | refine Both.mk ?_ ?_ | refine Any.mk fun b hb => ?_ | refine AskB.dec (fun hb => ?_) (fun hb => ?_) | refine AskB.ndec (fun hb => ?_) (fun hb => ?_) | refine AskB.mk (fun hb => ?_) (fun hb => ?_)) <;> conv => whnf) | ((with_reducible first | refine Run.drawX rfl (by decide +kernel) ?_ | refine Run.drawT rfl (by decide +kernel) ?_ | refine Run.drawW rfl (by decide +kernel) ?_); conv => whnf) | fail)
      · have hk : ¬ WitOk t i := fun h => by rw [h.2.1] at hb; cases hb
        exact Run.leave (ts := [2]) (.inr ⟨_, rfl⟩) rfl Tryd.func18 rfl (Le.int (hno (fun o h => h (o.wit i hil)) hk).symm)
      · have hwt2 := hwt.2.1
        have hok : WitOk t i := ⟨by assumption, by simpa using hb, fun k hk e => (hasK_not _ _).mp (by assumption) ((hl _).mpr ⟨k, hk, e⟩)⟩
        refine Run.to _ _ ?_ ?_ (IH (i + 1, ins (witAt t i).name l) (by simp only []; omega) ⟨by simp only []; omega, fun k hk => ?_, fun s => ?_⟩)
        · refine ⟨Le.refl _, Le.refl _, Le.refl _, Le.refl _, Le.int ?_, Le.int hwi, trivial⟩
          show IntKind.i64.wrap ((sumR (lens t) i : Nat) + ((witAt t i).words.length : Int)) = _
          rw [wrap64 (by omega) (by omega)]
          simp only [sumR, lens]; omega
        · exact ⟨MOle.refl _, MOle.refl _, trivial⟩
        · by_cases e : k = i
          · subst e; exact hok
          · exact hwk k (by omega)
        · rw [ins_mem, hl]
          constructor
          · rintro (rfl | ⟨k, hk, rfl⟩)
            · exact ⟨i, Nat.lt_succ_self i, rfl⟩
            · exact ⟨k, Nat.lt_succ_of_lt hk, rfl⟩
          · rintro ⟨k, hk, rfl⟩
            by_cases e : k = i
            · subst e; exact .inl rfl
            · exact .inr ⟨k, by omega, rfl⟩
    · have hk : ¬ WitOk t i := fun h => hb h.1
      exact Run.leave (ts := [2]) (.inr ⟨_, rfl⟩) rfl Tryd.func18 rfl (Le.int (hno (fun o h => h (o.wit i hil)) hk).symm)
  obtain rfl : i = t.wits.length := by omega
  clear IH
  have htot : tot t ≤ 24000000 := by
    have := htl t.wits.length (Nat.le_refl _)
    unfold tot; omega
  refine Run.loop [1, 69, 70] (fun (c : Nat) => [(4, .int .i64 ((tot t - sumN t c 0 : Nat) : Int)), (7, .row 67), (71, .int .i64 (c : Int))]) (fun c => [(1, .box 25 [tWit.L t.wits, tIL.L t.cols]), (67, tI.R 3 (nextL t c 0))])
    (fun c => c ≤ t.cols.length ∧ (∀ k, k < c → ColOk t k) ∧ LeT t c 0) (fun c => t.cols.length - c) 0 ⟨Nat.zero_le _, fun i hi => absurd hi (Nat.not_lt_zero _), fun j hj => by simp [nx, cnt]⟩
    ⟨Le.int ?_, Le.refl _, Le.refl _, trivial⟩ ⟨MOle.refl _, ?_, trivial⟩ ?_
  · have : sumN t 0 0 = 0 := by
      unfold sumN
      have h0 : ∀ n, sumR (nx t 0 0) n = 0 := fun n => by
        induction n with
        | zero => rfl
        | succ n ih => simp only [sumR, ih]; simp [nx, cnt]
      exact h0 _
    rw [this, Nat.sub_zero]; rfl
  · rw [nextL_zero]
    refine ⟨rfl, rfl, by simp, fun i j hi hj => ?_⟩
    obtain rfl : j = 0 := by have : j < 1 := hj; omega
    refine Le.int ?_
    have hi' : i < t.wits.length := by simpa using hi
    rw [List.getD, List.getElem?_replicate, if_pos hi']; rfl
  intro c ⟨hc, hck, hle⟩ IH
  have hwc : IntKind.i64.wrap ((c : Int) + 1) = ((c + 1 : Nat) : Int) := wrap64 (by omega) (by omega)
  have hs0 := le_sum hle
  have hnl := nextL_len t c 0
  show Run _ _ (lst (_ ++ [(4, .int .i64 ((tot t - sumN t c 0 : Nat) : Int)), (7, .row 67), (71, .int .i64 (c : Int))])) (lstH [(1, .box 25 [tWit.L t.wits, tIL.L t.cols]), (67, tI.R 3 (nextL t c 0))])
  have hcl : c < t.cols.length → (t.cols.getD (c : Int).toNat tIL.z).length ≤ 2000000 := fun h => hf.col _ (getD_mem' c h)
  refine Run.go ?_; (conv => whnf); repeat' (first | ((with_reducible refine Know.mk fun _ => ?_); conv => whnf) | ((with_reducible refine Need.mk ?_ ?_); (first | omega | (dsimp only; omega) | decide | exact bytes_le (by rfl) (by omega) | exact ⟨rfl, by omega, bytes_le (by rfl) (by omega), by omega⟩ | (refine ⟨?_, ?_⟩ <;> (rw [wrap64 (by omega) (by omega)]; omega))); conv => whnf) | ((with_reducible refine Both.mk ?_ ?_) <;> conv => whnf) | ((with_reducible refine Any.mk fun b hb => ?_); conv => whnf) | ((with_reducible first | refine AskB.dec (fun hb => ?_) (fun hb => ?_) | refine AskB.ndec (fun hb => ?_) (fun hb => ?_) | refine AskB.mk (fun hb => ?_) (fun hb => ?_)) <;> first | (exfalso; omega) | (conv => whnf)) | ((with_reducible first | refine Run.drawX rfl (by decide +kernel) ?_ | refine Run.drawT rfl (by decide +kernel) ?_ | refine Run.drawW rfl (by decide +kernel) ?_); conv => whnf) | fail)
  all_goals try (exfalso; omega)
  · have hcc : c < t.cols.length := by omega
    have hlen : (t.cols.getD c []).length = t.wits.length := by
      have h2 : (t.cols.getD (c : Int).toNat tIL.z).length = t.wits.length := by omega
      exact h2
    refine Run.loop [1, 10, 69, 70, 71, 81, 82] (fun (i : Nat) => [(4, .int .i64 ((tot t - sumN t c i : Nat) : Int)), (7, .row 67), (83, .int .i64 (i : Int))]) (fun i => [(1, .box 25 [tWit.L t.wits, tIL.L t.cols]), (67, tI.R 3 (nextL t c i))])
      (fun i => i ≤ t.wits.length ∧ LeT t c i ∧ (∀ k, k < i → atC t c k = -1 ∨ (atC t c k = (cnt (t.cols.take c) k : Nat) ∧ cnt (t.cols.take c) k < (witAt t k).words.length)) ∧ (sumN t c i = sumN t c 0 → ∀ k, k < i → atC t c k = -1)) (fun i => t.wits.length - i) 0 ⟨Nat.zero_le _, hle, fun i hi => absurd hi (Nat.not_lt_zero _), fun _ i hi => absurd hi (Nat.not_lt_zero _)⟩
      ⟨Le.refl _, Le.refl _, Le.refl _, trivial⟩ ⟨MOle.refl _, MOle.refl _, trivial⟩ ?_
    intro i ⟨hi, hlei, hcells, hsame⟩ IHi
    have hwi : IntKind.i64.wrap ((i : Int) + 1) = ((i + 1 : Nat) : Int) := wrap64 (by omega) (by omega)
    have hsi := le_sum hlei
    have hnli := nextL_len t c i
    have hge : sumN t c 0 ≤ sumN t c i := sumR_le _ (fun j hj => by
      unfold nx
      rw [if_neg (Nat.not_lt_zero _)]
      split
      · rw [cnt_take _ _ _ hcc]; omega
      · exact Nat.le_refl _)
    show Run _ _ (lst (_ ++ [(4, .int .i64 ((tot t - sumN t c i : Nat) : Int)), (7, .row 67), (83, .int .i64 (i : Int))])) (lstH [(1, .box 25 [tWit.L t.wits, tIL.L t.cols]), (67, tI.R 3 (nextL t c i))])
    by_cases hil : i < t.wits.length
    · have hx : (t.cols.getD (c : Int).toNat tIL.z).getD (i : Int).toNat tI.z = atC t c i := rfl
      have hn : (nextL t c i).getD (i : Int).toNat tI.z = ((cnt (t.cols.take c) i : Nat) : Int) := by
        have := nextL_at t c i i hil
        rw [nx_same] at this; exact this
      have hlw : lens t i ≤ 2000000 := (hf.wit (witAt t i) (getD_mem' i hil)).2.1
      have hcnt : cnt (t.cols.take c) i ≤ lens t i := by
        have := hlei i hil
        rw [nx_same] at this; exact this
      have hlw2 : (t.wits.getD (i : Int).toNat tWit.z).words.length = lens t i := rfl
      refine Run.go ?_; (conv => whnf); repeat' (first | ((with_reducible refine Know.mk fun _ => ?_); conv => whnf) | ((with_reducible refine Need.mk ?_ ?_); (first | omega | (dsimp only; omega) | decide | exact bytes_le (by rfl) (by omega) | exact ⟨rfl, by omega, bytes_le (by rfl) (by omega), by omega⟩ | (refine ⟨?_, ?_⟩ <;> (rw [wrap64 (by omega) (by omega)]; omega))); conv => whnf) | ((with_reducible refine Both.mk ?_ ?_) <;> conv => whnf) | ((with_reducible refine Any.mk fun b hb => ?_); conv => whnf) | ((with_reducible first | refine AskB.dec (fun hb => ?_) (fun hb => ?_) | refine AskB.ndec (fun hb => ?_) (fun hb => ?_) | refine AskB.mk (fun hb => ?_) (fun hb => ?_)) <;> first | (exfalso; omega) | (conv => whnf)) | ((with_reducible first | refine Run.drawX rfl (by decide +kernel) ?_ | refine Run.drawT rfl (by decide +kernel) ?_ | refine Run.drawW rfl (by decide +kernel) ?_); conv => whnf) | fail)
      all_goals try (exfalso; omega)
      · have hm : atC t c i = -1 := by omega
        refine Run.to _ _ ?_ ?_ (IHi (i + 1) (by omega) ⟨by omega, le_none hcc hlei hm, fun k hk => ?_, fun he k hk => ?_⟩)
        · refine ⟨Le.refl _, Le.refl _, Le.refl _, Le.refl _, Le.refl _, Le.refl _, Le.refl _, ?_, Le.refl _, Le.int hwi, trivial⟩
          rw [sumN_none hcc hm]; exact Le.refl _
        · refine ⟨MOle.refl _, ?_, trivial⟩
          rw [nextL_none hcc hm]; exact MOle.refl _
        · by_cases e : k = i
          · subst e; exact .inl hm
          · exact hcells k (by omega)
        · rw [sumN_none hcc hm] at he
          by_cases e : k = i
          · subst e; exact hm
          · exact hsame he k (by omega)
      · have hxe : atC t c i = ((cnt (t.cols.take c) i : Nat) : Int) := by omega
        have hne : atC t c i ≠ -1 := by omega
        have hlt : cnt (t.cols.take c) i < lens t i := by omega
        have hle2 := le_some hcc hlei hne (by rw [nx_same]; exact hlt)
        have hs2 := le_sum hle2
        have hsm := sumN_some hcc hil hne
        refine Run.to _ _ ?_ ?_ (IHi (i + 1) (by omega) ⟨by omega, hle2, fun k hk => ?_, fun he => ?_⟩)
        · refine ⟨Le.refl _, Le.refl _, Le.refl _, Le.refl _, Le.refl _, Le.refl _, Le.refl _, Le.int ?_, Le.refl _, Le.int hwi, trivial⟩
          rw [wrap64 (by omega) (by omega)]; omega
        · refine ⟨MOle.refl _, ?_, trivial⟩
          rw [nextL_some hcc hil hne]
          refine tI.set 3 (nextL t c i) i _ (by omega) _ rfl (Le.one (Le.int ?_))
          rw [hn, nx_same, wrap64 (by omega) (by omega)]
        · by_cases e : k = i
          · subst e; exact .inr ⟨hxe, hlt⟩
          · exact hcells k (by omega)
        · omega
      all_goals
        have hk : ¬ ColOk t c := fun h => by
          rcases h.2.1 i hil with h1 | ⟨h1, h2⟩
          · omega
          · have h3 : cnt (t.cols.take c) i < lens t i := h2
            omega
        exact Run.leave (ts := [2]) (.inr ⟨_, rfl⟩) rfl Tryd.func18 rfl (Le.int (hno (fun o h => h (o.col c hcc)) hk).symm)
    · obtain rfl : i = t.wits.length := by omega
      refine Run.go ?_; (conv => whnf); repeat' (first | ((with_reducible refine Know.mk fun _ => ?_); conv => whnf) | ((with_reducible refine Need.mk ?_ ?_); (first | omega | (dsimp only; omega) | decide | exact bytes_le (by rfl) (by omega) | exact ⟨rfl, by omega, bytes_le (by rfl) (by omega), by omega⟩ | (refine ⟨?_, ?_⟩ <;> (rw [wrap64 (by omega) (by omega)]; omega))); conv => whnf) | ((with_reducible refine Both.mk ?_ ?_) <;> conv => whnf) | ((with_reducible refine Any.mk fun b hb => ?_); conv => whnf) | ((with_reducible first | refine AskB.dec (fun hb => ?_) (fun hb => ?_) | refine AskB.ndec (fun hb => ?_) (fun hb => ?_) | refine AskB.mk (fun hb => ?_) (fun hb => ?_)) <;> first | (exfalso; omega) | (conv => whnf)) | ((with_reducible first | refine Run.drawX rfl (by decide +kernel) ?_ | refine Run.drawT rfl (by decide +kernel) ?_ | refine Run.drawW rfl (by decide +kernel) ?_); conv => whnf) | fail)
      all_goals try (exfalso; omega)
      · have hk : ¬ ColOk t c := fun h => by
          obtain ⟨k, hk1, hk2⟩ := h.2.2
          exact hk2 (hsame (by omega) k hk1)
        exact Run.leave (ts := [2]) (.inr ⟨_, rfl⟩) rfl Tryd.func18 rfl (Le.int (hno (fun o h => h (o.col c hcc)) hk).symm)
      · have hok : ColOk t c := ⟨hlen, hcells, by
          refine Classical.byContradiction fun hno' => ?_
          have hall : ∀ k, k < t.wits.length → atC t c k = -1 := fun k hk => Classical.byContradiction fun h => hno' ⟨k, hk, h⟩
          have hz : ∀ n, n ≤ t.wits.length → sumN t c n = sumN t c 0 := fun n => by
            induction n with
            | zero => intro _; rfl
            | succ n ih => intro h; rw [sumN_none hcc (hall n (by omega)), ih (by omega)]
          have := hz _ (Nat.le_refl _)
          omega⟩
        refine Run.to _ _ ?_ ?_ (IH (c + 1) (by omega) ⟨by omega, fun k hk => ?_, le_end hlei⟩)
        · refine ⟨Le.refl _, Le.refl _, Le.refl _, ?_, Le.refl _, Le.int hwc, trivial⟩
          rw [← sumN_end]; exact Le.refl _
        · refine ⟨MOle.refl _, ?_, trivial⟩
          rw [← nextL_end]; exact MOle.refl _
        · by_cases e : k = c
          · subst e; exact hok
          · exact hck k (by omega)
  · have hcc : c < t.cols.length := by omega
    have hk : ¬ ColOk t c := fun h => by
      have h1 := h.1
      have h2 : (t.cols.getD (c : Int).toNat tIL.z).length = t.wits.length := h1
      omega
    exact Run.leave (ts := [2]) (.inr ⟨_, rfl⟩) rfl Tryd.func18 rfl (Le.int (hno (fun o h => h (o.col c hcc)) hk).symm)
  all_goals obtain rfl : c = t.cols.length := by omega
  · refine Run.leave (ts := [2]) (.inr ⟨_, rfl⟩) rfl Tryd.func18 rfl (Le.int (hno (fun o h => ?_) hb).symm)
    have := sum_of o.all
    omega
  · refine Run.leave (ts := [2]) (.inr ⟨_, rfl⟩) rfl Tryd.func18 rfl (Le.int (chk_ok ⟨hn1, hn12, hnc, hwk, hck, all_of hle (by omega)⟩).symm)
end Go.Proofs.YtnadacaoehpdnaaDoor.V

namespace Go.Proofs.YtnadacaoehpdnaaDoor.V
set_option linter.unusedVariables false
set_option linter.unusedSimpArgs false
open Go Go.Proofs Go.RowKit
set_option maxRecDepth 100000
set_option maxHeartbeats 4000000
open Go Go.Proofs Go.Proofs.YtnadacaoehpdnaaDoor.V
theorem bytesG_join2 (e : Nat) (t a b : ByteArray) : MOle (.row e 1 (t.size + a.size + b.size) (joinRow (t.size + a.size) (joinRow t.size (bytesG t) (fun i _ => .int .u8 (bt a i))) (fun i _ => .int .u8 (bt b i)))) (.row e 1 (t ++ (a ++ b)).size (bytesG (t ++ (a ++ b)))) := by
  refine ⟨rfl, rfl, by simp [Nat.add_assoc], fun i j hi hj => ?_⟩
  unfold joinRow bytesG
  rw [bt_app, bt_app]
  by_cases hc : i < t.size
  · rw [if_pos (by omega), if_pos hc, if_pos hc]; exact Le.refl _
  · rw [if_neg hc, if_neg hc]
    by_cases hc2 : i < t.size + a.size
    · rw [if_pos hc2, if_pos (by omega)]; exact Le.refl _
    · rw [if_neg hc2, if_neg (by omega), Nat.sub_sub]; exact Le.refl _
theorem join20_fn (s : ByteArray) (l : List Wrd) (hl : l.length ≤ 1000000000) (hs : s.size + (catW l).size ≤ 1000000000000) : Fn Tryd.prog 68 [.str s, tWrd.L l] (.str (s ++ catW l)) := by
  refine Fn.of Tryd.f68 _ Tryd.func68 rfl (by decide) (by show 2 ≤ _; decide) tbOk 31 rfl fun S w0 gl => ?_
  refine Run.go ?_; (conv => whnf); repeat' (first | ((with_reducible refine Know.mk fun _ => ?_); conv => whnf) | ((with_reducible refine Need.mk ?_ ?_); (first | omega | (dsimp only; omega) | decide | exact bytes_le (by rfl) (by omega) | exact ⟨rfl, by omega, bytes_le (by rfl) (by omega), by omega⟩ | (refine ⟨?_, ?_⟩ <;> (rw [wrap64 (by omega) (by omega)]; omega))); conv => whnf) | ((with_reducible first | refine Both.mk ?_ ?_ | refine Any.mk fun b hb => ?_ | refine AskB.dec (fun hb => ?_) (fun hb => ?_) | refine AskB.ndec (fun hb => ?_) (fun hb => ?_) | refine AskB.mk (fun hb => ?_) (fun hb => ?_)) <;> conv => whnf) | ((with_reducible first | refine Run.drawX rfl (by decide +kernel) ?_ | refine Run.drawT rfl (by decide +kernel) ?_ | refine Run.drawW rfl (by decide +kernel) ?_); conv => whnf) | fail)
  refine Run.toBytesR (d := 8) (e := 5) s rfl rfl rfl rfl rfl rfl (by kernel_rfl) (by kernel_rfl) (by kernel_rfl) ?_
  refine Run.go ?_; (conv => whnf); repeat' (first | ((with_reducible refine Know.mk fun _ => ?_); conv => whnf) | ((with_reducible refine Need.mk ?_ ?_); (first | omega | (dsimp only; omega) | decide | exact bytes_le (by rfl) (by omega) | exact ⟨rfl, by omega, bytes_le (by rfl) (by omega), by omega⟩ | (refine ⟨?_, ?_⟩ <;> (rw [wrap64 (by omega) (by omega)]; omega))); conv => whnf) | ((with_reducible first | refine Both.mk ?_ ?_ | refine Any.mk fun b hb => ?_ | refine AskB.dec (fun hb => ?_) (fun hb => ?_) | refine AskB.ndec (fun hb => ?_) (fun hb => ?_) | refine AskB.mk (fun hb => ?_) (fun hb => ?_)) <;> conv => whnf) | ((with_reducible first | refine Run.drawX rfl (by decide +kernel) ?_ | refine Run.drawT rfl (by decide +kernel) ?_ | refine Run.drawW rfl (by decide +kernel) ?_); conv => whnf) | fail)
  refine Run.hold (z := 8) 5 1000 (by rfl) (by rfl) (by rfl) ?_
  have hT : ∀ i, (s ++ catW (l.take i)).size ≤ 1000000000000 := fun i => by
    have h1 := catW_takeLe l i
    rw [ByteArray.size_append]; omega
  refine Run.loop [1] (fun (i : Nat) => [(5, .row 1000), (6, .int .i64 (i : Int))]) (fun i => [(1000, .row 5 1 (s ++ catW (l.take i)).size (bytesG (s ++ catW (l.take i))))]) (fun i => i ≤ l.length) (fun i => l.length - i) 0 (Nat.zero_le _) ⟨Le.refl _, Le.refl _, trivial⟩ ⟨?_, trivial⟩ ?_
  · have : s = s ++ catW (l.take 0) := by simp [catW]
    rw [← this]; exact MOle.refl _
  intro i hi IH
  have hw1 : IntKind.i64.wrap ((i : Int) + 1) = ((i + 1 : Nat) : Int) := wrap64 (by omega) (by omega)
  have hTi := hT i
  have hTj := hT (i + 1)
  have hwi : i < l.length → (l.getD (i : Int).toNat tWrd.z).text.size + (l.getD (i : Int).toNat tWrd.z).tail.size ≤ 1000000000000 := fun hil => by
    simp only [Int.toNat_natCast]
    have h1 := catW_takeLe l (i + 1)
    rw [catW_take l i hil, ByteArray.size_append, ByteArray.size_append] at h1
    omega
  generalize hX : s ++ catW (l.take i) = X at hTi ⊢
  by_cases hil : i < l.length
  · have hwj := hwi hil
    refine Run.go ?_; (conv => whnf); repeat' (first | ((with_reducible refine Know.mk fun _ => ?_); conv => whnf) | ((with_reducible refine Need.mk ?_ ?_); (first | omega | (dsimp only; omega) | decide | exact bytes_le (by rfl) (by omega) | exact ⟨rfl, by omega, bytes_le (by rfl) (by omega), by omega⟩ | (refine ⟨?_, ?_⟩ <;> (rw [wrap64 (by omega) (by omega)]; omega))); conv => whnf) | ((with_reducible first | refine Both.mk ?_ ?_ | refine Any.mk fun b hb => ?_ | refine AskB.dec (fun hb => ?_) (fun hb => ?_) | refine AskB.ndec (fun hb => ?_) (fun hb => ?_) | refine AskB.mk (fun hb => ?_) (fun hb => ?_)) <;> conv => whnf) | ((with_reducible first | refine Run.drawX rfl (by decide +kernel) ?_ | refine Run.drawT rfl (by decide +kernel) ?_ | refine Run.drawW rfl (by decide +kernel) ?_); conv => whnf) | fail)
    all_goals try (exfalso; omega)
    refine Run.hold (z := 28) 5 1000 (by rfl) (by rfl) (by rfl) ?_
    refine Run.to _ _ ?_ ?_ (IH (i + 1) (by omega) (by omega))
    · exact ⟨Le.refl _, Le.refl _, Le.int hw1, trivial⟩
    · refine ⟨?_, trivial⟩
      rw [catW_take l i hil, ← ByteArray.append_assoc, hX]
      exact bytesG_join2 5 X _ _
  · obtain rfl : i = l.length := by omega
    rw [List.take_length] at hX
    refine Run.go ?_; (conv => whnf); repeat' (first | ((with_reducible refine Know.mk fun _ => ?_); conv => whnf) | ((with_reducible refine Need.mk ?_ ?_); (first | omega | (dsimp only; omega) | decide | exact bytes_le (by rfl) (by omega) | exact ⟨rfl, by omega, bytes_le (by rfl) (by omega), by omega⟩ | (refine ⟨?_, ?_⟩ <;> (rw [wrap64 (by omega) (by omega)]; omega))); conv => whnf) | ((with_reducible first | refine Both.mk ?_ ?_ | refine Any.mk fun b hb => ?_ | refine AskB.dec (fun hb => ?_) (fun hb => ?_) | refine AskB.ndec (fun hb => ?_) (fun hb => ?_) | refine AskB.mk (fun hb => ?_) (fun hb => ?_)) <;> conv => whnf) | ((with_reducible first | refine Run.drawX rfl (by decide +kernel) ?_ | refine Run.drawT rfl (by decide +kernel) ?_ | refine Run.drawW rfl (by decide +kernel) ?_); conv => whnf) | fail)
    all_goals try (exfalso; omega)
    refine Run.rowStr (x := .tmp 29) (src := 93) (dst := 9) (e := 5) (q := 1000) X rfl rfl rfl rfl rfl rfl rfl (fun _ _ => rfl) (by kernel_rfl) (by kernel_rfl) (by kernel_rfl) ?_
    refine Run.go ?_; (conv => whnf); repeat' (first | ((with_reducible refine Know.mk fun _ => ?_); conv => whnf) | ((with_reducible refine Need.mk ?_ ?_); (first | omega | (dsimp only; omega) | decide | exact bytes_le (by rfl) (by omega) | exact ⟨rfl, by omega, bytes_le (by rfl) (by omega), by omega⟩ | (refine ⟨?_, ?_⟩ <;> (rw [wrap64 (by omega) (by omega)]; omega))); conv => whnf) | ((with_reducible first | refine Both.mk ?_ ?_ | refine Any.mk fun b hb => ?_ | refine AskB.dec (fun hb => ?_) (fun hb => ?_) | refine AskB.ndec (fun hb => ?_) (fun hb => ?_) | refine AskB.mk (fun hb => ?_) (fun hb => ?_)) <;> conv => whnf) | ((with_reducible first | refine Run.drawX rfl (by decide +kernel) ?_ | refine Run.drawT rfl (by decide +kernel) ?_ | refine Run.drawW rfl (by decide +kernel) ?_); conv => whnf) | fail)
    exact Run.leave (ts := [4]) (.inr ⟨_, rfl⟩) rfl Tryd.func68 rfl (Le.str hX.symm)
theorem right_long {hd : ByteArray} {l : List Wrd} (h : 65536 < hd.size + (catW l).size ∨ 1024 < l.length) : rightB hd l = false := by
  unfold rightB
  refine decide_eq_false (fun e => ?_)
  have hf := wordsOf_few (hd ++ catW l)
  rcases h with h | h
  · rw [wordsOf_long (by rw [ByteArray.size_append]; exact h)] at e
    cases e
  · rw [e] at hf; simp only at hf; omega
theorem right21_fn (hd : ByteArray) (l : List Wrd) (hf : FitW hd l) : Fn Tryd.prog 53 [.str hd, tWrd.L l] (.bool (rightB hd l)) := by
  refine Fn.of Tryd.f53 _ Tryd.func53 rfl (by decide) (by show 2 ≤ _; decide) tbOk 64 rfl fun S w0 gl => ?_
  obtain ⟨hl, hs⟩ := hf
  refine Run.go ?_; (conv => whnf); repeat' (first | ((with_reducible refine Know.mk fun _ => ?_); conv => whnf) | ((with_reducible refine Need.mk ?_ ?_); (first | omega | (dsimp only; omega) | decide | exact bytes_le (by rfl) (by omega) | exact ⟨rfl, by omega, bytes_le (by rfl) (by omega), by omega⟩ | (refine ⟨?_, ?_⟩ <;> (rw [wrap64 (by omega) (by omega)]; omega))); conv => whnf) | ((with_reducible first | refine Both.mk ?_ ?_ | refine Any.mk fun b hb => ?_ | refine AskB.dec (fun hb => ?_) (fun hb => ?_) | refine AskB.ndec (fun hb => ?_) (fun hb => ?_) | refine AskB.mk (fun hb => ?_) (fun hb => ?_)) <;> conv => whnf) | ((with_reducible first | refine Run.drawX rfl (by decide +kernel) ?_ | refine Run.drawT rfl (by decide +kernel) ?_ | refine Run.drawW rfl (by decide +kernel) ?_); conv => whnf) | fail)
  refine Run.loop [0, 1] (fun (i : Nat) => [(5, .int .i64 ((hd.size + (catW (l.take i)).size : Nat) : Int)), (6, .int .i64 (i : Int))]) (fun _ => []) (fun i => i ≤ l.length) (fun i => l.length - i) 0 (Nat.zero_le _) ⟨Le.int (by simp [catW]), Le.refl _, trivial⟩ trivial ?_
  intro i hi IH
  have hw1 : IntKind.i64.wrap ((i : Int) + 1) = ((i + 1 : Nat) : Int) := wrap64 (by omega) (by omega)
  have hTi := catW_takeLe l i
  have hTj := catW_takeLe l (i + 1)
  have hnx : i < l.length → (catW (l.take (i + 1))).size = (catW (l.take i)).size + ((l.getD i tWrd.z).text.size + (l.getD i tWrd.z).tail.size) := fun h => by
    rw [catW_take l i h, ByteArray.size_append, ByteArray.size_append]
  apply Run.cutAt (A := fun CC kk => hd.size + (catW l).size ≤ 65536 → l.length ≤ 1024 → Run CC kk (lst [(0, .str hd), (1, tWrd.L l), (45, .str hd), (46, tWrd.L l)]) (lstH []))
  · intro HA
    refine Run.go ?_; (conv => whnf); repeat' (first | ((with_reducible refine Know.mk fun _ => ?_); conv => whnf) | ((with_reducible refine Need.mk ?_ ?_); (first | omega | (dsimp only; omega) | decide | exact bytes_le (by rfl) (by omega) | exact ⟨rfl, by omega, bytes_le (by rfl) (by omega), by omega⟩ | (refine ⟨?_, ?_⟩ <;> (rw [wrap64 (by omega) (by omega)]; omega))); conv => whnf) | ((with_reducible first | refine Both.mk ?_ ?_ | refine Any.mk fun b hb => ?_ | refine AskB.dec (fun hb => ?_) (fun hb => ?_) | refine AskB.ndec (fun hb => ?_) (fun hb => ?_) | refine AskB.mk (fun hb => ?_) (fun hb => ?_)) <;> conv => whnf) | ((with_reducible first | refine Run.drawX rfl (by decide +kernel) ?_ | refine Run.drawT rfl (by decide +kernel) ?_ | refine Run.drawW rfl (by decide +kernel) ?_); conv => whnf) | fail)
    case _ =>
      have hil : i < l.length := by omega
      have hnx := hnx hil
      refine Run.to _ _ ?_ ?_ (IH (i + 1) (by omega) (by omega))
      · exact ⟨Le.refl _, Le.refl _, Le.int (by rw [wrap64 (x := (((l.getD (i : Int).toNat tWrd.z).text.size : Nat) : Int) + _) (by simp only [Int.toNat_natCast]; omega) (by simp only [Int.toNat_natCast]; omega)]; rw [wrap64 (by simp only [Int.toNat_natCast]; omega) (by simp only [Int.toNat_natCast]; omega)]; simp only [Int.toNat_natCast]; omega), Le.int hw1, trivial⟩
      · trivial
    all_goals try (
      have hbig : 65536 < hd.size + (catW l).size ∨ 1024 < l.length := by omega
      rw [right_long hbig]
      exact Run.leave (ts := [4]) (.inr ⟨_, rfl⟩) rfl Tryd.func53 rfl Le.ff)
    all_goals
      obtain rfl : i = l.length := by omega
      rw [List.take_length] at *
      refine Run.to _ _ ?_ ?_ (HA (by omega) (by omega))
      · exact ⟨Le.refl _, Le.refl _, Le.refl _, Le.refl _, trivial⟩
      · trivial
  intro h1 h2
  refine Run.callBX (join20_fn hd l hl hs) rfl rfl ⟨Le.refl _, Le.refl _, trivial⟩ rfl rfl rfl ?_
  (conv => whnf); repeat' (first | ((with_reducible refine Know.mk fun _ => ?_); conv => whnf) | ((with_reducible refine Need.mk ?_ ?_); (first | omega | (dsimp only; omega) | decide | exact bytes_le (by rfl) (by omega) | exact ⟨rfl, by omega, bytes_le (by rfl) (by omega), by omega⟩ | (refine ⟨?_, ?_⟩ <;> (rw [wrap64 (by omega) (by omega)]; omega))); conv => whnf) | ((with_reducible first | refine Both.mk ?_ ?_ | refine Any.mk fun b hb => ?_ | refine AskB.dec (fun hb => ?_) (fun hb => ?_) | refine AskB.ndec (fun hb => ?_) (fun hb => ?_) | refine AskB.mk (fun hb => ?_) (fun hb => ?_)) <;> conv => whnf) | ((with_reducible first | refine Run.drawX rfl (by decide +kernel) ?_ | refine Run.drawT rfl (by decide +kernel) ?_ | refine Run.drawW rfl (by decide +kernel) ?_); conv => whnf) | fail)
  refine Run.callBX (words16_fn (hd ++ catW l)) rfl rfl ⟨Le.refl _, trivial⟩ rfl rfl rfl ?_
  have hfew := wordsOf_few (hd ++ catW l)
  unfold rightB
  unfold wordsL
  generalize wordsOf (hd ++ catW l) = W at *
  (conv => whnf); repeat' (first | ((with_reducible refine Know.mk fun _ => ?_); conv => whnf) | ((with_reducible refine Need.mk ?_ ?_); (first | omega | (dsimp only; omega) | decide | exact bytes_le (by rfl) (by omega) | exact ⟨rfl, by omega, bytes_le (by rfl) (by omega), by omega⟩ | (refine ⟨?_, ?_⟩ <;> (rw [wrap64 (by omega) (by omega)]; omega))); conv => whnf) | ((with_reducible first | refine Both.mk ?_ ?_ | refine Any.mk fun b hb => ?_ | refine AskB.dec (fun hb => ?_) (fun hb => ?_) | refine AskB.ndec (fun hb => ?_) (fun hb => ?_) | refine AskB.mk (fun hb => ?_) (fun hb => ?_)) <;> conv => whnf) | ((with_reducible first | refine Run.drawX rfl (by decide +kernel) ?_ | refine Run.drawT rfl (by decide +kernel) ?_ | refine Run.drawW rfl (by decide +kernel) ?_); conv => whnf) | fail)
  · refine Run.callBX (same17_fn W.1.2 l (by omega)) rfl rfl ⟨Le.refl _, Le.refl _, trivial⟩ rfl rfl rfl ?_
    (conv => whnf); repeat' (first | ((with_reducible refine Know.mk fun _ => ?_); conv => whnf) | ((with_reducible refine Need.mk ?_ ?_); (first | omega | (dsimp only; omega) | decide | exact bytes_le (by rfl) (by omega) | exact ⟨rfl, by omega, bytes_le (by rfl) (by omega), by omega⟩ | (refine ⟨?_, ?_⟩ <;> (rw [wrap64 (by omega) (by omega)]; omega))); conv => whnf) | ((with_reducible first | refine Both.mk ?_ ?_ | refine Any.mk fun b hb => ?_ | refine AskB.dec (fun hb => ?_) (fun hb => ?_) | refine AskB.ndec (fun hb => ?_) (fun hb => ?_) | refine AskB.mk (fun hb => ?_) (fun hb => ?_)) <;> conv => whnf) | ((with_reducible first | refine Run.drawX rfl (by decide +kernel) ?_ | refine Run.drawT rfl (by decide +kernel) ?_ | refine Run.drawW rfl (by decide +kernel) ?_); conv => whnf) | fail)
    refine Run.leave (ts := [4]) (.inr ⟨_, rfl⟩) rfl Tryd.func53 rfl (Le.bool ?_)
    obtain ⟨⟨w1, w2⟩, w3⟩ := W
    simp only at hb
    have h3 : w3 = 0 := by assumption
    have h1 : w1 = hd := by assumption
    subst h3; subst h1; simp
  all_goals
    refine Run.leave (ts := [4]) (.inr ⟨_, rfl⟩) rfl Tryd.func53 rfl (Le.ff.trans (Le.bool ?_))
    symm
    refine decide_eq_false (fun e => ?_)
    subst e
    first | exact absurd rfl hb | exact absurd rfl ‹_›
end Go.Proofs.YtnadacaoehpdnaaDoor.V

namespace Go.Proofs.YtnadacaoehpdnaaDoor.V
set_option linter.unusedVariables false
set_option linter.unusedSimpArgs false
open Go Go.Proofs Go.RowKit
set_option maxRecDepth 100000
set_option maxHeartbeats 4000000
theorem sumN_ge {t : Tab} {c i : Nat} (hcc : c < t.cols.length) : sumN t c 0 ≤ sumN t c i := sumR_le _ (fun j hj => by
  unfold nx
  rw [if_neg (Nat.not_lt_zero _)]
  split
  · rw [cnt_take _ _ _ hcc]; omega
  · exact Nat.le_refl _)
theorem col_some {t : Tab} {c : Nat} (h : sumN t c 0 < sumN t c t.wits.length) (hcc : c < t.cols.length) : ∃ k, k < t.wits.length ∧ atC t c k ≠ -1 := by
  refine Classical.byContradiction fun hno' => ?_
  have hall : ∀ k, k < t.wits.length → atC t c k = -1 := fun k hk => Classical.byContradiction fun h => hno' ⟨k, hk, h⟩
  have hz : ∀ n, n ≤ t.wits.length → sumN t c n = sumN t c 0 := fun n => by
    induction n with
    | zero => intro _; rfl
    | succ n ih => intro h; rw [sumN_none hcc (hall n (by omega)), ih (by omega)]
  have := hz _ (Nat.le_refl _)
  omega
theorem check12_fn (t : Tab) (hf : FitT t) : Fn Tryd.prog 40 [tbA t] (.int .i64 (chkT t)) := by
  refine Fn.of Tryd.f40 _ Tryd.func40 rfl (by decide) (by show 1 ≤ _; decide) tbOk 138 rfl fun S w0 gl => ?_
  have hno : ∀ {P : Prop}, (OkT t → ¬ P) → P → chkT t = 121 := fun h p => chk_no (fun o => h o p)
  have hfw := hf.wits
  have hfc := hf.cols
  refine Run.go ?_; (conv => whnf); repeat' (first | ((with_reducible refine Know.mk fun _ => ?_); conv => whnf) | ((with_reducible refine Need.mk ?_ ?_); (first | omega | (dsimp only; omega) | decide | exact bytes_le (by rfl) (by omega) | exact ⟨rfl, by omega, bytes_le (by rfl) (by omega), by omega⟩ | (refine ⟨?_, ?_⟩ <;> (rw [wrap64 (by omega) (by omega)]; omega))); conv => whnf) | ((with_reducible first | refine Both.mk ?_ ?_ | refine Any.mk fun b hb => ?_ | refine AskB.dec (fun hb => ?_) (fun hb => ?_) | refine AskB.ndec (fun hb => ?_) (fun hb => ?_) | refine AskB.mk (fun hb => ?_) (fun hb => ?_)) <;> conv => whnf) | ((with_reducible first | refine Run.drawX rfl (by decide +kernel) ?_ | refine Run.drawT rfl (by decide +kernel) ?_ | refine Run.drawW rfl (by decide +kernel) ?_); conv => whnf) | fail)
  · exact Run.leave (ts := [2]) (.inr ⟨_, rfl⟩) rfl Tryd.func40 rfl (Le.int (hno (fun o h => by have := o.n1; omega) hb).symm)
  · exact Run.leave (ts := [2]) (.inr ⟨_, rfl⟩) rfl Tryd.func40 rfl (Le.int (hno (fun o h => by have := o.n12; omega) hb).symm)
  · exact Run.leave (ts := [2]) (.inr ⟨_, rfl⟩) rfl Tryd.func40 rfl (Le.int (hno (fun o h => by have := o.nc; omega) hb).symm)
  have hn1 : 1 ≤ t.wits.length := by omega
  have hn12 : t.wits.length ≤ 12 := by omega
  have hnc : t.cols.length ≤ 4096 := by omega
  have htl := tot_le hf
  have hrow0 : ∀ n : Int, n = t.wits.length → MOle (.row 3 1 n.toNat (fun i j => [AV.int IntKind.i64 0].getD j .u)) (tI.R 3 (nextL t 0 0)) := fun n hn => by
    subst hn
    rw [nextL_zero]
    refine ⟨rfl, rfl, by simp, fun i j hi hj => ?_⟩
    obtain rfl : j = 0 := by have : j < 1 := hj; omega
    refine Le.int ?_
    have hi' : i < t.wits.length := by simpa using hi
    rw [List.getD, List.getElem?_replicate, if_pos hi']; rfl
  refine Run.loop [3, 4] (fun (i : Nat) => [(1, .box 1 0), (5, .int .i64 (i : Int))]) (fun i => [(1, .box 25 [tWit.L t.wits, tIL.L t.cols]), (29, tI.R 3 (nextL t 0 0))])
    (fun i => i ≤ t.wits.length ∧ (∀ k, k < i → WitOk t k)) (fun i => t.wits.length - i) 0 ⟨Nat.zero_le _, fun i hi => absurd hi (Nat.not_lt_zero _)⟩
    ⟨Le.refl _, Le.refl _, trivial⟩ ⟨MOle.refl _, hrow0 _ rfl, trivial⟩ ?_
  intro i ⟨hi, hwk⟩ IH
  have hwi : IntKind.i64.wrap ((i : Int) + 1) = ((i + 1 : Nat) : Int) := wrap64 (by omega) (by omega)
  show Run _ _ (lst (_ ++ [(1, .box 1 0), (5, .int .i64 (i : Int))])) (lstH [(1, .box 25 [tWit.L t.wits, tIL.L t.cols]), (29, tI.R 3 (nextL t 0 0))])
  refine Run.go ?_; (conv => whnf); repeat' (first | ((with_reducible refine Know.mk fun _ => ?_); conv => whnf) | ((with_reducible refine Need.mk ?_ ?_); (first | omega | (dsimp only; omega) | decide | exact bytes_le (by rfl) (by omega) | exact ⟨rfl, by omega, bytes_le (by rfl) (by omega), by omega⟩ | (refine ⟨?_, ?_⟩ <;> (rw [wrap64 (by omega) (by omega)]; omega))); conv => whnf) | ((with_reducible first | refine Both.mk ?_ ?_ | refine Any.mk fun b hb => ?_ | refine AskB.dec (fun hb => ?_) (fun hb => ?_) | refine AskB.ndec (fun hb => ?_) (fun hb => ?_) | refine AskB.mk (fun hb => ?_) (fun hb => ?_)) <;> conv => whnf) | ((with_reducible first | refine Run.drawX rfl (by decide +kernel) ?_ | refine Run.drawT rfl (by decide +kernel) ?_ | refine Run.drawW rfl (by decide +kernel) ?_); conv => whnf) | fail)
  · have hil : i < t.wits.length := by omega
    have hwt := hf.wit (witAt t i) (getD_mem' i hil)
    refine Run.callBX (name_fn (witAt t i).name) rfl rfl ⟨Le.refl _, trivial⟩ rfl rfl rfl ?_
    (conv => whnf); repeat' (first | ((with_reducible refine Know.mk fun _ => ?_); conv => whnf) | ((with_reducible refine Need.mk ?_ ?_); (first | omega | (dsimp only; omega) | decide | exact bytes_le (by rfl) (by omega) | exact ⟨rfl, by omega, bytes_le (by rfl) (by omega), by omega⟩ | (refine ⟨?_, ?_⟩ <;> (rw [wrap64 (by omega) (by omega)]; omega))); conv => whnf) | ((with_reducible first | refine Both.mk ?_ ?_ | refine Any.mk fun b hb => ?_ | refine AskB.dec (fun hb => ?_) (fun hb => ?_) | refine AskB.ndec (fun hb => ?_) (fun hb => ?_) | refine AskB.mk (fun hb => ?_) (fun hb => ?_)) <;> conv => whnf) | ((with_reducible first | refine Run.drawX rfl (by decide +kernel) ?_ | refine Run.drawT rfl (by decide +kernel) ?_ | refine Run.drawW rfl (by decide +kernel) ?_); conv => whnf) | fail)
    · refine Run.callBX (right21_fn (witAt t i).head (witAt t i).words hwt.1) rfl rfl ⟨Le.refl _, Le.refl _, trivial⟩ rfl rfl rfl ?_
      (conv => whnf); repeat' (first | ((with_reducible refine Know.mk fun _ => ?_); conv => whnf) | ((with_reducible refine Need.mk ?_ ?_); (first | omega | (dsimp only; omega) | decide | exact bytes_le (by rfl) (by omega) | exact ⟨rfl, by omega, bytes_le (by rfl) (by omega), by omega⟩ | (refine ⟨?_, ?_⟩ <;> (rw [wrap64 (by omega) (by omega)]; omega))); conv => whnf) | ((with_reducible first | refine Both.mk ?_ ?_ | refine Any.mk fun b hb => ?_ | refine AskB.dec (fun hb => ?_) (fun hb => ?_) | refine AskB.ndec (fun hb => ?_) (fun hb => ?_) | refine AskB.mk (fun hb => ?_) (fun hb => ?_)) <;> conv => whnf) | ((with_reducible first | refine Run.drawX rfl (by decide +kernel) ?_ | refine Run.drawT rfl (by decide +kernel) ?_ | refine Run.drawW rfl (by decide +kernel) ?_); conv => whnf) | fail)
      · have hk : ¬ WitOk t i := fun h => by rw [h.2.1] at hb; cases hb
        exact Run.leave (ts := [2]) (.inr ⟨_, rfl⟩) rfl Tryd.func40 rfl (Le.int (hno (fun o h => h (o.wit i hil)) hk).symm)
      · have hrt : rightB (witAt t i).head (witAt t i).words = true := by simpa using hb
        have hnm : NameOk (witAt t i).name := by assumption
        refine Run.loop [3, 4, 5] (fun (k : Nat) => [(1, .box 1 0), (6, .box 6 0), (7, .int .i64 (k : Int))]) (fun k => [(1, .box 25 [tWit.L t.wits, tIL.L t.cols]), (29, tI.R 3 (nextL t 0 0)), (6, .box 38 [.str (witAt t i).name, .u, .u])])
          (fun k => k ≤ i ∧ ∀ j, j < k → (witAt t j).name ≠ (witAt t i).name) (fun k => i - k) 0 ⟨Nat.zero_le _, fun i hi => absurd hi (Nat.not_lt_zero _)⟩ ⟨Le.refl _, Le.refl _, Le.refl _, trivial⟩ ⟨MOle.refl _, MOle.refl _, ⟨rfl, rfl, fun j x y hx hy => ?_⟩, trivial⟩ ?_
        · match j, hx, hy with
          | 0, hx, hy => cases hx; cases hy; exact Le.refl _
          | 1, hx, hy => cases hy; exact Le.u _
          | 2, hx, hy => cases hy; exact Le.u _
        intro k ⟨hk, hne⟩ IHk
        have hwk2 : IntKind.i64.wrap ((k : Int) + 1) = ((k + 1 : Nat) : Int) := wrap64 (by omega) (by omega)
        show Run _ _ (lst (_ ++ [(1, .box 1 0), (6, .box 6 0), (7, .int .i64 (k : Int))])) (lstH [(1, .box 25 [tWit.L t.wits, tIL.L t.cols]), (29, tI.R 3 (nextL t 0 0)), (6, .box 38 [.str (witAt t i).name, .u, .u])])
        have hin : (k : Int) < i → (k : Int) < t.wits.length := fun h => by omega
        refine Run.go ?_; (conv => whnf); repeat' (first | ((with_reducible refine Know.mk fun _ => ?_); conv => whnf) | ((with_reducible refine Need.mk ?_ ?_); (first | omega | (dsimp only; omega) | decide | exact bytes_le (by rfl) (by omega) | exact ⟨rfl, by omega, bytes_le (by rfl) (by omega), by omega⟩ | (refine ⟨?_, ?_⟩ <;> (rw [wrap64 (by omega) (by omega)]; omega))); conv => whnf) | ((with_reducible first | refine Both.mk ?_ ?_ | refine Any.mk fun b hb => ?_ | refine AskB.dec (fun hb => ?_) (fun hb => ?_) | refine AskB.ndec (fun hb => ?_) (fun hb => ?_) | refine AskB.mk (fun hb => ?_) (fun hb => ?_)) <;> conv => whnf) | ((with_reducible first | refine Run.drawX rfl (by decide +kernel) ?_ | refine Run.drawT rfl (by decide +kernel) ?_ | refine Run.drawW rfl (by decide +kernel) ?_); conv => whnf) | fail)
        · have hd : (witAt t k).name = (witAt t i).name := hb
          have hki : k < i := by omega
          have hkk : ¬ WitOk t i := fun h => h.2.2 k hki hd
          exact Run.leave (ts := [2]) (.inr ⟨_, rfl⟩) rfl Tryd.func40 rfl (Le.int (hno (fun o h => h (o.wit i hil)) hkk).symm)
        · have hd : ¬ (witAt t k).name = (witAt t i).name := hb
          refine Run.to _ _ ?_ ?_ (IHk (k + 1) (by omega) ⟨by omega, fun j hj => ?_⟩)
          · exact ⟨Le.refl _, Le.refl _, Le.refl _, Le.refl _, Le.refl _, Le.int hwk2, trivial⟩
          · exact ⟨MOle.refl _, MOle.refl _, MOle.refl _, trivial⟩
          · by_cases e : j = k
            · subst e; exact hd
            · exact hne j (by omega)
        · have hok : WitOk t i := ⟨hnm, hrt, fun j hj => hne j (by omega)⟩
          refine Run.to _ _ ?_ ?_ (IH (i + 1) (by omega) ⟨by omega, fun k hk => ?_⟩)
          · exact ⟨Le.refl _, Le.refl _, Le.refl _, Le.int hwi, trivial⟩
          · exact ⟨MOle.refl _, MOle.refl _, trivial⟩
          · by_cases e : k = i
            · subst e; exact hok
            · exact hwk k (by omega)
    · have hk : ¬ WitOk t i := fun h => hb h.1
      exact Run.leave (ts := [2]) (.inr ⟨_, rfl⟩) rfl Tryd.func40 rfl (Le.int (hno (fun o h => h (o.wit i hil)) hk).symm)
  obtain rfl : i = t.wits.length := by omega
  clear IH
  refine Run.loop [3, 4] (fun (c : Nat) => [(1, .box 1 0), (8, .int .i64 (c : Int))]) (fun c => [(1, .box 25 [tWit.L t.wits, tIL.L t.cols]), (29, tI.R 3 (nextL t c 0))])
    (fun c => c ≤ t.cols.length ∧ (∀ k, k < c → ColOk t k) ∧ LeT t c 0) (fun c => t.cols.length - c) 0 ⟨Nat.zero_le _, fun i hi => absurd hi (Nat.not_lt_zero _), fun j hj => by simp [nx, cnt]⟩
    ⟨Le.refl _, Le.refl _, trivial⟩ ⟨MOle.refl _, MOle.refl _, trivial⟩ ?_
  intro c ⟨hc, hck, hle⟩ IH
  have hwc : IntKind.i64.wrap ((c : Int) + 1) = ((c + 1 : Nat) : Int) := wrap64 (by omega) (by omega)
  show Run _ _ (lst (_ ++ [(1, .box 1 0), (8, .int .i64 (c : Int))])) (lstH [(1, .box 25 [tWit.L t.wits, tIL.L t.cols]), (29, tI.R 3 (nextL t c 0))])
  refine Run.go ?_; (conv => whnf); repeat' (first | ((with_reducible refine Know.mk fun _ => ?_); conv => whnf) | ((with_reducible refine Need.mk ?_ ?_); (first | omega | (dsimp only; omega) | decide | exact bytes_le (by rfl) (by omega) | exact ⟨rfl, by omega, bytes_le (by rfl) (by omega), by omega⟩ | (refine ⟨?_, ?_⟩ <;> (rw [wrap64 (by omega) (by omega)]; omega))); conv => whnf) | ((with_reducible refine Both.mk ?_ ?_) <;> conv => whnf) | ((with_reducible refine Any.mk fun b hb => ?_); conv => whnf) | ((with_reducible first | refine AskB.dec (fun hb => ?_) (fun hb => ?_) | refine AskB.ndec (fun hb => ?_) (fun hb => ?_) | refine AskB.mk (fun hb => ?_) (fun hb => ?_)) <;> first | (exfalso; omega) | (conv => whnf)) | ((with_reducible first | refine Run.drawX rfl (by decide +kernel) ?_ | refine Run.drawT rfl (by decide +kernel) ?_ | refine Run.drawW rfl (by decide +kernel) ?_); conv => whnf) | fail)
  all_goals try (exfalso; omega)
  · have hcc : c < t.cols.length := by omega
    have hlen : (t.cols.getD c []).length = t.wits.length := by
      have h2 : (t.cols.getD (c : Int).toNat tIL.z).length = t.wits.length := by omega
      exact h2
    refine Run.loop [3, 4, 8] (fun (i : Nat) => [(1, .box 1 0), (9, .bool (decide (sumN t c 0 < sumN t c i))), (10, .int .i64 (i : Int))]) (fun i => [(1, .box 25 [tWit.L t.wits, tIL.L t.cols]), (29, tI.R 3 (nextL t c i))])
      (fun i => i ≤ t.wits.length ∧ LeT t c i ∧ (∀ k, k < i → atC t c k = -1 ∨ (atC t c k = (cnt (t.cols.take c) k : Nat) ∧ cnt (t.cols.take c) k < (witAt t k).words.length)) ∧ (sumN t c i = sumN t c 0 → ∀ k, k < i → atC t c k = -1)) (fun i => t.wits.length - i) 0 ⟨Nat.zero_le _, hle, fun i hi => absurd hi (Nat.not_lt_zero _), fun _ i hi => absurd hi (Nat.not_lt_zero _)⟩
      ⟨Le.refl _, Le.ff.trans (Le.bool (decide_eq_false (Nat.lt_irrefl _)).symm), Le.refl _, trivial⟩ ⟨MOle.refl _, MOle.refl _, trivial⟩ ?_
    intro i ⟨hi, hlei, hcells, hsame⟩ IHi
    have hwi : IntKind.i64.wrap ((i : Int) + 1) = ((i + 1 : Nat) : Int) := wrap64 (by omega) (by omega)
    have hnli := nextL_len t c i
    have hge := sumN_ge (i := i) hcc
    show Run _ _ (lst (_ ++ [(1, .box 1 0), (9, .bool (decide (sumN t c 0 < sumN t c i))), (10, .int .i64 (i : Int))])) (lstH [(1, .box 25 [tWit.L t.wits, tIL.L t.cols]), (29, tI.R 3 (nextL t c i))])
    by_cases hil : i < t.wits.length
    · have hx : (t.cols.getD (c : Int).toNat tIL.z).getD (i : Int).toNat tI.z = atC t c i := rfl
      have hlc : (t.cols.getD (c : Int).toNat tIL.z).length = t.wits.length := hlen
      have hn : (nextL t c i).getD (i : Int).toNat tI.z = ((cnt (t.cols.take c) i : Nat) : Int) := by
        have := nextL_at t c i i hil
        rw [nx_same] at this; exact this
      have hlw : lens t i ≤ 2000000 := (hf.wit (witAt t i) (getD_mem' i hil)).2.1
      have hcnt : cnt (t.cols.take c) i ≤ lens t i := by
        have := hlei i hil
        rw [nx_same] at this; exact this
      have hlw2 : (t.wits.getD (i : Int).toNat tWit.z).words.length = lens t i := rfl
      refine Run.go ?_; (conv => whnf); repeat' (first | ((with_reducible refine Know.mk fun _ => ?_); conv => whnf) | ((with_reducible refine Need.mk ?_ ?_); (first | omega | (dsimp only; omega) | decide | exact bytes_le (by rfl) (by omega) | exact ⟨rfl, by omega, bytes_le (by rfl) (by omega), by omega⟩ | (refine ⟨?_, ?_⟩ <;> (rw [wrap64 (by omega) (by omega)]; omega))); conv => whnf) | ((with_reducible refine Both.mk ?_ ?_) <;> conv => whnf) | ((with_reducible refine Any.mk fun b hb => ?_); conv => whnf) | ((with_reducible first | refine AskB.dec (fun hb => ?_) (fun hb => ?_) | refine AskB.ndec (fun hb => ?_) (fun hb => ?_) | refine AskB.mk (fun hb => ?_) (fun hb => ?_)) <;> first | (exfalso; omega) | (conv => whnf)) | ((with_reducible first | refine Run.drawX rfl (by decide +kernel) ?_ | refine Run.drawT rfl (by decide +kernel) ?_ | refine Run.drawW rfl (by decide +kernel) ?_); conv => whnf) | fail)
      all_goals try (exfalso; omega)
      · have hm : atC t c i = -1 := by omega
        refine Run.to _ _ ?_ ?_ (IHi (i + 1) (by omega) ⟨by omega, le_none hcc hlei hm, fun k hk => ?_, fun he k hk => ?_⟩)
        · refine ⟨Le.refl _, Le.refl _, Le.refl _, Le.refl _, ?_, Le.int hwi, trivial⟩
          rw [sumN_none hcc hm]; exact Le.refl _
        · refine ⟨MOle.refl _, ?_, trivial⟩
          rw [nextL_none hcc hm]; exact MOle.refl _
        · by_cases e : k = i
          · subst e; exact .inl hm
          · exact hcells k (by omega)
        · rw [sumN_none hcc hm] at he
          by_cases e : k = i
          · subst e; exact hm
          · exact hsame he k (by omega)
      all_goals try (
        have hk : ¬ ColOk t c := fun h => by
          rcases h.2.1 i hil with h1 | ⟨h1, h2⟩
          · omega
          · have h3 : cnt (t.cols.take c) i < lens t i := h2
            omega
        exact Run.leave (ts := [2]) (.inr ⟨_, rfl⟩) rfl Tryd.func40 rfl (Le.int (hno (fun o h => h (o.col c hcc)) hk).symm))
      · have hxe : atC t c i = ((cnt (t.cols.take c) i : Nat) : Int) := by omega
        have hne : atC t c i ≠ -1 := by omega
        have hlt : cnt (t.cols.take c) i < lens t i := by omega
        have hle2 := le_some hcc hlei hne (by rw [nx_same]; exact hlt)
        have hsm := sumN_some hcc hil hne
        refine Run.to _ _ ?_ ?_ (IHi (i + 1) (by omega) ⟨by omega, hle2, fun k hk => ?_, fun he => ?_⟩)
        · refine ⟨Le.refl _, Le.refl _, Le.refl _, Le.refl _, Le.tt.trans (Le.bool (decide_eq_true (by omega)).symm), Le.int hwi, trivial⟩
        · refine ⟨MOle.refl _, ?_, trivial⟩
          rw [nextL_some hcc hil hne]
          refine tI.set 3 (nextL t c i) i _ (by omega) _ rfl (Le.one (Le.int ?_))
          rw [hn, nx_same, wrap64 (by omega) (by omega)]
        · by_cases e : k = i
          · subst e; exact .inr ⟨hxe, hlt⟩
          · exact hcells k (by omega)
        · omega
    · obtain rfl : i = t.wits.length := by omega
      refine Run.go ?_; (conv => whnf); repeat' (first | ((with_reducible refine Know.mk fun _ => ?_); conv => whnf) | ((with_reducible refine Need.mk ?_ ?_); (first | omega | (dsimp only; omega) | decide | exact bytes_le (by rfl) (by omega) | exact ⟨rfl, by omega, bytes_le (by rfl) (by omega), by omega⟩ | (refine ⟨?_, ?_⟩ <;> (rw [wrap64 (by omega) (by omega)]; omega))); conv => whnf) | ((with_reducible refine Both.mk ?_ ?_) <;> conv => whnf) | ((with_reducible refine Any.mk fun b hb => ?_); conv => whnf) | ((with_reducible first | refine AskB.dec (fun hb => ?_) (fun hb => ?_) | refine AskB.ndec (fun hb => ?_) (fun hb => ?_) | refine AskB.mk (fun hb => ?_) (fun hb => ?_)) <;> first | (exfalso; omega) | (conv => whnf)) | ((with_reducible first | refine Run.drawX rfl (by decide +kernel) ?_ | refine Run.drawT rfl (by decide +kernel) ?_ | refine Run.drawW rfl (by decide +kernel) ?_); conv => whnf) | fail)
      all_goals try (exfalso; omega)
      · have hsl : sumN t c 0 < sumN t c t.wits.length := hb
        have hok : ColOk t c := ⟨hlen, hcells, col_some hsl hcc⟩
        refine Run.to _ _ ?_ ?_ (IH (c + 1) (by omega) ⟨by omega, fun k hk => ?_, le_end hlei⟩)
        · exact ⟨Le.refl _, Le.refl _, Le.refl _, Le.int hwc, trivial⟩
        · refine ⟨MOle.refl _, ?_, trivial⟩
          rw [← nextL_end]; exact MOle.refl _
        · by_cases e : k = c
          · subst e; exact hok
          · exact hck k (by omega)
      · have hsl : ¬ sumN t c 0 < sumN t c t.wits.length := hb
        have hk : ¬ ColOk t c := fun h => by
          obtain ⟨k, hk1, hk2⟩ := h.2.2
          exact hk2 (hsame (by omega) k hk1)
        exact Run.leave (ts := [2]) (.inr ⟨_, rfl⟩) rfl Tryd.func40 rfl (Le.int (hno (fun o h => h (o.col c hcc)) hk).symm)
  · have hcc : c < t.cols.length := by omega
    have hk : ¬ ColOk t c := fun h => by
      have h1 := h.1
      have h2 : (t.cols.getD (c : Int).toNat tIL.z).length = t.wits.length := h1
      omega
    exact Run.leave (ts := [2]) (.inr ⟨_, rfl⟩) rfl Tryd.func40 rfl (Le.int (hno (fun o h => h (o.col c hcc)) hk).symm)
  obtain rfl : c = t.cols.length := by omega
  refine Run.loop [3, 4] (fun (i : Nat) => [(1, .box 1 0), (12, .int .i64 (i : Int))]) (fun i => [(1, .box 25 [tWit.L t.wits, tIL.L t.cols]), (29, tI.R 3 (nextL t t.cols.length 0))])
    (fun i => i ≤ t.wits.length ∧ (∀ k, k < i → cnt t.cols k = (witAt t k).words.length)) (fun i => t.wits.length - i) 0 ⟨Nat.zero_le _, fun i hi => absurd hi (Nat.not_lt_zero _)⟩
    ⟨Le.refl _, Le.refl _, trivial⟩ ⟨MOle.refl _, MOle.refl _, trivial⟩ ?_
  intro i ⟨hi, hall⟩ IHi
  have hwi : IntKind.i64.wrap ((i : Int) + 1) = ((i + 1 : Nat) : Int) := wrap64 (by omega) (by omega)
  have hnli := nextL_len t t.cols.length 0
  show Run _ _ (lst (_ ++ [(1, .box 1 0), (12, .int .i64 (i : Int))])) (lstH [(1, .box 25 [tWit.L t.wits, tIL.L t.cols]), (29, tI.R 3 (nextL t t.cols.length 0))])
  by_cases hil : i < t.wits.length
  · have hn : (nextL t t.cols.length 0).getD (i : Int).toNat tI.z = ((cnt t.cols i : Nat) : Int) := by
      have := nextL_at t t.cols.length 0 i hil
      rw [nx_last] at this; exact this
    have hlw2 : (t.wits.getD (i : Int).toNat tWit.z).words.length = lens t i := rfl
    refine Run.go ?_; (conv => whnf); repeat' (first | ((with_reducible refine Know.mk fun _ => ?_); conv => whnf) | ((with_reducible refine Need.mk ?_ ?_); (first | omega | (dsimp only; omega) | decide | exact bytes_le (by rfl) (by omega) | exact ⟨rfl, by omega, bytes_le (by rfl) (by omega), by omega⟩ | (refine ⟨?_, ?_⟩ <;> (rw [wrap64 (by omega) (by omega)]; omega))); conv => whnf) | ((with_reducible refine Both.mk ?_ ?_) <;> conv => whnf) | ((with_reducible refine Any.mk fun b hb => ?_); conv => whnf) | ((with_reducible first | refine AskB.dec (fun hb => ?_) (fun hb => ?_) | refine AskB.ndec (fun hb => ?_) (fun hb => ?_) | refine AskB.mk (fun hb => ?_) (fun hb => ?_)) <;> first | (exfalso; omega) | (conv => whnf)) | ((with_reducible first | refine Run.drawX rfl (by decide +kernel) ?_ | refine Run.drawT rfl (by decide +kernel) ?_ | refine Run.drawW rfl (by decide +kernel) ?_); conv => whnf) | fail)
    all_goals try (exfalso; omega)
    · have he : cnt t.cols i = lens t i := by omega
      refine Run.to _ _ ?_ ?_ (IHi (i + 1) (by omega) ⟨by omega, fun k hk => ?_⟩)
      · exact ⟨Le.refl _, Le.refl _, Le.refl _, Le.int hwi, trivial⟩
      · exact ⟨MOle.refl _, MOle.refl _, trivial⟩
      · by_cases e : k = i
        · subst e; exact he
        · exact hall k (by omega)
    · have he : ¬ cnt t.cols i = lens t i := by omega
      exact Run.leave (ts := [2]) (.inr ⟨_, rfl⟩) rfl Tryd.func40 rfl (Le.int (hno (fun o h => h (o.all i hil)) he).symm)
  · obtain rfl : i = t.wits.length := by omega
    refine Run.go ?_; (conv => whnf); repeat' (first | ((with_reducible refine Know.mk fun _ => ?_); conv => whnf) | ((with_reducible refine Need.mk ?_ ?_); (first | omega | (dsimp only; omega) | decide | exact bytes_le (by rfl) (by omega) | exact ⟨rfl, by omega, bytes_le (by rfl) (by omega), by omega⟩ | (refine ⟨?_, ?_⟩ <;> (rw [wrap64 (by omega) (by omega)]; omega))); conv => whnf) | ((with_reducible refine Both.mk ?_ ?_) <;> conv => whnf) | ((with_reducible refine Any.mk fun b hb => ?_); conv => whnf) | ((with_reducible first | refine AskB.dec (fun hb => ?_) (fun hb => ?_) | refine AskB.ndec (fun hb => ?_) (fun hb => ?_) | refine AskB.mk (fun hb => ?_) (fun hb => ?_)) <;> first | (exfalso; omega) | (conv => whnf)) | ((with_reducible first | refine Run.drawX rfl (by decide +kernel) ?_ | refine Run.drawT rfl (by decide +kernel) ?_ | refine Run.drawW rfl (by decide +kernel) ?_); conv => whnf) | fail)
    all_goals try (exfalso; omega)
    exact Run.leave (ts := [2]) (.inr ⟨_, rfl⟩) rfl Tryd.func40 rfl (Le.int (chk_ok ⟨hn1, hn12, hnc, hwk, hck, hall⟩).symm)
end Go.Proofs.YtnadacaoehpdnaaDoor.V

namespace Go.Proofs.YtnadacaoehpdnaaDoor.V
set_option linter.unusedVariables false
set_option linter.unusedSimpArgs false
open Go Go.Proofs Go.RowKit
set_option maxRecDepth 100000
set_option maxHeartbeats 4000000
theorem textF_empty (o : Int) : textF .empty o = .empty := by
  unfold textF
  rw [cells_out (by decide)]; rfl
/-- What a table's cells are. -/
theorem at_ok {t : Tab} (h : OkT t) {c i : Nat} (hc : c < t.cols.length) (hi : i < t.wits.length) : (t.cols.getD c []).length = t.wits.length ∧ (atC t c i = -1 ∨ (0 ≤ atC t c i ∧ (atC t c i).toNat < (witAt t i).words.length)) := by
  obtain ⟨h1, h2, h3⟩ := h.col c hc
  refine ⟨h1, ?_⟩
  rcases h2 i hi with h4 | ⟨h4, h5⟩
  · exact .inl h4
  · exact .inr ⟨by omega, by omega⟩
theorem text_small {t : Tab} (hf : FitT t) (hok : OkT t) {c : Nat} (hc : c < t.cols.length) (j : Nat) (hj : j < t.wits.length) : (textAt t c j).size ≤ 134217728 := by
  obtain ⟨_, h⟩ := at_ok hok hc hj
  unfold textAt
  split
  · exact Nat.zero_le _
  · rcases h with h | ⟨h1, h2⟩
    · omega
    · exact (hf.wit (witAt t j) (getD_mem' j hj)).2.2 _ (getD_mem' _ h2)
theorem read41_fn (t : Tab) (c : Nat) (o : Int) (hf : FitT t) (hok : OkT t) (hc : c < t.cols.length) (ho : ¬ badO o) : Fn Tryd.prog 41 [tbA t, .int .i64 c, .int .i64 o] (tRd.L (readE t c o t.wits.length)) := by
  refine Fn.of Tryd.f41 _ Tryd.func41 rfl (by decide) (by show 3 ≤ _; decide) tbOk 101 rfl fun S w0 gl => ?_
  have hn12 := hok.n12
  have hfc := hf.cols
  refine Run.go ?_; (conv => whnf); repeat' (first | ((with_reducible refine Know.mk fun _ => ?_); conv => whnf) | ((with_reducible refine Need.mk ?_ ?_); (first | omega | (dsimp only; omega) | decide | exact bytes_le (by rfl) (by omega) | exact ⟨rfl, by omega, bytes_le (by rfl) (by omega), by omega⟩ | (refine ⟨?_, ?_⟩ <;> (rw [wrap64 (by omega) (by omega)]; omega))); conv => whnf) | ((with_reducible first | refine Both.mk ?_ ?_ | refine Any.mk fun b hb => ?_ | refine AskB.dec (fun hb => ?_) (fun hb => ?_) | refine AskB.ndec (fun hb => ?_) (fun hb => ?_) | refine AskB.mk (fun hb => ?_) (fun hb => ?_)) <;> conv => whnf) | ((with_reducible first | refine Run.drawX rfl (by decide +kernel) ?_ | refine Run.drawT rfl (by decide +kernel) ?_ | refine Run.drawW rfl (by decide +kernel) ?_); conv => whnf) | fail)
  refine Run.holdNil 7 1000 47 3 (fun _ _ => .nils) rfl ?_
  refine Run.asMat 1000 2 3 1 (e := 47) (sz := 3) (n := 0) (get := fun _ _ => .nils) rfl (by decide) (fun i hi => absurd hi (Nat.not_lt_zero _)) ?_
  refine Run.loop [1, 2] (fun (i : Nat) => [(3, .box 3 0), (7, .row 1000), (8, .int .i64 (i : Int))]) (fun i => [(3, .box 25 [tWit.L t.wits, tIL.L t.cols]), (1000, rdM (readE t c o i))]) (fun i => i ≤ t.wits.length) (fun i => t.wits.length - i) 0 (Nat.zero_le _) ⟨Le.refl _, Le.refl _, Le.refl _, trivial⟩ ⟨MOle.refl _, rdM_nil _ _ _, trivial⟩ ?_
  intro i hi IH
  have hwi : IntKind.i64.wrap ((i : Int) + 1) = ((i + 1 : Nat) : Int) := wrap64 (by omega) (by omega)
  have hrl := read_len t c o i
  have hwl := wits_le t c o i
  have htx := read_text t c o 134217728 i (fun j hj => text_small hf hok hc j (by omega))
  show Run _ _ (lst (_ ++ [(3, .box 3 0), (7, .row 1000), (8, .int .i64 (i : Int))])) (lstH [(3, .box 25 [tWit.L t.wits, tIL.L t.cols]), (1000, rdM (readE t c o i))])
  by_cases hil : i < t.wits.length
  · obtain ⟨hlen, hat⟩ := at_ok hok hc hil
    have hfi : (witAt t i).words.length ≤ 2000000 := (hf.wit (witAt t i) (getD_mem' i hil)).2.1
    have hx : (t.cols.getD (c : Int).toNat tIL.z).getD (i : Int).toNat tI.z = atC t c i := rfl
    have hlc : (t.cols.getD (c : Int).toNat tIL.z).length = t.wits.length := hlen
    have hlw2 : (t.wits.getD (i : Int).toNat tWit.z).words.length = (witAt t i).words.length := rfl
    have hnx : readE t c o (i + 1) = addR o (readE t c o i) i (decide (atC t c i < 0)) (textAt t c i) (keyAt t c o i) := rfl
    generalize readE t c o i = l at hrl hwl hnx htx ⊢
    apply Run.cutAt (A := fun CC kk => Run CC kk (lst [(1, .int .i64 c), (2, .int .i64 o), (3, .box 3 0), (7, .row 1000), (8, .int .i64 (i : Int)), (9, .int .i64 (atC t c i)), (10, .str (textAt t c i)), (11, .str (keyAt t c o i)), (12, .int .i64 0)]) (lstH [(3, .box 25 [tWit.L t.wits, tIL.L t.cols]), (1000, rdM l)]))
    · intro HA
      refine Run.go ?_; (conv => whnf); repeat' (first | ((with_reducible refine Know.mk fun _ => ?_); conv => whnf) | ((with_reducible refine Need.mk ?_ ?_); (first | omega | (dsimp only; omega) | decide | exact bytes_le (by rfl) (by omega) | exact ⟨rfl, by omega, bytes_le (by rfl) (by omega), by omega⟩ | (refine ⟨?_, ?_⟩ <;> (rw [wrap64 (by omega) (by omega)]; omega))); conv => whnf) | ((with_reducible refine Both.mk ?_ ?_) <;> conv => whnf) | ((with_reducible refine Any.mk fun b hb => ?_); conv => whnf) | ((with_reducible first | refine AskB.dec (fun hb => ?_) (fun hb => ?_) | refine AskB.ndec (fun hb => ?_) (fun hb => ?_) | refine AskB.mk (fun hb => ?_) (fun hb => ?_)) <;> first | (exfalso; omega) | (conv => whnf)) | ((with_reducible first | refine Run.drawX rfl (by decide +kernel) ?_ | refine Run.drawT rfl (by decide +kernel) ?_ | refine Run.drawW rfl (by decide +kernel) ?_); conv => whnf) | fail)
      all_goals try (exfalso; omega)
      · have hx0 : 0 ≤ atC t c i := by omega
        have hxl : (atC t c i).toNat < (witAt t i).words.length := by omega
        have hte : textAt t c i = ((witAt t i).words.getD (atC t c i).toNat tWrd.z).text := by unfold textAt; rw [if_neg (by omega)]
        have hke : keyAt t c o i = textF (textAt t c i) o := by unfold keyAt; rw [if_neg (by omega)]
        have hts : (textAt t c i).size ≤ 134217728 := by
          rw [hte]
          exact (hf.wit (witAt t i) (getD_mem' i hil)).2.2 _ (getD_mem' _ hxl)
        have ht := text29_fn (textAt t c i) o hts
        unfold textL at ht
        rw [if_neg ho, if_neg ho, ← hke] at ht
        refine Run.callBX ht rfl rfl ⟨Le.str hte.symm, Le.refl _, trivial⟩ rfl rfl rfl ?_
        (conv => whnf); repeat' (first | ((with_reducible refine Know.mk fun _ => ?_); conv => whnf) | ((with_reducible refine Need.mk ?_ ?_); (first | omega | (dsimp only; omega) | decide | exact bytes_le (by rfl) (by omega) | exact ⟨rfl, by omega, bytes_le (by rfl) (by omega), by omega⟩ | (refine ⟨?_, ?_⟩ <;> (rw [wrap64 (by omega) (by omega)]; omega))); conv => whnf) | ((with_reducible first | refine Both.mk ?_ ?_ | refine Any.mk fun b hb => ?_ | refine AskB.dec (fun hb => ?_) (fun hb => ?_) | refine AskB.ndec (fun hb => ?_) (fun hb => ?_) | refine AskB.mk (fun hb => ?_) (fun hb => ?_)) <;> conv => whnf) | ((with_reducible first | refine Run.drawX rfl (by decide +kernel) ?_ | refine Run.drawT rfl (by decide +kernel) ?_ | refine Run.drawW rfl (by decide +kernel) ?_); conv => whnf) | fail)
        refine Run.to _ _ ?_ ?_ HA
        · exact ⟨Le.refl _, Le.refl _, Le.refl _, Le.refl _, Le.refl _, Le.refl _, Le.str hte.symm, Le.refl _, Le.refl _, trivial⟩
        · exact ⟨MOle.refl _, MOle.refl _, trivial⟩
      · have hx0 : atC t c i < 0 := by omega
        refine Run.to _ _ ?_ ?_ HA
        · refine ⟨Le.refl _, Le.refl _, Le.refl _, Le.refl _, Le.refl _, Le.refl _, Le.str ?_, Le.str ?_, Le.refl _, trivial⟩
          · unfold textAt; rw [if_pos hx0]; rfl
          · unfold keyAt; rw [if_pos hx0]; rfl
        · exact ⟨MOle.refl _, MOle.refl _, trivial⟩
    have hfd : ∀ k, k ≤ l.findIdx (sameR o (decide (atC t c i < 0)) (keyAt t c o i)) → k ≤ l.length := fun k hk => Nat.le_trans hk List.findIdx_le_length
    apply Run.cutAt (A := fun CC kk => ∀ k, l.findIdx (sameR o (decide (atC t c i < 0)) (keyAt t c o i)) = k → Run CC kk (lst [(1, .int .i64 c), (2, .int .i64 o), (3, .box 3 0), (7, .row 1000), (8, .int .i64 (i : Int)), (9, .int .i64 (atC t c i)), (10, .str (textAt t c i)), (12, .int .i64 (k : Int))]) (lstH [(3, .box 25 [tWit.L t.wits, tIL.L t.cols]), (1000, rdM l)]))
    · intro HA
      refine Run.loop [1, 2, 3, 7, 8, 9, 10, 11] (fun (k : Nat) => [(12, .int .i64 (k : Int))]) (fun k => [(3, .box 25 [tWit.L t.wits, tIL.L t.cols]), (1000, rdM l)]) (fun k => k ≤ l.findIdx (sameR o (decide (atC t c i < 0)) (keyAt t c o i))) (fun k => l.length - k) 0 (Nat.zero_le _) ⟨Le.refl _, trivial⟩ ⟨MOle.refl _, MOle.refl _, trivial⟩ ?_
      intro k hk IHk
      have hkl := hfd k hk
      have hwk : IntKind.i64.wrap ((k : Int) + 1) = ((k + 1 : Nat) : Int) := wrap64 (by omega) (by omega)
      show Run _ _ (lst (_ ++ [(12, .int .i64 (k : Int))])) (lstH [(3, .box 25 [tWit.L t.wits, tIL.L t.cols]), (1000, rdM l)])
      refine Run.goS false 6 ?_; (conv => whnf); repeat' (first | ((with_reducible refine Know.mk fun _ => ?_); conv => whnf) | ((with_reducible refine Need.mk ?_ ?_); (first | omega | (dsimp only; omega) | decide | exact bytes_le (by rfl) (by omega) | exact ⟨rfl, by omega, bytes_le (by rfl) (by omega), by omega⟩ | (refine ⟨?_, ?_⟩ <;> (rw [wrap64 (by omega) (by omega)]; omega))); conv => whnf) | ((with_reducible refine Both.mk ?_ ?_) <;> conv => whnf) | ((with_reducible refine Any.mk fun b hb => ?_); conv => whnf) | ((with_reducible first | refine AskB.dec (fun hb => ?_) (fun hb => ?_) | refine AskB.ndec (fun hb => ?_) (fun hb => ?_) | refine AskB.mk (fun hb => ?_) (fun hb => ?_)) <;> first | (exfalso; omega) | (conv => whnf)) | ((with_reducible first | refine Run.drawX rfl (by decide +kernel) ?_ | refine Run.drawT rfl (by decide +kernel) ?_ | refine Run.drawW rfl (by decide +kernel) ?_); conv => whnf) | fail)
      all_goals try (exfalso; omega)
      · have hkk : k < l.length := by omega
        have ht := text29_fn (l.getD k rd0).text o (htx _ (getD_mem' k hkk))
        unfold textL at ht
        rw [if_neg ho, if_neg ho] at ht
        have hsm : sameR o (decide (atC t c i < 0)) (keyAt t c o i) (l.getD k rd0) = ((l.getD k rd0).none == decide (atC t c i < 0) && decide (textF (l.getD k rd0).text o = keyAt t c o i)) := rfl
        refine Run.callB ht rfl rfl ⟨Le.refl _, Le.refl _, trivial⟩ rfl rfl rfl ?_
        refine Run.goS false 6 ?_; (conv => whnf); repeat' (first | ((with_reducible refine Know.mk fun _ => ?_); conv => whnf) | ((with_reducible refine Need.mk ?_ ?_); (first | omega | (dsimp only; omega) | decide | exact bytes_le (by rfl) (by omega) | exact ⟨rfl, by omega, bytes_le (by rfl) (by omega), by omega⟩ | (refine ⟨?_, ?_⟩ <;> (rw [wrap64 (by omega) (by omega)]; omega))); conv => whnf) | ((with_reducible refine Both.mk ?_ ?_) <;> conv => whnf) | ((with_reducible refine Any.mk fun b hb => ?_); conv => whnf) | ((with_reducible first | refine AskB.dec (fun hb => ?_) (fun hb => ?_) | refine AskB.ndec (fun hb => ?_) (fun hb => ?_) | refine AskB.mk (fun hb => ?_) (fun hb => ?_)) <;> first | (exfalso; omega) | (conv => whnf)) | ((with_reducible first | refine Run.drawX rfl (by decide +kernel) ?_ | refine Run.drawT rfl (by decide +kernel) ?_ | refine Run.drawW rfl (by decide +kernel) ?_); conv => whnf) | fail)
        · refine Run.to _ _ ?_ ?_ (HA k (fidx_hit (z := rd0) hk hkk ?_))
          · exact ⟨Le.refl _, Le.refl _, Le.refl _, Le.refl _, Le.refl _, Le.refl _, Le.refl _, Le.refl _, trivial⟩
          · exact ⟨MOle.refl _, MOle.refl _, trivial⟩
          · rw [hsm, Bool.and_eq_true]
            exact ⟨by assumption, decide_eq_true hb⟩
        · refine Run.to _ _ ?_ ?_ (IHk (k + 1) (by omega) (fidx_miss (z := rd0) hk hkk ?_))
          · exact ⟨Le.refl _, Le.refl _, Le.refl _, Le.refl _, Le.refl _, Le.refl _, Le.refl _, Le.refl _, Le.int hwk, trivial⟩
          · exact ⟨MOle.refl _, MOle.refl _, trivial⟩
          · rw [hsm, decide_eq_false hb, Bool.and_false]
        · refine Run.to _ _ ?_ ?_ (IHk (k + 1) (by omega) (fidx_miss (z := rd0) hk hkk ?_))
          · exact ⟨Le.refl _, Le.refl _, Le.refl _, Le.refl _, Le.refl _, Le.refl _, Le.refl _, Le.refl _, Le.int hwk, trivial⟩
          · exact ⟨MOle.refl _, MOle.refl _, trivial⟩
          · rw [hsm, show ((l.getD k rd0).none == decide (atC t c i < 0)) = false from hb, Bool.false_and]
      · refine Run.to _ _ ?_ ?_ (HA k ?_)
        · exact ⟨Le.refl _, Le.refl _, Le.refl _, Le.refl _, Le.refl _, Le.refl _, Le.refl _, Le.refl _, trivial⟩
        · exact ⟨MOle.refl _, MOle.refl _, trivial⟩
        · have := List.findIdx_le_length (p := sameR o (decide (atC t c i < 0)) (keyAt t c o i)) (xs := l)
          omega
    intro k hk
    have hkl : k ≤ l.length := by rw [← hk]; exact List.findIdx_le_length
    have hens := ens_len l k (decide (atC t c i < 0)) (textAt t c i) hkl
    have hadd : readE t c o (i + 1) = pushW (ensR l k (decide (atC t c i < 0)) (textAt t c i)) k i := by rw [hnx]; unfold addR; rw [hk]
    have hewl : ∀ r ∈ ensR l k (decide (atC t c i < 0)) (textAt t c i), r.wits.length ≤ i := fun r hr => by
      unfold ensR at hr
      split at hr
      · rcases List.mem_append.mp hr with h1 | h1
        · exact hwl r h1
        · rw [List.mem_singleton] at h1; subst h1; exact Nat.zero_le _
      · exact hwl r hr
    refine Run.goS true 0 ?_; (conv => whnf); repeat' (first | ((with_reducible refine Know.mk fun _ => ?_); conv => whnf) | ((with_reducible refine Need.mk ?_ ?_); (first | omega | (dsimp only; omega) | decide | exact bytes_le (by rfl) (by omega) | exact ⟨rfl, by omega, bytes_le (by rfl) (by omega), by omega⟩ | (refine ⟨?_, ?_⟩ <;> (rw [wrap64 (by omega) (by omega)]; omega))); conv => whnf) | ((with_reducible first | refine Both.mk ?_ ?_ | refine Any.mk fun b hb => ?_ | refine AskB.dec (fun hb => ?_) (fun hb => ?_) | refine AskB.ndec (fun hb => ?_) (fun hb => ?_) | refine AskB.mk (fun hb => ?_) (fun hb => ?_)) <;> conv => whnf) | ((with_reducible first | refine Run.drawX rfl (by decide +kernel) ?_ | refine Run.drawT rfl (by decide +kernel) ?_ | refine Run.drawW rfl (by decide +kernel) ?_); conv => whnf) | fail)
    refine Run.ifk [1, 2, 3, 8] (fun (_ : Unit) => [(7, .row 1000), (12, .int .i64 (k : Int))]) (fun _ => [(3, .box 25 [tWit.L t.wits, tIL.L t.cols]), (1000, rdM (ensR l k (decide (atC t c i < 0)) (textAt t c i)))]) (fun _ => True) rfl ⟨fun next => ⟨fun hb => ?_, fun hb => ?_⟩, fun _ _ => ?_⟩
    · have hb := of_decide_eq_true hb
      have hke : k = l.length := by omega
      have hee : ensR l k (decide (atC t c i < 0)) (textAt t c i) = l ++ [⟨decide (atC t c i < 0), textAt t c i, []⟩] := if_pos hke
      refine Run.goS false 6 ?_; (conv => whnf); repeat' (first | ((with_reducible refine Know.mk fun _ => ?_); conv => whnf) | ((with_reducible refine Need.mk ?_ ?_); (first | omega | (dsimp only; omega) | decide | exact bytes_le (by rfl) (by omega) | exact ⟨rfl, by omega, bytes_le (by rfl) (by omega), by omega⟩ | (refine ⟨?_, ?_⟩ <;> (rw [wrap64 (by omega) (by omega)]; omega))); conv => whnf) | ((with_reducible first | refine Both.mk ?_ ?_ | refine Any.mk fun b hb => ?_ | refine AskB.dec (fun hb => ?_) (fun hb => ?_) | refine AskB.ndec (fun hb => ?_) (fun hb => ?_) | refine AskB.mk (fun hb => ?_) (fun hb => ?_)) <;> conv => whnf) | ((with_reducible first | refine Run.drawX rfl (by decide +kernel) ?_ | refine Run.drawT rfl (by decide +kernel) ?_ | refine Run.drawW rfl (by decide +kernel) ?_); conv => whnf) | fail)
      refine Run.appendM (d := 87) (id := 1000) (z := 86) (t := 42) (t2 := 42) (e := 47) (sz := 3) (om := 2) (s := .tmp 81) (x := .tmp 86) rfl rfl rfl rfl rfl rfl rfl rfl rfl rfl rfl rfl rfl rfl rfl rfl (by decide) (Nat.le_of_ble_eq_true rfl) ⟨_, rfl, rfl⟩ ?_ ?_
      · show (l.length + 1) * 48 ≤ _
        omega
      refine Run.goS false 6 ?_; (conv => whnf); repeat' (first | ((with_reducible refine Know.mk fun _ => ?_); conv => whnf) | ((with_reducible refine Need.mk ?_ ?_); (first | omega | (dsimp only; omega) | decide | exact bytes_le (by rfl) (by omega) | exact ⟨rfl, by omega, bytes_le (by rfl) (by omega), by omega⟩ | (refine ⟨?_, ?_⟩ <;> (rw [wrap64 (by omega) (by omega)]; omega))); conv => whnf) | ((with_reducible first | refine Both.mk ?_ ?_ | refine Any.mk fun b hb => ?_ | refine AskB.dec (fun hb => ?_) (fun hb => ?_) | refine AskB.ndec (fun hb => ?_) (fun hb => ?_) | refine AskB.mk (fun hb => ?_) (fun hb => ?_)) <;> conv => whnf) | ((with_reducible first | refine Run.drawX rfl (by decide +kernel) ?_ | refine Run.drawT rfl (by decide +kernel) ?_ | refine Run.drawW rfl (by decide +kernel) ?_); conv => whnf) | fail)
      refine Run.holdM 7 1000 (z := 87) rfl rfl rfl ?_
      refine Run.to _ _ ?_ ?_ (next () trivial)
      · exact ⟨Le.refl _, Le.refl _, Le.refl _, Le.refl _, Le.refl _, Le.refl _, trivial⟩
      · refine ⟨MOle.refl _, ?_, trivial⟩
        rw [hee]
        exact rdM_app l _ _ _ (Le.refl _) (Le.refl _)
    · have hb := of_decide_eq_false hb
      have hke : ¬ k = l.length := by omega
      have hee : ensR l k (decide (atC t c i < 0)) (textAt t c i) = l := if_neg hke
      refine Run.goS false 6 ?_; (conv => whnf); repeat' (first | ((with_reducible refine Know.mk fun _ => ?_); conv => whnf) | ((with_reducible refine Need.mk ?_ ?_); (first | omega | (dsimp only; omega) | decide | exact bytes_le (by rfl) (by omega) | exact ⟨rfl, by omega, bytes_le (by rfl) (by omega), by omega⟩ | (refine ⟨?_, ?_⟩ <;> (rw [wrap64 (by omega) (by omega)]; omega))); conv => whnf) | ((with_reducible first | refine Both.mk ?_ ?_ | refine Any.mk fun b hb => ?_ | refine AskB.dec (fun hb => ?_) (fun hb => ?_) | refine AskB.ndec (fun hb => ?_) (fun hb => ?_) | refine AskB.mk (fun hb => ?_) (fun hb => ?_)) <;> conv => whnf) | ((with_reducible first | refine Run.drawX rfl (by decide +kernel) ?_ | refine Run.drawT rfl (by decide +kernel) ?_ | refine Run.drawW rfl (by decide +kernel) ?_); conv => whnf) | fail)
      refine Run.to _ _ ?_ ?_ (next () trivial)
      · exact ⟨Le.refl _, Le.refl _, Le.refl _, Le.refl _, Le.refl _, Le.refl _, trivial⟩
      · refine ⟨MOle.refl _, ?_, trivial⟩
        rw [hee]; exact MOle.refl _
    · have hwn : rdN (ensR l k (decide (atC t c i < 0)) (textAt t c i)) k ≤ i := hewl _ (getD_mem' k hens.1)
      generalize ensR l k (decide (atC t c i < 0)) (textAt t c i) = L at hens hadd hewl hwn ⊢
      have hkL := hens.1
      have hwn2 : rdN L (k : Int).toNat ≤ i := hwn
      refine Run.go ?_; (conv => whnf); repeat' (first | ((with_reducible refine Know.mk fun _ => ?_); conv => whnf) | ((with_reducible refine Need.mk ?_ ?_); (first | omega | (dsimp only; omega) | decide | exact bytes_le (by rfl) (by omega) | exact ⟨rfl, by omega, bytes_le (by rfl) (by omega), by omega⟩ | (refine ⟨?_, ?_⟩ <;> (rw [wrap64 (by omega) (by omega)]; omega))); conv => whnf) | ((with_reducible first | refine Both.mk ?_ ?_ | refine Any.mk fun b hb => ?_ | refine AskB.dec (fun hb => ?_) (fun hb => ?_) | refine AskB.ndec (fun hb => ?_) (fun hb => ?_) | refine AskB.mk (fun hb => ?_) (fun hb => ?_)) <;> conv => whnf) | ((with_reducible first | refine Run.drawX rfl (by decide +kernel) ?_ | refine Run.drawT rfl (by decide +kernel) ?_ | refine Run.drawW rfl (by decide +kernel) ?_); conv => whnf) | fail)
      refine Run.takeM 94 2000 rfl rfl rfl ?_
      refine Run.go ?_; (conv => whnf); repeat' (first | ((with_reducible refine Know.mk fun _ => ?_); conv => whnf) | ((with_reducible refine Need.mk ?_ ?_); (first | omega | (dsimp only; omega) | decide | exact bytes_le (by rfl) (by omega) | exact ⟨rfl, by omega, bytes_le (by rfl) (by omega), by omega⟩ | (refine ⟨?_, ?_⟩ <;> (rw [wrap64 (by omega) (by omega)]; omega))); conv => whnf) | ((with_reducible first | refine Both.mk ?_ ?_ | refine Any.mk fun b hb => ?_ | refine AskB.dec (fun hb => ?_) (fun hb => ?_) | refine AskB.ndec (fun hb => ?_) (fun hb => ?_) | refine AskB.mk (fun hb => ?_) (fun hb => ?_)) <;> conv => whnf) | ((with_reducible first | refine Run.drawX rfl (by decide +kernel) ?_ | refine Run.drawT rfl (by decide +kernel) ?_ | refine Run.drawW rfl (by decide +kernel) ?_); conv => whnf) | fail)
      refine Run.to _ _ ?_ ?_ (IH (i + 1) (by omega) (by omega))
      · exact ⟨Le.refl _, Le.refl _, Le.refl _, Le.refl _, Le.int hwi, trivial⟩
      · refine ⟨MOle.refl _, ?_, trivial⟩
        rw [hadd]
        exact rdM_push L k i hkL _ rfl
  · obtain rfl : i = t.wits.length := by omega
    refine Run.go ?_; (conv => whnf); repeat' (first | ((with_reducible refine Know.mk fun _ => ?_); conv => whnf) | ((with_reducible refine Need.mk ?_ ?_); (first | omega | (dsimp only; omega) | decide | exact bytes_le (by rfl) (by omega) | exact ⟨rfl, by omega, bytes_le (by rfl) (by omega), by omega⟩ | (refine ⟨?_, ?_⟩ <;> (rw [wrap64 (by omega) (by omega)]; omega))); conv => whnf) | ((with_reducible refine Both.mk ?_ ?_) <;> conv => whnf) | ((with_reducible refine Any.mk fun b hb => ?_); conv => whnf) | ((with_reducible first | refine AskB.dec (fun hb => ?_) (fun hb => ?_) | refine AskB.ndec (fun hb => ?_) (fun hb => ?_) | refine AskB.mk (fun hb => ?_) (fun hb => ?_)) <;> first | (exfalso; omega) | (conv => whnf)) | ((with_reducible first | refine Run.drawX rfl (by decide +kernel) ?_ | refine Run.drawT rfl (by decide +kernel) ?_ | refine Run.drawW rfl (by decide +kernel) ?_); conv => whnf) | fail)
    all_goals try (exfalso; omega)
    refine Run.leave (ts := [6]) (.inr ⟨_, rfl⟩) rfl Tryd.func41 rfl (rdM_out _)
end Go.Proofs.YtnadacaoehpdnaaDoor.V

