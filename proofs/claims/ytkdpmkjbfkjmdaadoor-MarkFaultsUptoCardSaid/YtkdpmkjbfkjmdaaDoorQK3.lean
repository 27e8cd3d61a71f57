/-
The texts BKc, VS, BKd, BKe, BKf, BKg, BKh, BKi, BKj, BKk, BKl, BKp, BKq, BKm, BKn, BKr, BKs, BKt, BKu, of each what the law needs.
-/
import Derived.Test.YtkdpmkjbfkjmdaaDoorQK2
namespace Go.Proofs.YtkdpmkjbfkjmdaaDoor.V
set_option linter.unusedVariables false
set_option linter.unusedSimpArgs false
open Go Go.Proofs Go.RowKit
set_option maxRecDepth 100000
set_option maxHeartbeats 1000000
theorem wb3 {N : Nat} {w0 : World} {S : Nat → Prop} {gl : GlobOk S w0} {f : FuncId} {R : Ending → World → Prop} {kp : Kept} {ops : Array Oper} {i : Nat} {rest : List Nat} {k : List Item} {env : Env} {h : Heap} {o : Oper} {x y : Operand}
    (p : AV) (t : ByteArray) (u : UInt8) (ho : ops.toList[i]? = some o) (hc : calls? o = some (26, [x, y])) (hd : okD ⟨Tryd.prog, TB, tbOk, N, w0, S, gl, f, R, kp⟩ o.dst = true) (hr : ready env ops o = true) (hx : ev (scrubE 900 env) x = .box 3 0) (hy : ev (scrubE 900 env) y = .int .u8 (u.toNat : Int))
    (hs : t.size + 1 ≤ 34359738368) (hp : p = .nilp ∨ p = .box 3 0)
    (next : Run ⟨Tryd.prog, TB, tbOk, N, w0, S, gl, f, R, kp⟩ (.inRegion ops rest :: k) (putE (envB 90 env) o.dst .u) (bldr 60 5 3 90 (heapB 90 h) (.box 3 0) (t ++ ⟨#[u]⟩))) :
    Run ⟨Tryd.prog, TB, tbOk, N, w0, S, gl, f, R, kp⟩ (.inRegion ops (i :: rest) :: k) env (bldr 60 5 3 90 h p t) := by
  refine Run.inline 900 Tryd.f26 _ 17 ho hc Tryd.func26 rfl (by decide) rfl (by show 2 ≤ 17; decide) hd hr (fun a hsz hdf => ?_)
  simp only [List.map, hx, hy]
  have fin : ∀ (E : Env) (H : Heap) (X : AV), (∀ i, E i = scrub 14 (scrub 13 (scrub 901 (scrub 900 (env i))))) → (∀ id, Nat.beq id 3 = false → Nat.beq id 90 = false → Nat.beq id 14 = false → Nat.beq id 13 = false → Nat.beq id 901 = false → Nat.beq id 900 = false → H id = scrubM 90 (scrubM 14 (scrubM 13 (scrubM 901 (scrubM 900 (h id)))))) →
      MOle (H 3) (.box 60 [.box 3 0, .row 90]) → MOle (H 90) (.row 5 1 (t ++ ⟨#[u]⟩).size (bytesG (t ++ ⟨#[u]⟩))) → Run ⟨Tryd.prog, TB, tbOk, N, w0, S, gl, f, R, kp⟩ (.inRegion ops rest :: k) (scrubE 90 (putE E o.dst X)) H := by
    intro E H X hE hH h5 h90
    refine Run.weaken (fun i => ?_) (fun id => ?_) next
    · cases hdst : o.dst with
      | none => show Le (scrub 90 (E i)) _; rw [hE]; exact Le.refl _
      | some d =>
        show Le (scrub 90 (upd E d X i)) (upd (envB 90 env) d .u i)
        by_cases e : i = d
        · subst e; rw [upd_same, upd_same]; exact Le.u _
        · rw [upd_other _ _ e, upd_other _ _ e, hE]; exact Le.refl _
    · unfold bldr heapB
      cases e5 : Nat.beq id 3 with
      | true => have := Nat.eq_of_beq_eq_true e5; subst this; exact h5
      | false =>
      cases e90 : Nat.beq id 90 with
      | true => have := Nat.eq_of_beq_eq_true e90; subst this; exact h90
      | false =>
      cases e900 : Nat.beq id 900 with
      | true => simp only [upd, e5, e90, e900, cond_true, cond_false]; exact mole_dead _
      | false =>
      cases e901 : Nat.beq id 901 with
      | true => simp only [upd, e5, e90, e900, e901, cond_true, cond_false]; exact mole_dead _
      | false =>
      cases e13 : Nat.beq id 13 with
      | true => simp only [upd, e5, e90, e900, e901, e13, cond_true, cond_false]; exact mole_dead _
      | false =>
      cases e14 : Nat.beq id 14 with
      | true => simp only [upd, e5, e90, e900, e901, e13, e14, cond_true, cond_false]; exact mole_dead _
      | false =>
        rw [hH id e5 e90 e14 e13 e901 e900]
        simp only [upd, e5, e90, e900, e901, e13, e14, cond_true, cond_false]
        exact MOle.refl _
  rcases hp with rfl | rfl
  · refine Run.go ?_; (conv => whnf); repeat' (first | ((with_reducible refine Know.mk fun _ => ?_); conv => whnf) | ((with_reducible refine Need.mk ?_ ?_); exact nd; conv => whnf) | ((with_reducible first | refine Both.mk ?_ ?_ | refine Any.mk fun b hb => ?_ | refine AskB.dec (fun hb => ?_) (fun hb => ?_) | refine AskB.ndec (fun hb => ?_) (fun hb => ?_) | refine AskB.mk (fun hb => ?_) (fun hb => ?_)) <;> conv => whnf) | ((with_reducible first | refine Run.drawX rfl (by decide +kernel) ?_ | refine Run.drawT rfl (by decide +kernel) ?_ | refine Run.drawW rfl (by decide +kernel) ?_); conv => whnf) | fail)
    refine Run.inline 901 Tryd.f43 _ 20 rfl rfl Tryd.func43 rfl (by decide) rfl (by decide) rfl rfl (fun a2 hsz2 hdf2 => ?_)
    refine Run.go ?_; (conv => whnf); repeat' (first | ((with_reducible refine Know.mk fun _ => ?_); conv => whnf) | ((with_reducible refine Need.mk ?_ ?_); exact nd; conv => whnf) | ((with_reducible first | refine Both.mk ?_ ?_ | refine Any.mk fun b hb => ?_ | refine AskB.dec (fun hb => ?_) (fun hb => ?_) | refine AskB.ndec (fun hb => ?_) (fun hb => ?_) | refine AskB.mk (fun hb => ?_) (fun hb => ?_)) <;> conv => whnf) | ((with_reducible first | refine Run.drawX rfl (by decide +kernel) ?_ | refine Run.drawT rfl (by decide +kernel) ?_ | refine Run.drawW rfl (by decide +kernel) ?_); conv => whnf) | fail)
    refine Run.toUnsafe (id := 3) (l := [.nilp, .row 90]) (e := 60) (t := 60) (src := 57) (dst := 81) (x := .tmp 8) rfl rfl rfl rfl rfl rfl (by decide) (by kernel_rfl) (by kernel_rfl) (j := (Tryd.prog.info? 60).get (by kernel_rfl)) (by kernel_rfl) (by decide +kernel) ?_
    refine Run.noEscape (f := 50) (x := .tmp 9) rfl rfl rfl rfl Tryd.func50 (by kernel_rfl) (by kernel_rfl) (by kernel_rfl) (by kernel_rfl) ?_
    refine Run.fromUnsafe (id := 3) (l := [.nilp, .row 90]) (e := 60) (u := 60) (src := 81) (dst := 57) (x := .tmp 10) rfl rfl rfl rfl rfl rfl (by kernel_rfl) (by kernel_rfl) (j := (Tryd.prog.info? 60).get (by kernel_rfl)) (by kernel_rfl) (by kernel_rfl) ?_
    refine Run.go ?_; (conv => whnf); repeat' (first | ((with_reducible refine Know.mk fun _ => ?_); conv => whnf) | ((with_reducible refine Need.mk ?_ ?_); exact nd; conv => whnf) | ((with_reducible first | refine Both.mk ?_ ?_ | refine Any.mk fun b hb => ?_ | refine AskB.dec (fun hb => ?_) (fun hb => ?_) | refine AskB.ndec (fun hb => ?_) (fun hb => ?_) | refine AskB.mk (fun hb => ?_) (fun hb => ?_)) <;> conv => whnf) | ((with_reducible first | refine Run.drawX rfl (by decide +kernel) ?_ | refine Run.drawT rfl (by decide +kernel) ?_ | refine Run.drawW rfl (by decide +kernel) ?_); conv => whnf) | fail)
    refine Run.back 901 (ts := []) hsz2 hdf2 (.inl rfl) (by rfl) Tryd.func43 rfl ?_
    refine Run.go ?_; (conv => whnf); repeat' (first | ((with_reducible refine Know.mk fun _ => ?_); conv => whnf) | ((with_reducible refine Need.mk ?_ ?_); exact nd; conv => whnf) | ((with_reducible first | refine Both.mk ?_ ?_ | refine Any.mk fun b hb => ?_ | refine AskB.dec (fun hb => ?_) (fun hb => ?_) | refine AskB.ndec (fun hb => ?_) (fun hb => ?_) | refine AskB.mk (fun hb => ?_) (fun hb => ?_)) <;> conv => whnf) | ((with_reducible first | refine Run.drawX rfl (by decide +kernel) ?_ | refine Run.drawT rfl (by decide +kernel) ?_ | refine Run.drawW rfl (by decide +kernel) ?_); conv => whnf) | fail)
    refine Run.back 900 (ts := [4]) hsz hdf (.inr ⟨_, rfl⟩) (by rfl) Tryd.func26 rfl ?_
    refine Run.holdBoxRow 3 1 90 14 (by rfl) (by rfl) (by rfl) rfl rfl rfl ?_
    refine fin _ _ _ (fun i => rfl) (fun id e5 e90 e14 e13 e901 e900 => ?_) (MOle.refl _) (bytesG_push 5 t u _ rfl)
    simp only [upd, scrubH, scrubM, bldr, e5, e90, e14, e13, e901, e900, cond_false]
  · refine Run.go ?_; (conv => whnf); repeat' (first | ((with_reducible refine Know.mk fun _ => ?_); conv => whnf) | ((with_reducible refine Need.mk ?_ ?_); exact nd; conv => whnf) | ((with_reducible first | refine Both.mk ?_ ?_ | refine Any.mk fun b hb => ?_ | refine AskB.dec (fun hb => ?_) (fun hb => ?_) | refine AskB.ndec (fun hb => ?_) (fun hb => ?_) | refine AskB.mk (fun hb => ?_) (fun hb => ?_)) <;> conv => whnf) | ((with_reducible first | refine Run.drawX rfl (by decide +kernel) ?_ | refine Run.drawT rfl (by decide +kernel) ?_ | refine Run.drawW rfl (by decide +kernel) ?_); conv => whnf) | fail)
    refine Run.inline 901 Tryd.f43 _ 20 rfl rfl Tryd.func43 rfl (by decide) rfl (by decide) rfl rfl (fun a2 hsz2 hdf2 => ?_)
    refine Run.go ?_; (conv => whnf); repeat' (first | ((with_reducible refine Know.mk fun _ => ?_); conv => whnf) | ((with_reducible refine Need.mk ?_ ?_); exact nd; conv => whnf) | ((with_reducible first | refine Both.mk ?_ ?_ | refine Any.mk fun b hb => ?_ | refine AskB.dec (fun hb => ?_) (fun hb => ?_) | refine AskB.ndec (fun hb => ?_) (fun hb => ?_) | refine AskB.mk (fun hb => ?_) (fun hb => ?_)) <;> conv => whnf) | ((with_reducible first | refine Run.drawX rfl (by decide +kernel) ?_ | refine Run.drawT rfl (by decide +kernel) ?_ | refine Run.drawW rfl (by decide +kernel) ?_); conv => whnf) | fail)
    refine Run.back 901 (ts := []) hsz2 hdf2 (.inl rfl) (by rfl) Tryd.func43 rfl ?_
    refine Run.go ?_; (conv => whnf); repeat' (first | ((with_reducible refine Know.mk fun _ => ?_); conv => whnf) | ((with_reducible refine Need.mk ?_ ?_); exact nd; conv => whnf) | ((with_reducible first | refine Both.mk ?_ ?_ | refine Any.mk fun b hb => ?_ | refine AskB.dec (fun hb => ?_) (fun hb => ?_) | refine AskB.ndec (fun hb => ?_) (fun hb => ?_) | refine AskB.mk (fun hb => ?_) (fun hb => ?_)) <;> conv => whnf) | ((with_reducible first | refine Run.drawX rfl (by decide +kernel) ?_ | refine Run.drawT rfl (by decide +kernel) ?_ | refine Run.drawW rfl (by decide +kernel) ?_); conv => whnf) | fail)
    refine Run.back 900 (ts := [4]) hsz hdf (.inr ⟨_, rfl⟩) (by rfl) Tryd.func26 rfl ?_
    refine Run.holdBoxRow 3 1 90 14 (by rfl) (by rfl) (by rfl) rfl rfl rfl ?_
    refine fin _ _ _ (fun i => rfl) (fun id e5 e90 e14 e13 e901 e900 => ?_) (MOle.refl _) (bytesG_push 5 t u _ rfl)
    simp only [upd, scrubH, scrubM, bldr, e5, e90, e14, e13, e901, e900, cond_false]

theorem bs3 {N : Nat} {w0 : World} {S : Nat → Prop} {gl : GlobOk S w0} {f : FuncId} {R : Ending → World → Prop} {kp : Kept} {ops : Array Oper} {i : Nat} {rest : List Nat} {k : List Item} {env : Env} {h : Heap} {o : Oper} {x : Operand}
    (p : AV) (t : ByteArray) (ho : ops.toList[i]? = some o) (hc : calls? o = some (27, [x])) (hd : okD ⟨Tryd.prog, TB, tbOk, N, w0, S, gl, f, R, kp⟩ o.dst = true) (hr : ready env ops o = true) (hx : ev (scrubE 900 env) x = .box 3 0)
    (next : Run ⟨Tryd.prog, TB, tbOk, N, w0, S, gl, f, R, kp⟩ (.inRegion ops rest :: k) (putE (scrubE 900 env) o.dst (.str t)) (upd (upd (upd (scrubH 900 h) 900 .dead) 3 .dead) 90 .dead)) :
    Run ⟨Tryd.prog, TB, tbOk, N, w0, S, gl, f, R, kp⟩ (.inRegion ops (i :: rest) :: k) env (bldr 60 5 3 90 h p t) := by
  refine Run.inline 900 Tryd.f27 _ 14 ho hc Tryd.func27 rfl (by decide) rfl (by show 1 ≤ 14; decide) hd hr (fun a hsz hdf => ?_)
  simp only [List.map, hx]
  have fin : ∀ (H : Heap), (∀ id, Nat.beq id 3 = false → Nat.beq id 90 = false → Nat.beq id 900 = false → H id = scrubM 900 (h id)) →
      Run ⟨Tryd.prog, TB, tbOk, N, w0, S, gl, f, R, kp⟩ (.inRegion ops rest :: k) (putE (scrubE 900 env) o.dst (.str t)) H := by
    intro H hH
    refine Run.weaken (fun i => Le.refl _) (fun id => ?_) next
    cases e5 : Nat.beq id 3 with
    | true => simp only [upd, e5, cond_true, cond_false]; cases Nat.beq id 90 <;> exact mole_dead _
    | false =>
    cases e90 : Nat.beq id 90 with
    | true => simp only [upd, e5, e90, cond_true, cond_false]; exact mole_dead _
    | false =>
    cases e900 : Nat.beq id 900 with
    | true => simp only [upd, e5, e90, e900, cond_true, cond_false]; exact mole_dead _
    | false =>
      rw [hH id e5 e90 e900]
      simp only [upd, e5, e90, e900, cond_true, cond_false]
      exact MOle.refl _
  refine Run.go ?_; (conv => whnf); repeat' (first | ((with_reducible refine Know.mk fun _ => ?_); conv => whnf) | ((with_reducible refine Need.mk ?_ ?_); exact nd; conv => whnf) | ((with_reducible first | refine Both.mk ?_ ?_ | refine Any.mk fun b hb => ?_ | refine AskB.dec (fun hb => ?_) (fun hb => ?_) | refine AskB.ndec (fun hb => ?_) (fun hb => ?_) | refine AskB.mk (fun hb => ?_) (fun hb => ?_)) <;> conv => whnf) | ((with_reducible first | refine Run.drawX rfl (by decide +kernel) ?_ | refine Run.drawT rfl (by decide +kernel) ?_ | refine Run.drawW rfl (by decide +kernel) ?_); conv => whnf) | fail)
  · refine Run.unsafeString0 (i := 10) (rest := [11]) (k := [.code .ret]) (x := .tmp 7) (y := .tmp 12) (c := ⟨.builtin .unsafeString, #[.tmp 7, .tmp 12], #[77, 3]⟩) rfl rfl rfl rfl rfl rfl rfl (.inl rfl) (by show AV.int .i64 (t.size : Int) = _; rw [hb]; rfl) ?_
    have ht : t = .empty := by simpa using hb
    refine Run.go ?_; (conv => whnf); repeat' (first | ((with_reducible refine Know.mk fun _ => ?_); conv => whnf) | ((with_reducible refine Need.mk ?_ ?_); exact nd; conv => whnf) | ((with_reducible first | refine Both.mk ?_ ?_ | refine Any.mk fun b hb => ?_ | refine AskB.dec (fun hb => ?_) (fun hb => ?_) | refine AskB.ndec (fun hb => ?_) (fun hb => ?_) | refine AskB.mk (fun hb => ?_) (fun hb => ?_)) <;> conv => whnf) | ((with_reducible first | refine Run.drawX rfl (by decide +kernel) ?_ | refine Run.drawT rfl (by decide +kernel) ?_ | refine Run.drawW rfl (by decide +kernel) ?_); conv => whnf) | fail)
    refine Run.back 900 (ts := [2]) hsz hdf (.inr ⟨_, rfl⟩) (by rfl) Tryd.func27 rfl ?_
    rw [ht] at fin next ⊢
    exact fin _ (fun id e5 e90 e900 => by simp only [upd, scrubH, bldr, e5, e90, e900, cond_false])
  · refine Run.unsafeString (i := 10) (rest := [11]) (k := [.code .ret]) (x := .tmp 7) (y := .tmp 12) (c := ⟨.builtin .unsafeString, #[.tmp 7, .tmp 12], #[77, 3]⟩) t rfl rfl rfl rfl rfl rfl rfl rfl rfl (e := 5) (n := t.size) (q := 90) (get := bytesG t) rfl rfl hb (fun _ _ => rfl) (by kernel_rfl) (by kernel_rfl) ?_
    refine Run.go ?_; (conv => whnf); repeat' (first | ((with_reducible refine Know.mk fun _ => ?_); conv => whnf) | ((with_reducible refine Need.mk ?_ ?_); exact nd; conv => whnf) | ((with_reducible first | refine Both.mk ?_ ?_ | refine Any.mk fun b hb => ?_ | refine AskB.dec (fun hb => ?_) (fun hb => ?_) | refine AskB.ndec (fun hb => ?_) (fun hb => ?_) | refine AskB.mk (fun hb => ?_) (fun hb => ?_)) <;> conv => whnf) | ((with_reducible first | refine Run.drawX rfl (by decide +kernel) ?_ | refine Run.drawT rfl (by decide +kernel) ?_ | refine Run.drawW rfl (by decide +kernel) ?_); conv => whnf) | fail)
    refine Run.back 900 (ts := [2]) hsz hdf (.inr ⟨_, rfl⟩) (by rfl) Tryd.func27 rfl ?_
    exact fin _ (fun id e5 e90 e900 => by simp only [upd, scrubH, bldr, e5, e90, e900, cond_false])
theorem isMark_fn (c : UInt8) : Fn Tryd.prog 25 [.int .u8 (c.toNat : Int)] (.bool (isMk c)) := by
  refine Fn.of Tryd.f25 _ Tryd.func25 rfl (by decide) (by show 1 ≤ _; decide) tbOk 6 rfl fun S w0 gl => ?_
  refine Run.go ?_; (conv => whnf); repeat' (first | ((with_reducible refine Know.mk fun _ => ?_); conv => whnf) | ((with_reducible refine Need.mk ?_ ?_); exact nd; conv => whnf) | ((with_reducible first | refine Both.mk ?_ ?_ | refine Any.mk fun b hb => ?_ | refine AskB.dec (fun hb => ?_) (fun hb => ?_) | refine AskB.ndec (fun hb => ?_) (fun hb => ?_) | refine AskB.mk (fun hb => ?_) (fun hb => ?_)) <;> conv => whnf) | ((with_reducible first | refine Run.drawX rfl (by decide +kernel) ?_ | refine Run.drawT rfl (by decide +kernel) ?_ | refine Run.drawW rfl (by decide +kernel) ?_); conv => whnf) | fail)
  refine Run.callBX (ib47_fn marksL _) rfl rfl ⟨Le.refl _, Le.refl _, trivial⟩ rfl rfl rfl ?_
  (conv => whnf); repeat' (first | ((with_reducible refine Know.mk fun _ => ?_); conv => whnf) | ((with_reducible refine Need.mk ?_ ?_); exact nd; conv => whnf) | ((with_reducible first | refine Both.mk ?_ ?_ | refine Any.mk fun b hb => ?_ | refine AskB.dec (fun hb => ?_) (fun hb => ?_) | refine AskB.ndec (fun hb => ?_) (fun hb => ?_) | refine AskB.mk (fun hb => ?_) (fun hb => ?_)) <;> conv => whnf) | ((with_reducible first | refine Run.drawX rfl (by decide +kernel) ?_ | refine Run.drawT rfl (by decide +kernel) ?_ | refine Run.drawW rfl (by decide +kernel) ?_); conv => whnf) | fail)
  refine Run.leave (ts := [2]) (.inr ⟨_, rfl⟩) rfl Tryd.func25 rfl (Le.bool ?_)
  rw [← isMk_ge, Int.toNat_natCast, Nat.toUInt8, u8_ofNat]
def CR.n (l : List UInt8) : CR → Nat
  | .bad k => l.length - k
  | .ok t r => l.length - r.length
def CR.res (l : List UInt8) : CR → Res
  | .bad k => .pan (flt (l.length - k))
  | .ok t r => .ret (.str (bs t))
theorem drop_get (l : List UInt8) (i : Nat) (h : i < l.length) : l.drop i = l.getD i 0 :: l.drop (i + 1) := drop_at l i 0 h
theorem u8_eq {x : Int} {c : UInt8} {n : Nat} (h : x = (c.toNat : Int)) (h2 : x = (n : Int)) (hn : n < 256) : c = UInt8.ofNat n := by
  have h3 : c.toNat = n := by omega
  rw [← h3, u8_ofNat]
theorem u8_ne {x : Int} {c : UInt8} {n : Nat} (h : x = (c.toNat : Int)) (h2 : ¬ x = (n : Int)) (hn : n < 256) : c ≠ UInt8.ofNat n := by
  intro e
  apply h2
  rw [h, e, UInt8.toNat_ofNat']
  rw [Nat.mod_eq_of_lt hn]
theorem hR_bad {S : Nat → Prop} {w : World} {g : Nat} {t : TypeId} {l : List UInt8} {x : CR} {k n : Nat} (h : x = .bad k) (hn : l.length - k = n) : PostM S w g t (stA l (x.n l)) (x.res l) = PostM S w g t (stA l n) (.pan (flt n)) := by
  subst h; subst hn; rfl
theorem hR_ok {S : Nat → Prop} {w : World} {g : Nat} {t : TypeId} {l t' r : List UInt8} {x : CR} {n : Nat} (h : x = .ok t' r) (hn : l.length - r.length = n) : PostM S w g t (stA l (x.n l)) (x.res l) = PostM S w g t (stA l n) (.ret (.str (bs t'))) := by
  subst h; subst hn; rfl
theorem said_fn (l : List UInt8) (i0 : Nat) (h0 : i0 ≤ l.length) (hl : l.length ≤ 65536) : FnM Tryd.prog 41 51 (stA l i0) [] (stA l ((cont (l.drop i0)).n l)) ((cont (l.drop i0)).res l) := by
  refine FnM.of Tryd.f41 _ Tryd.func41 rfl (by decide) (by show 1 ≤ _; decide) tbOk 79 rfl fun S w g gl hg => ?_
  have hs := bs_size l
  refine Run.go ?_; (conv => whnf); repeat' (first | ((with_reducible refine Know.mk fun _ => ?_); conv => whnf) | ((with_reducible refine Need.mk ?_ ?_); exact nd; conv => whnf) | ((with_reducible first | refine Both.mk ?_ ?_ | refine Any.mk fun b hb => ?_ | refine AskB.dec (fun hb => ?_) (fun hb => ?_) | refine AskB.ndec (fun hb => ?_) (fun hb => ?_) | refine AskB.mk (fun hb => ?_) (fun hb => ?_)) <;> conv => whnf) | ((with_reducible first | refine Run.drawX rfl (by decide +kernel) ?_ | refine Run.drawT rfl (by decide +kernel) ?_ | refine Run.drawW rfl (by decide +kernel) ?_); conv => whnf) | fail)
  refine Run.holdBoxNil 3 1 90 5 1 (bytesG .empty) rfl rfl rfl rfl ?_
  refine Run.loop [0, 3] (fun (a : Nat × AV × List UInt8) => []) (fun a => [(300, .box 51 (stA l a.1)), (301, .raw w (g + 1) w.heap.size), (3, .box 60 [a.2.1, .row 90]), (90, .row 5 1 (bs a.2.2).size (bytesG (bs a.2.2)))]) (fun a => a.1 ≤ l.length ∧ (a.2.1 = .nilp ∨ a.2.1 = .box 3 0) ∧ (cont (l.drop a.1)).app a.2.2 = cont (l.drop i0) ∧ a.2.2.length ≤ a.1) (fun a => l.length - a.1) (i0, .nilp, []) ⟨h0, .inl rfl, CR.app_nil _, Nat.zero_le _⟩ (by trivial) ⟨MOle.refl _, MOle.refl _, MOle.refl _, MOle.refl _, trivial⟩ ?_
  intro ⟨i, p, b⟩ ⟨hi, hp, hc, hbi⟩ IH
  simp only [] at hi hp hc hbi ⊢
  have hbs := bs_size b
  have hw1 : IntKind.i64.wrap ((i : Int) + 1) = ((i + 1 : Nat) : Int) := wrap64 (by omega) (by omega)
  by_cases hil : i < l.length
  · have hdi := drop_get l i hil
    have hci : bt (bs l) (i : Int).toNat = ((l.getD i 0).toNat : Int) := bt_at l i
    have hdi1 : i + 1 < l.length → bt (bs l) (IntKind.i64.wrap ((i : Int) + 1)).toNat = ((l.getD (i + 1) 0).toNat : Int) := fun _ => by rw [hw1]; exact bt_at l (i + 1)
    refine Run.go ?_; (conv => whnf); repeat' (first | ((with_reducible refine Know.mk fun _ => ?_); conv => whnf) | ((with_reducible refine Need.mk ?_ ?_); exact nd; conv => whnf) | ((with_reducible first | refine Both.mk ?_ ?_ | refine Any.mk fun b hb => ?_ | refine AskB.dec (fun hb => ?_) (fun hb => ?_) | refine AskB.ndec (fun hb => ?_) (fun hb => ?_) | refine AskB.mk (fun hb => ?_) (fun hb => ?_)) <;> conv => whnf) | ((with_reducible first | refine Run.drawX rfl (by decide +kernel) ?_ | refine Run.drawT rfl (by decide +kernel) ?_ | refine Run.drawW rfl (by decide +kernel) ?_); conv => whnf) | fail)
    · have hcc : l.getD i 0 = 92 := u8_eq hci (n := 92) (by assumption) (by decide)
      have hk : cont (l.drop i0) = .bad 0 := by
        rw [← hc, hdi, hcc, show l.drop (i + 1) = [] from List.drop_of_length_le (by omega), cont_end]; rfl
      refine Run.callMP 300 (fail_fn l (i + 1)) rfl rfl rfl (st_le hw1) rfl (by trivial) rfl rfl ?_
      apply Raises.lent (hw0 := by rfl) (hkeep := by rfl) (henv := by rfl) (hraw := by rfl) (hg := hg) (hf := Tryd.func41)
      · exact hR_bad hk (by omega)
      · exact MOle.refl _
      · rfl
    · have hcc : l.getD i 0 = 92 := u8_eq hci (n := 92) (by assumption) (by decide)
      have hi1 : i + 1 < l.length := by omega
      refine CallQ.flat (isMark_fn (l.getD (i + 1) 0)) rfl ⟨Le.int (hdi1 hi1), trivial⟩ rfl ?_
      (conv => whnf); repeat' (first | ((with_reducible refine Know.mk fun _ => ?_); conv => whnf) | ((with_reducible refine Need.mk ?_ ?_); exact nd; conv => whnf) | ((with_reducible first | refine Both.mk ?_ ?_ | refine Any.mk fun b hb => ?_ | refine AskB.dec (fun hb => ?_) (fun hb => ?_) | refine AskB.ndec (fun hb => ?_) (fun hb => ?_) | refine AskB.mk (fun hb => ?_) (fun hb => ?_)) <;> conv => whnf) | ((with_reducible first | refine Run.drawX rfl (by decide +kernel) ?_ | refine Run.drawT rfl (by decide +kernel) ?_ | refine Run.drawW rfl (by decide +kernel) ?_); conv => whnf) | fail)
      · have hd : ¬ isMk (l.getD (i + 1) 0) = true := by
          have : (!isMk (l.getD (i + 1) 0)) = true := by assumption
          simpa using this
        have hk : cont (l.drop i0) = .bad (l.drop (i + 2)).length.succ := by
          rw [← hc, hdi, hcc, drop_get l (i + 1) hi1, cont_bad _ hd]; rfl
        refine Run.callMP 300 (fail_fn l (i + 1)) rfl rfl rfl (st_le hw1) rfl (by trivial) rfl rfl ?_
        apply Raises.lent (hw0 := by rfl) (hkeep := by rfl) (henv := by rfl) (hraw := by rfl) (hg := hg) (hf := Tryd.func41)
        · exact hR_bad hk (by rw [List.length_drop]; omega)
        · exact MOle.refl _
        · rfl
      · have hd : isMk (l.getD (i + 1) 0) = true := by
          have : (!isMk (l.getD (i + 1) 0)) = false := by assumption
          simpa using this
        have hk : (cont (l.drop (i + 2))).app (b ++ [l.getD (i + 1) 0]) = cont (l.drop i0) := by
          rw [← hc, hdi, hcc, drop_get l (i + 1) hi1, cont_esc _ hd, CR.app_push]
        have hw2 : IntKind.i64.wrap (IntKind.i64.wrap ((i : Int) + 1) + 1) = ((i + 2 : Nat) : Int) := by rw [hw1]; exact wrap64 (by omega) (by omega)
        refine Run.bldr 60 5 3 90 p (bs b) (MOle.refl _) (MOle.refl _) ?_
        refine wb3 p _ (l.getD (i + 1) 0) rfl rfl rfl rfl rfl ?_ (by omega) hp ?_
        · show AV.int .u8 (bt (bs l) (IntKind.i64.wrap ((i : Int) + 1)).toNat) = _
          rw [hdi1 hi1]
        refine Run.tidy [0, 3] [300, 301, 3, 90] ?_; (conv => whnf)
        refine Run.go ?_; (conv => whnf); repeat' (first | ((with_reducible refine Know.mk fun _ => ?_); conv => whnf) | ((with_reducible refine Need.mk ?_ ?_); exact nd; conv => whnf) | ((with_reducible first | refine Both.mk ?_ ?_ | refine Any.mk fun b hb => ?_ | refine AskB.dec (fun hb => ?_) (fun hb => ?_) | refine AskB.ndec (fun hb => ?_) (fun hb => ?_) | refine AskB.mk (fun hb => ?_) (fun hb => ?_)) <;> conv => whnf) | ((with_reducible first | refine Run.drawX rfl (by decide +kernel) ?_ | refine Run.drawT rfl (by decide +kernel) ?_ | refine Run.drawW rfl (by decide +kernel) ?_); conv => whnf) | fail)
        refine Run.to _ _ ?_ ?_ (IH (i + 2, .box 3 0, b ++ [l.getD (i + 1) 0]) (by simp only []; omega) ⟨by simp only []; omega, .inr rfl, hk, by simp; omega⟩)
        · exact ⟨Le.refl _, Le.refl _, trivial⟩
        · refine ⟨st_le hw2, MOle.refl _, MOle.refl _, ?_, trivial⟩
          rw [← bs_push]
          exact MOle.refl _
    · refine Run.callBX (isMark_fn (l.getD i 0)) rfl rfl ⟨Le.int hci, trivial⟩ rfl rfl rfl ?_
      (conv => whnf); repeat' (first | ((with_reducible refine Know.mk fun _ => ?_); conv => whnf) | ((with_reducible refine Need.mk ?_ ?_); exact nd; conv => whnf) | ((with_reducible first | refine Both.mk ?_ ?_ | refine Any.mk fun b hb => ?_ | refine AskB.dec (fun hb => ?_) (fun hb => ?_) | refine AskB.ndec (fun hb => ?_) (fun hb => ?_) | refine AskB.mk (fun hb => ?_) (fun hb => ?_)) <;> conv => whnf) | ((with_reducible first | refine Run.drawX rfl (by decide +kernel) ?_ | refine Run.drawT rfl (by decide +kernel) ?_ | refine Run.drawW rfl (by decide +kernel) ?_); conv => whnf) | fail)
      · have hm : isMk (l.getD i 0) = true := by assumption
        have hne : l.getD i 0 ≠ 92 := u8_ne hci (n := 92) (by assumption) (by decide)
        have hk : cont (l.drop i0) = .ok b (l.drop i) := by
          rw [← hc, hdi, cont_stop _ hne hm]
          simp [CR.app]
        refine Run.bldr 60 5 3 90 p (bs b) (MOle.refl _) (MOle.refl _) ?_
        refine bs3 p _ rfl rfl rfl rfl rfl ?_
        refine Run.go ?_; (conv => whnf); repeat' (first | ((with_reducible refine Know.mk fun _ => ?_); conv => whnf) | ((with_reducible refine Need.mk ?_ ?_); exact nd; conv => whnf) | ((with_reducible first | refine Both.mk ?_ ?_ | refine Any.mk fun b hb => ?_ | refine AskB.dec (fun hb => ?_) (fun hb => ?_) | refine AskB.ndec (fun hb => ?_) (fun hb => ?_) | refine AskB.mk (fun hb => ?_) (fun hb => ?_)) <;> conv => whnf) | ((with_reducible first | refine Run.drawX rfl (by decide +kernel) ?_ | refine Run.drawT rfl (by decide +kernel) ?_ | refine Run.drawW rfl (by decide +kernel) ?_); conv => whnf) | fail)
        apply Run.leaveM (ts := [2]) (hk := by first | exact .inr ⟨_, rfl⟩ | exact .inl rfl) (hw0 := by rfl) (hkeep := by rfl) (henv := by rfl) (hraw := by rfl) (hg := hg) (hf := Tryd.func41) (hres := by rfl)
        · exact hR_ok (n := i) hk (by rw [List.length_drop]; omega)
        · exact MOle.refl _
        · rfl
        · exact Le.refl _
      · have hm : ¬ isMk (l.getD i 0) = true := by
          have : isMk (l.getD i 0) = false := by assumption
          rw [this]; decide
        have hk : (cont (l.drop (i + 1))).app (b ++ [l.getD i 0]) = cont (l.drop i0) := by
          rw [← hc, hdi, cont_plain _ hm, CR.app_push]
        refine Run.bldr 60 5 3 90 p (bs b) (MOle.refl _) (MOle.refl _) ?_
        refine wb3 p _ (l.getD i 0) rfl rfl rfl rfl rfl ?_ (by omega) hp ?_
        · show AV.int .u8 (bt (bs l) (i : Int).toNat) = _
          rw [hci]
        refine Run.tidy [0, 3] [300, 301, 3, 90] ?_; (conv => whnf)
        refine Run.go ?_; (conv => whnf); repeat' (first | ((with_reducible refine Know.mk fun _ => ?_); conv => whnf) | ((with_reducible refine Need.mk ?_ ?_); exact nd; conv => whnf) | ((with_reducible first | refine Both.mk ?_ ?_ | refine Any.mk fun b hb => ?_ | refine AskB.dec (fun hb => ?_) (fun hb => ?_) | refine AskB.ndec (fun hb => ?_) (fun hb => ?_) | refine AskB.mk (fun hb => ?_) (fun hb => ?_)) <;> conv => whnf) | ((with_reducible first | refine Run.drawX rfl (by decide +kernel) ?_ | refine Run.drawT rfl (by decide +kernel) ?_ | refine Run.drawW rfl (by decide +kernel) ?_); conv => whnf) | fail)
        refine Run.to _ _ ?_ ?_ (IH (i + 1, .box 3 0, b ++ [l.getD i 0]) (by simp only []; omega) ⟨by simp only []; omega, .inr rfl, hk, by simp; omega⟩)
        · exact ⟨Le.refl _, Le.refl _, trivial⟩
        · refine ⟨st_le hw1, MOle.refl _, MOle.refl _, ?_, trivial⟩
          rw [← bs_push]
          exact MOle.refl _
    · exfalso; omega
  · refine Run.go ?_; (conv => whnf); repeat' (first | ((with_reducible refine Know.mk fun _ => ?_); conv => whnf) | ((with_reducible refine Need.mk ?_ ?_); exact nd; conv => whnf) | ((with_reducible first | refine Both.mk ?_ ?_ | refine Any.mk fun b hb => ?_ | refine AskB.dec (fun hb => ?_) (fun hb => ?_) | refine AskB.ndec (fun hb => ?_) (fun hb => ?_) | refine AskB.mk (fun hb => ?_) (fun hb => ?_)) <;> conv => whnf) | ((with_reducible first | refine Run.drawX rfl (by decide +kernel) ?_ | refine Run.drawT rfl (by decide +kernel) ?_ | refine Run.drawW rfl (by decide +kernel) ?_); conv => whnf) | fail)
    all_goals try (exfalso; omega)
    refine Run.bldr 60 5 3 90 p (bs b) (MOle.refl _) (MOle.refl _) ?_
    refine bs3 p _ rfl rfl rfl rfl rfl ?_
    refine Run.go ?_; (conv => whnf); repeat' (first | ((with_reducible refine Know.mk fun _ => ?_); conv => whnf) | ((with_reducible refine Need.mk ?_ ?_); exact nd; conv => whnf) | ((with_reducible first | refine Both.mk ?_ ?_ | refine Any.mk fun b hb => ?_ | refine AskB.dec (fun hb => ?_) (fun hb => ?_) | refine AskB.ndec (fun hb => ?_) (fun hb => ?_) | refine AskB.mk (fun hb => ?_) (fun hb => ?_)) <;> conv => whnf) | ((with_reducible first | refine Run.drawX rfl (by decide +kernel) ?_ | refine Run.drawT rfl (by decide +kernel) ?_ | refine Run.drawW rfl (by decide +kernel) ?_); conv => whnf) | fail)
    have hk : cont (l.drop i0) = .ok b [] := by
      rw [← hc, List.drop_of_length_le (by omega)]
      simp [cont, CR.app]
    apply Run.leaveM (ts := [2]) (hk := by first | exact .inr ⟨_, rfl⟩ | exact .inl rfl) (hw0 := by rfl) (hkeep := by rfl) (henv := by rfl) (hraw := by rfl) (hg := hg) (hf := Tryd.func41) (hres := by rfl)
    · exact hR_ok (n := i) hk (by simp; omega)
    · exact MOle.refl _
    · rfl
    · exact Le.refl _
end Go.Proofs.YtkdpmkjbfkjmdaaDoor.V

namespace Go.Proofs.YtkdpmkjbfkjmdaaDoor.V
set_option linter.unusedVariables false
set_option linter.unusedSimpArgs false
open Go Go.RowKit
structure StatS (ops : Array Oper) (all : List Nat) : Prop where
  edge : ∀ (i : Nat) o, ops[i]? = some o → ∀ e ∈ o.after, Region.binds .any e = true → e.on < i
  look : ∀ (i : Nat) o, i < ops.size → ops[i]? = some o → ∀ s ∈ looks ops o, ∀ j, j < ops.size → dstOf ops j = some s → ∃ e ∈ o.after, Region.binds .any e = true ∧ e.on = j
  one : ∀ i j d, i < ops.size → j < ops.size → dstOf ops i = some d → dstOf ops j = some d → i = j
/-- What an op that only reads gives, once its operands are there. -/
def OpSemR (C : Ctx) (h : Heap) (ops : Array Oper) (E : Env) (i : Nat) : Prop :=
  ∃ o, ops[i]? = some o ∧ okD C o.dst = true ∧ o.guard = none ∧ ∀ env ι a w, Rel C env h ι a w → (∀ y ∈ o.op.operands, VR w (okB C h ι w) (ev E y) (rf h ι) (a.eval y)) → ∃ x, Quiet C h o (ev E) x ∧ ∀ d, o.dst = some d → Le x (E d)
/-- The same, worked out. -/
def opAt (C : Ctx) (h : Heap) (ops : Array Oper) (E : Env) (i : Nat) : Prop := match ops.toList[i]? with
  | some o => withDst o fun dst => cond (okD C dst) (cond o.guard.isNone (qop C o (ev E) h (fun x => fv x fun x => match dst with | none => True | some d => Le x (E d)) False) False) False
  | none => False
theorem opAt_ok {C : Ctx} {h : Heap} {ops : Array Oper} {E : Env} {i : Nat} (hq : opAt C h ops E i) : OpSemR C h ops E i := by
  unfold opAt at hq
  cases ho : ops.toList[i]? with
  | none => rw [ho] at hq; exact hq.elim
  | some o =>
    rw [ho] at hq
    simp only [withDst_eq] at hq
    cases hd : okD C o.dst with
    | false => rw [hd] at hq; exact hq.elim
    | true =>
      rw [hd, cond_true] at hq
      cases hg : o.guard with
      | some g => rw [hg] at hq; exact hq.elim
      | none =>
        rw [hg] at hq
        simp only [Option.isNone_none, cond_true] at hq
        refine ⟨o, by simpa using ho, hd, hg, fun env ι a w R hρ => ?_⟩
        rcases qop_quiet R hρ hq with hf | ⟨x, hx, hqx⟩
        · exact hf.elim
        · refine ⟨x, hqx, fun d hdd => ?_⟩
          have hx := (fv_eq _ _).mp hx
          rw [hdd] at hx
          exact hx
def allowed (ops : Array Oper) (all ms done : List Nat) (i : Nat) : Bool := !(all.any (Nat.beq i)) && ms.all (fun m => !reachB ops 40 i m) && done.all (fun m => !reachB ops 40 m i)
/-- One stage behind the other: what the reads give at each, what the memory's statements make of it. -/
def StageOK (C : Ctx) (ops : Array Oper) (k : List Item) (all : List Nat) : List Nat → List Nat → Env → Heap → Prop
  | [], done, F, H => (∀ i, i < ops.size → allowed ops all [] done i = true → OpSemR C H ops F i) ∧ Run C (.inRegion ops [] :: k) F H
  | m :: ms, done, F, H => (∀ i, i < ops.size → allowed ops all (m :: ms) done i = true → OpSemR C H ops F i) ∧ (∀ m' ∈ ms, reachB ops 40 m' m = true) ∧ m < ops.size ∧
      ∃ F' H', (∀ (listed : Array Bool) rest, listed.size = ops.size → (∀ o, ops[m]? = some o → ∀ e ∈ o.after, Region.binds .any e = true → listed.getD e.on false = true) →
          Run C (.inRegion ops rest :: k) (envX ops ops.size F' (listed.setIfInBounds m true)) H' → Run C (.inRegion ops (m :: rest) :: k) (envX ops ops.size F listed) H) ∧ StageOK C ops k all ms (m :: done) F' H'
section
variable {C : Ctx} {ops : Array Oper}
theorem stageOK_lt {k : List Item} {all : List Nat} : ∀ {ms done : List Nat} {F : Env} {H : Heap}, StageOK C ops k all ms done F H → ∀ m ∈ ms, m < ops.size
  | [], _, _, _, _, m, h => absurd h List.not_mem_nil
  | m0 :: ms, _, _, _, hs, m, h => by
    obtain ⟨_, _, h1, _, _, _, h2⟩ := hs
    rcases List.mem_cons.mp h with rfl | h
    · exact h1
    · exact stageOK_lt h2 m h
theorem quiet_step {k : List Item} {E : Env} {h : Heap} {all : List Nat} (S : StatS ops all) {i : Nat} {rest : List Nat} {listed : Array Bool} (hsz : listed.size = ops.size) (hi : i < ops.size) (hsem : OpSemR C h ops E i)
    (hpre : ∀ o, ops[i]? = some o → ∀ e ∈ o.after, Region.binds .any e = true → listed.getD e.on false = true)
    (hrec : Run C (.inRegion ops rest :: k) (envX ops ops.size E (listed.setIfInBounds i true)) h) : Run C (.inRegion ops (i :: rest) :: k) (envX ops ops.size E listed) h := by
  obtain ⟨o, ho, hd, hg, hsem⟩ := hsem
  have hdsti : dstOf ops i = o.dst := by unfold dstOf; rw [show ops.toList[i]? = some o by simpa using ho]; rfl
  have hlk : ∀ s ∈ looks ops o, envX ops ops.size E listed s = E s := by
    intro s hs2
    unfold envX
    rw [unl_false (fun j hjp hj => ?_)]
    · rfl
    · obtain ⟨e, h1, h2, h3⟩ := S.look i o hi ho s hs2 j hjp hj
      have := hpre o ho e h1 h2
      rw [h3] at this
      have hjl : j < listed.size := by rw [hsz]; exact dstOf_lt hj
      rw [getD_two (b := false) hjl]; exact this
  have hle : ∀ (x : AV), (∀ d, o.dst = some d → Le x (E d)) → ∀ s, Le (putE (envX ops ops.size E listed) o.dst x s) (envX ops ops.size E (listed.setIfInBounds i true) s) := by
    intro x hx s
    by_cases hsd : o.dst = some s
    · rw [hsd]
      simp only [putE, upd_same]
      unfold envX
      cases unl ops ops.size (listed.setIfInBounds i true) s with
      | true => exact Le.u _
      | false => exact hx s hsd
    · have e1 : putE (envX ops ops.size E listed) o.dst x s = envX ops ops.size E listed s := by
        cases hq : o.dst with
        | none => rfl
        | some d => exact upd_other _ _ (fun e => hsd (by rw [hq, e]))
      rw [e1]
      unfold envX
      cases hu : unl ops ops.size (listed.setIfInBounds i true) s with
      | true => exact Le.u _
      | false =>
        have : unl ops ops.size listed s = false := by
          refine unl_false fun j hjp hj => ?_
          unfold unl at hu
          rw [List.any_eq_false] at hu
          have := hu j (List.mem_range.mpr hjp)
          simp only [hj, beq_self_eq_true, Bool.and_true, Bool.not_eq_true, Bool.not_eq_false'] at this
          rw [getD_set] at this
          by_cases hij : i = j
          · subst hij; exact absurd (hdsti ▸ hj) hsd
          · rwa [if_neg hij] at this
        rw [this]; exact Le.refl _
  refine Run.of_step fun ι a w b cs _ R => ?_
  have hopn : ∀ y ∈ o.op.operands, VR w (okB C h ι w) (ev E y) (rf h ι) (a.eval y) := fun y hy => by
    have := ev_ok R y
    cases y with
    | tmp s => have e : ev (envX ops ops.size E listed) (.tmp s) = ev E (.tmp s) := hlk s (looks_tmp hy)
               rw [e] at this; exact this
    | const v => exact this
    | global g => exact this
    | func f => exact this
  obtain ⟨x, hq, hx⟩ := hsem _ ι a w R hopn
  obtain ⟨v, w', ι', hst, R', hv⟩ := hq _ ι a w R hopn b k cs ops i rest ho (wanted_none hg _)
  exact ⟨_, h, ι', _, w', _, hst, (R'.put hv hd).weaken (hle x hx) (fun _ => MOle.refl _), hrec⟩
theorem stages_ok {k : List Item} {all : List Nat} (S : StatS ops all) : ∀ (l : List Nat) (ms done : List Nat) (F : Env) (H : Heap) (listed : Array Bool), StageOK C ops k all ms done F H → (∀ i, i ∈ all → i ∈ ms ∨ i ∈ done) → listed.size = ops.size → Closed ops listed → Sched ops listed l →
    (∀ m ∈ ms, listed.getD m true = false) → (∀ m ∈ done, listed.getD m false = true) → Run C (.inRegion ops l :: k) (envX ops ops.size F listed) H := by
  intro l
  induction l with
  | nil =>
    intro ms done F H listed hst hall hsz hcl hs hms hdone
    have hs : ∀ j, j < ops.size → listed.getD j true = true := fun j hj => hs j hj
    cases ms with
    | cons m ms =>
      have h1 := stageOK_lt hst m (List.mem_cons_self ..)
      have h2 := hms m (List.mem_cons_self ..)
      rw [hs m h1] at h2; cases h2
    | nil =>
      refine Run.weaken (fun s => ?_) (fun _ => MOle.refl _) hst.2
      unfold envX
      rw [unl_false (fun j hj _ => hs j hj)]
      exact Le.refl _
  | cons i rest ih =>
    intro ms done F H listed hst hall hsz hcl hs hms hdone
    obtain ⟨hi, hil, hpre, hs'⟩ := hs
    have hmv : ∀ m, listed.getD m true = false → listed.getD m false = false ∨ True := fun _ _ => .inr trivial
    by_cases hia : i ∈ ms
    · cases ms with
      | nil => exact absurd hia List.not_mem_nil
      | cons m ms =>
        obtain ⟨hq, htot, hmlt, F', H', hM, hnext⟩ := hst
        have him : i = m := by
          rcases List.mem_cons.mp hia with h | h
          · exact h
          · exfalso
            have h1 := reach_listed hcl 40 i hpre (htot i h)
            have h2 := hms m (List.mem_cons_self ..)
            rw [getD_two (b := true) (by omega)] at h1
            rw [h1] at h2; cases h2
        subst him
        refine hM listed rest hsz hpre (ih ms (i :: done) F' H' (listed.setIfInBounds i true) hnext (fun j hj => ?_) (by simpa using hsz) (hcl.set hpre) hs' (fun m hm => ?_) (fun m hm => ?_))
        · rcases hall j hj with h | h
          · rcases List.mem_cons.mp h with h | h
            · exact .inr (List.mem_cons.mpr (.inl h))
            · exact .inl h
          · exact .inr (List.mem_cons_of_mem _ h)
        · rw [getD_set]
          split
          · rename_i e
            exfalso
            subst e
            have h1 := reach_listed hcl 40 i hpre (htot i hm)
            rw [getD_two (b := true) (by omega), hil] at h1; cases h1
          · exact hms m (List.mem_cons_of_mem _ hm)
        · rcases List.mem_cons.mp hm with rfl | hm
          · rw [getD_two (b := true) (by simpa [hsz] using hi), getD_set, if_pos rfl]
          · exact getD_mono (hdone m hm)
    · have hnd : i ∉ done := fun h => by
        have := hdone i h
        rw [getD_two (b := true) (by omega), hil] at this; cases this
      have hna : i ∉ all := fun h => (hall i h).elim hia hnd
      have hal : allowed ops all ms done i = true := by
        unfold allowed
        rw [Bool.and_eq_true, Bool.and_eq_true]
        refine ⟨⟨?_, List.all_eq_true.mpr fun m hm => ?_⟩, List.all_eq_true.mpr fun m hm => ?_⟩
        · rw [Bool.not_eq_true', List.any_eq_false]
          intro x hx hb
          exact hna (by rw [Nat.eq_of_beq_eq_true hb]; exact hx)
        · cases hr : reachB ops 40 i m with
          | false => rfl
          | true =>
            have h1 := reach_listed hcl 40 i hpre hr
            have h2 := hms m hm
            rw [getD_two (b := true) (by rw [hsz]; exact stageOK_lt hst m hm), h2] at h1; cases h1
        · cases hr : reachB ops 40 m i with
          | false => rfl
          | true =>
            have h1 := reach_listed hcl 40 m (fun o ho e he hb => hcl m o ho (hdone m hm) e he hb) hr
            rw [getD_two (b := true) (by omega), hil] at h1; cases h1
      have hsem : OpSemR C H ops F i := by
        cases ms with
        | nil => exact hst.1 i hi hal
        | cons m ms => exact hst.1 i hi hal
      exact quiet_step S hsz hi hsem hpre (ih ms done F H (listed.setIfInBounds i true) hst hall (by simpa using hsz) (hcl.set hpre) hs' (fun m hm => by
        rw [getD_set, if_neg (fun e => hia (by rw [e]; exact hm))]; exact hms m hm) (fun m hm => getD_mono (hdone m hm)))
def drawStatS (ops : Array Oper) : Bool := (List.range ops.size).all fun i => match ops.toList[i]? with
  | none => false
  | some o => (o.after.toList.all fun e => !Region.binds .any e || Nat.blt e.on i) &&
    ((looks ops o).all fun s => (List.range ops.size).all fun j => match dstOf ops j with
      | some d => !(Nat.beq d s) || (o.after.toList.any fun e => Region.binds .any e && Nat.beq e.on j)
      | none => true) &&
    ((List.range ops.size).all fun j => Nat.beq j i || match dstOf ops j, o.dst with
      | some d, some d' => !(Nat.beq d d')
      | _, _ => true)
theorem StatS.of {all : List Nat} (hs : drawStatS ops = true) : StatS ops all := by
  unfold drawStatS at hs
  have key : ∀ (i : Nat) o, ops[i]? = some o → ((o.after.toList.all fun e => !Region.binds .any e || Nat.blt e.on i) = true ∧
    ((looks ops o).all fun s => (List.range ops.size).all fun j => match dstOf ops j with
      | some d => !(Nat.beq d s) || (o.after.toList.any fun e => Region.binds .any e && Nat.beq e.on j)
      | none => true) = true) ∧
    ((List.range ops.size).all fun j => Nat.beq j i || match dstOf ops j, o.dst with
      | some d, some d' => !(Nat.beq d d')
      | _, _ => true) = true := by
    intro i o ho
    have hi : i < ops.size := (Array.getElem?_eq_some_iff.1 ho).1
    have := List.all_eq_true.mp hs i (List.mem_range.mpr hi)
    have ho' : ops.toList[i]? = some o := by simpa using ho
    rw [ho'] at this
    simpa only [Bool.and_eq_true] using this
  refine ⟨?_, ?_, ?_⟩
  · intro i o ho e he hb
    have := List.all_eq_true.mp (key i o ho).1.1 e (by simpa using he)
    rw [hb] at this
    simpa [Nat.blt_eq] using this
  · intro i o hip ho s hs' j hjp hj
    have h1 := List.all_eq_true.mp (key i o ho).1.2 s hs'
    have h2 := List.all_eq_true.mp h1 j (List.mem_range.mpr hjp)
    rw [hj] at h2
    simp only [Nat.beq_refl, Bool.not_true, Bool.false_or] at h2
    obtain ⟨e, he, h3⟩ := List.any_eq_true.mp h2
    rw [Bool.and_eq_true] at h3
    exact ⟨e, by simpa using he, h3.1, Nat.eq_of_beq_eq_true h3.2⟩
  · intro i j d hip hjp hi hj
    have hi' := hi
    unfold dstOf at hi'
    cases ho : ops.toList[i]? with
    | none => rw [ho] at hi'; cases hi'
    | some o =>
      rw [ho] at hi'
      have hd : o.dst = some d := hi'
      have h1 := List.all_eq_true.mp (key i o (by simpa using ho)).2 j (List.mem_range.mpr hjp)
      rw [hj, hd] at h1
      simp only [Nat.beq_refl, Bool.not_true, Bool.or_false] at h1
      exact (Nat.eq_of_beq_eq_true h1).symm
theorem Run.drawS {id : Nat} {k : List Item} {env : Env} {h : Heap} (all : List Nat) (F : Env) (hm : C.P.follows .mixedOrders = true) (hs : drawStatS ops = true) (hF : ∀ s, (∀ j, j < ops.size → dstOf ops j ≠ some s) → Le (env s) (F s))
    (hst : StageOK C ops k all all [] F h) : Run C (.code (.region id ops true) :: k) env h := by
  have S : StatS ops all := StatS.of hs
  refine ⟨fun ι a w b cs hb hkd R => ?_⟩
  have hf : ∀ j, (Array.replicate ops.size false).getD j false = false := fun j => by
    rw [Array.getD_eq_getD_getElem?, Array.getElem?_replicate]; split <;> rfl
  have hf' : ∀ j, j < ops.size → (Array.replicate ops.size false).getD j true = false := fun j hj => by simp [hj]
  have hrun := stages_ok (C := C) (k := k) S (Region.schedule (C.P.follows .mixedOrders) ops (w.tape w.drawn (.order b.fn id))) all [] F h (Array.replicate ops.size false) hst (fun i hi => .inl hi) (by simp)
    (fun i o ho hl => by rw [hf] at hl; cases hl) (sched_of hm S.edge _) (fun m hm => hf' m (stageOK_lt hst m hm)) (fun m hm => absurd hm List.not_mem_nil)
  have Rd : Rel C env h ι a { w with drawn := w.drawn + 1 } := R.grow ((Below.refl _ _).drew)
  have R' : Rel C (envX ops ops.size F (Array.replicate ops.size false)) h ι a { w with drawn := w.drawn + 1 } := Rd.weaken (fun s => by
    unfold envX
    cases hu : unl ops ops.size (Array.replicate ops.size false) s with
    | true => exact Le.u _
    | false =>
      refine hF s fun j hjp hj => ?_
      unfold unl at hu
      rw [List.any_eq_false] at hu
      have := hu j (List.mem_range.mpr hjp)
      simp [hj, hjp] at this) (fun _ => MOle.refl _)
  obtain ⟨e, w2, fr, h1, h2, h3⟩ := hrun.run ι a _ b cs hb hkd R'
  exact ⟨e, w2, fr, h1, Comes.of_steps (.one step_region_draw) h2, h3⟩
/-- Slots behind a statement that changes all of them in one way. -/
theorem mask_step {o : Oper} {m : Nat} (ho : ops.toList[m]? = some o) {F F' : Env} {listed : Array Bool} (τ : AV → AV) (hu : τ .u = .u) (y : AV) (hF : ∀ s, o.dst ≠ some s → Le (τ (F s)) (F' s)) (hy : ∀ d, o.dst = some d → Le y (F' d)) (s : Nat) :
    Le (putE (fun s => τ (envX ops ops.size F listed s)) o.dst y s) (envX ops ops.size F' (listed.setIfInBounds m true) s) := by
  have hdst : dstOf ops m = o.dst := by unfold dstOf; rw [ho]; rfl
  unfold envX
  cases hul : unl ops ops.size (listed.setIfInBounds m true) s with
  | true => exact Le.u _
  | false =>
    by_cases hsd : o.dst = some s
    · rw [hsd]
      simp only [putE, upd_same]
      exact hy s hsd
    · have e1 : putE (fun s => τ (cond (unl ops ops.size listed s) .u (F s))) o.dst y s = τ (cond (unl ops ops.size listed s) .u (F s)) := by
        cases hq : o.dst with
        | none => rfl
        | some d =>
          have hsd' : s ≠ d := fun e => hsd (by rw [hq, e])
          show upd (fun s => τ (cond (unl ops ops.size listed s) .u (F s))) d y s = _
          rw [upd_other _ _ hsd']
      rw [e1]
      have : unl ops ops.size listed s = false := by
        refine unl_false fun j hjp hj => ?_
        unfold unl at hul
        rw [List.any_eq_false] at hul
        have := hul j (List.mem_range.mpr hjp)
        simp only [hj, beq_self_eq_true, Bool.and_true, Bool.not_eq_true, Bool.not_eq_false'] at this
        rw [getD_set] at this
        by_cases hij : m = j
        · subst hij; exact absurd (hdst ▸ hj) hsd
        · rwa [if_neg hij] at this
      rw [this]
      exact hF s hsd
theorem mask_look {all : List Nat} (S : StatS ops all) {o : Oper} {m : Nat} (ho : ops[m]? = some o) (hm : m < ops.size) {F : Env} {listed : Array Bool} (hsz : listed.size = ops.size) (hpre : ∀ o, ops[m]? = some o → ∀ e ∈ o.after, Region.binds .any e = true → listed.getD e.on false = true)
    {s : Nat} (hs : s ∈ looks ops o) : envX ops ops.size F listed s = F s := by
  unfold envX
  rw [unl_false (fun j hjp hj => ?_)]
  · rfl
  · obtain ⟨e, h1, h2, h3⟩ := S.look m o hm ho s hs j hjp hj
    have := hpre o ho e h1 h2
    rw [h3] at this
    have hjl : j < listed.size := by rw [hsz]; exact dstOf_lt hj
    rw [getD_two (b := false) hjl]; exact this
theorem lst_app {l1 : List (Nat × AV)} {s : Nat} (h : ∀ p ∈ l1, p.1 ≠ s) : ∀ l0 : List (Nat × AV), lst (l0 ++ l1) s = lst l0 s
  | [] => by
    induction l1 with
    | nil => rfl
    | cons p l ih =>
      have h1 := h p (List.mem_cons_self ..)
      have h2 := ih (fun q hq => h q (List.mem_cons_of_mem _ hq))
      simp only [List.nil_append] at h2 ⊢
      unfold lst
      rw [beq_ne (fun e => h1 e.symm)]
      exact h2
  | p :: l => by
    have ih := lst_app h l
    simp only [List.cons_append]
    unfold lst
    rw [ih]
/-- What the statements will write is not yet there. -/
theorem lst_dsts {l0 l1 : List (Nat × AV)} (hb : (l1.all fun p => (List.range ops.size).any fun j => dstOf ops j == some p.1) = true) (s : Nat) (hs : ∀ j, j < ops.size → dstOf ops j ≠ some s) : Le (lst l0 s) (lst (l0 ++ l1) s) := by
  rw [lst_app (fun p hp e => ?_)]
  · exact Le.refl _
  · have h1 := List.all_eq_true.mp hb p hp
    obtain ⟨j, hj, h2⟩ := List.any_eq_true.mp h1
    have h3 : dstOf ops j = some p.1 := by simpa using h2
    rw [e] at h3
    exact hs j (List.mem_range.mp hj) h3
/-- A statement that makes or changes memory, at a stage. -/
theorem Run.stageOp {all : List Nat} (S : StatS ops all) {k : List Item} {o : Oper} {m : Nat} {rest : List Nat} {listed : Array Bool} {F F' : Env} {H H' : Heap} (τ : AV → AV) (y : AV) (ho : ops[m]? = some o) (hm : m < ops.size) (hd : okD C o.dst = true) (hg : o.guard = none) (hu : τ .u = .u)
    (hF : ∀ s, o.dst ≠ some s → Le (τ (F s)) (F' s)) (hy : ∀ d, o.dst = some d → Le y (F' d)) (hsz : listed.size = ops.size) (hpre : ∀ o, ops[m]? = some o → ∀ e ∈ o.after, Region.binds .any e = true → listed.getD e.on false = true)
    (hop : ∀ G : Env, (∀ s ∈ looks ops o, G s = F s) → ∀ (K : Env → Heap → AV → Prop) stop, K (fun s => τ (G s)) H' y → aop C o G H K stop)
    (next : Run C (.inRegion ops rest :: k) (envX ops ops.size F' (listed.setIfInBounds m true)) H') : Run C (.inRegion ops (m :: rest) :: k) (envX ops ops.size F listed) H := by
  refine op_ok (K := fun env' h' x => env' = (fun s => τ (envX ops ops.size F listed s)) ∧ h' = H' ∧ x = y) ho hd (fun env' h' x ⟨e1, e2, e3⟩ => ?_) (fun _ _ _ _ => wanted_none hg _) (hop _ (fun s hs => mask_look S ho hm hsz hpre hs) _ _ ⟨rfl, rfl, rfl⟩)
  subst e1; subst e2; subst e3
  exact Run.weaken (mask_step (show ops.toList[m]? = some o by simpa using ho) τ hu x hF hy) (fun _ => MOle.refl _) next
end
end Go.Proofs.YtkdpmkjbfkjmdaaDoor.V

namespace Go.Proofs.YtkdpmkjbfkjmdaaDoor.V
set_option linter.unusedVariables false
set_option linter.unusedSimpArgs false
open Go Go.Proofs Go.RowKit
set_option maxRecDepth 100000
set_option maxHeartbeats 1000000
/-- What says that the syntax is wrong. -/
def synE : AV := .val (.iface 84 (.int .i64 2))
theorem clone0_fn : Fn Tryd.prog 65 [.str .empty] (.str .empty) := by
  refine Fn.of Tryd.f65 _ Tryd.func65 rfl (by decide) (by show 1 ≤ _; decide) tbOk 18 rfl fun S w0 gl => ?_
  have h1 : ByteArray.empty.size = 0 := rfl
  refine Run.go ?_; (conv => whnf); repeat' (first | ((with_reducible refine Know.mk fun _ => ?_); conv => whnf) | ((with_reducible refine Need.mk ?_ ?_); exact nd; conv => whnf) | ((with_reducible refine Both.mk ?_ ?_) <;> conv => whnf) | ((with_reducible refine Any.mk fun b hb => ?_); conv => whnf) | ((with_reducible first | refine AskB.dec (fun hb => ?_) (fun hb => ?_) | refine AskB.ndec (fun hb => ?_) (fun hb => ?_) | refine AskB.mk (fun hb => ?_) (fun hb => ?_)) <;> first | (exfalso; omega) | (conv => whnf)) | ((with_reducible first | refine Run.drawX rfl (by decide +kernel) ?_ | refine Run.drawT rfl (by decide +kernel) ?_ | refine Run.drawW rfl (by decide +kernel) ?_); conv => whnf) | fail)
  all_goals try (exfalso; omega)
  exact Run.leave (ts := [2]) (.inr ⟨_, rfl⟩) rfl Tryd.func65 rfl (Le.refl _)
theorem synt0_fn (s : ByteArray) : Fn Tryd.prog 54 [.str s, .str .empty] .u := by
  refine Fn.of Tryd.f54 _ Tryd.func54 rfl (by decide) (by show 2 ≤ _; decide) tbOk 11 rfl fun S w0 gl => ?_
  refine Run.go ?_; (conv => whnf); repeat' (first | ((with_reducible refine Know.mk fun _ => ?_); conv => whnf) | ((with_reducible refine Need.mk ?_ ?_); exact nd; conv => whnf) | ((with_reducible first | refine Both.mk ?_ ?_ | refine Any.mk fun b hb => ?_ | refine AskB.dec (fun hb => ?_) (fun hb => ?_) | refine AskB.ndec (fun hb => ?_) (fun hb => ?_) | refine AskB.mk (fun hb => ?_) (fun hb => ?_)) <;> conv => whnf) | ((with_reducible first | refine Run.drawX rfl (by decide +kernel) ?_ | refine Run.drawT rfl (by decide +kernel) ?_ | refine Run.drawW rfl (by decide +kernel) ?_); conv => whnf) | fail)
  refine CallQ.flat clone0_fn rfl ⟨Le.refl _, trivial⟩ rfl ?_
  (conv => whnf); repeat' (first | ((with_reducible refine Know.mk fun _ => ?_); conv => whnf) | ((with_reducible refine Need.mk ?_ ?_); exact nd; conv => whnf) | ((with_reducible first | refine Both.mk ?_ ?_ | refine Any.mk fun b hb => ?_ | refine AskB.dec (fun hb => ?_) (fun hb => ?_) | refine AskB.ndec (fun hb => ?_) (fun hb => ?_) | refine AskB.mk (fun hb => ?_) (fun hb => ?_)) <;> conv => whnf) | ((with_reducible first | refine Run.drawX rfl (by decide +kernel) ?_ | refine Run.drawT rfl (by decide +kernel) ?_ | refine Run.drawW rfl (by decide +kernel) ?_); conv => whnf) | fail)
  exact Run.leave (ts := [4]) (.inr ⟨_, rfl⟩) rfl Tryd.func54 rfl (Le.u _)
theorem toErr0_fn (s : ByteArray) : Fn Tryd.prog 48 [.str s, .str .empty, .int .i64 0, .int .i64 0, synE] .u := by
  refine Fn.of Tryd.f48 _ Tryd.func48 rfl (by decide) (by show 5 ≤ _; decide) tbOk 43 rfl fun S w0 gl => ?_
  refine Run.go ?_; (conv => whnf); repeat' (first | ((with_reducible refine Know.mk fun _ => ?_); conv => whnf) | ((with_reducible refine Need.mk ?_ ?_); exact nd; conv => whnf) | ((with_reducible first | refine Both.mk ?_ ?_ | refine Any.mk fun b hb => ?_ | refine AskB.dec (fun hb => ?_) (fun hb => ?_) | refine AskB.ndec (fun hb => ?_) (fun hb => ?_) | refine AskB.mk (fun hb => ?_) (fun hb => ?_)) <;> conv => whnf) | ((with_reducible first | refine Run.drawX rfl (by decide +kernel) ?_ | refine Run.drawT rfl (by decide +kernel) ?_ | refine Run.drawW rfl (by decide +kernel) ?_); conv => whnf) | fail)
  refine Run.mkIf (t := 84) (n := 2) rfl rfl rfl (kd' := .i64) (by kernel_rfl) rfl rfl ?_
  refine Run.binIf (b := true) (vx := .iface 84 (.int .i64 2)) (vy := .iface 84 (.int .i64 2)) rfl rfl rfl rfl (fun w => if_eq (by kernel_rfl) (kd := .i64) (by kernel_rfl) rfl (by kernel_rfl) w) rfl rfl ?_
  refine Run.go ?_; (conv => whnf); repeat' (first | ((with_reducible refine Know.mk fun _ => ?_); conv => whnf) | ((with_reducible refine Need.mk ?_ ?_); exact nd; conv => whnf) | ((with_reducible first | refine Both.mk ?_ ?_ | refine Any.mk fun b hb => ?_ | refine AskB.dec (fun hb => ?_) (fun hb => ?_) | refine AskB.ndec (fun hb => ?_) (fun hb => ?_) | refine AskB.mk (fun hb => ?_) (fun hb => ?_)) <;> conv => whnf) | ((with_reducible first | refine Run.drawX rfl (by decide +kernel) ?_ | refine Run.drawT rfl (by decide +kernel) ?_ | refine Run.drawW rfl (by decide +kernel) ?_); conv => whnf) | fail)
  all_goals try (cases hb; done)
  refine Run.callBX (synt0_fn s) rfl rfl ⟨Le.refl _, Le.refl _, trivial⟩ rfl rfl rfl ?_
  (conv => whnf); repeat' (first | ((with_reducible refine Know.mk fun _ => ?_); conv => whnf) | ((with_reducible refine Need.mk ?_ ?_); exact nd; conv => whnf) | ((with_reducible first | refine Both.mk ?_ ?_ | refine Any.mk fun b hb => ?_ | refine AskB.dec (fun hb => ?_) (fun hb => ?_) | refine AskB.ndec (fun hb => ?_) (fun hb => ?_) | refine AskB.mk (fun hb => ?_) (fun hb => ?_)) <;> conv => whnf) | ((with_reducible first | refine Run.drawX rfl (by decide +kernel) ?_ | refine Run.drawT rfl (by decide +kernel) ?_ | refine Run.drawW rfl (by decide +kernel) ?_); conv => whnf) | fail)
  refine Run.mkIfU (t := 87) (e := 101) rfl rfl (by kernel_rfl) rfl rfl ?_
  refine Run.go ?_; (conv => whnf); repeat' (first | ((with_reducible refine Know.mk fun _ => ?_); conv => whnf) | ((with_reducible refine Need.mk ?_ ?_); exact nd; conv => whnf) | ((with_reducible first | refine Both.mk ?_ ?_ | refine Any.mk fun b hb => ?_ | refine AskB.dec (fun hb => ?_) (fun hb => ?_) | refine AskB.ndec (fun hb => ?_) (fun hb => ?_) | refine AskB.mk (fun hb => ?_) (fun hb => ?_)) <;> conv => whnf) | ((with_reducible first | refine Run.drawX rfl (by decide +kernel) ?_ | refine Run.drawT rfl (by decide +kernel) ?_ | refine Run.drawW rfl (by decide +kernel) ?_); conv => whnf) | fail)
  exact Run.leave (ts := [10]) (.inr ⟨_, rfl⟩) rfl Tryd.func48 rfl (Le.refl _)
theorem pint0_fn : Fn Tryd.prog 53 [.str .empty, .int .i64 10, .int .i64 0] (tupL [.int .i64 0, synE]) := by
  refine Fn.of Tryd.f53 _ Tryd.func53 rfl (by decide) (by show 3 ≤ _; decide) tbOk 73 rfl fun S w0 gl => ?_
  refine Run.go ?_; (conv => whnf); repeat' (first | ((with_reducible refine Know.mk fun _ => ?_); conv => whnf) | ((with_reducible refine Need.mk ?_ ?_); exact nd; conv => whnf) | ((with_reducible refine Both.mk ?_ ?_) <;> conv => whnf) | ((with_reducible refine Any.mk fun b hb => ?_); conv => whnf) | ((with_reducible first | refine AskB.dec (fun hb => ?_) (fun hb => ?_) | refine AskB.ndec (fun hb => ?_) (fun hb => ?_) | refine AskB.mk (fun hb => ?_) (fun hb => ?_)) <;> first | (exfalso; omega) | (conv => whnf)) | ((with_reducible first | refine Run.drawX rfl (by decide +kernel) ?_ | refine Run.drawT rfl (by decide +kernel) ?_ | refine Run.drawW rfl (by decide +kernel) ?_); conv => whnf) | fail)
  · refine Run.mkIf (t := 84) (n := 2) rfl rfl rfl (kd' := .i64) (by kernel_rfl) rfl rfl ?_
    refine Run.go ?_; (conv => whnf); repeat' (first | ((with_reducible refine Know.mk fun _ => ?_); conv => whnf) | ((with_reducible refine Need.mk ?_ ?_); exact nd; conv => whnf) | ((with_reducible first | refine Both.mk ?_ ?_ | refine Any.mk fun b hb => ?_ | refine AskB.dec (fun hb => ?_) (fun hb => ?_) | refine AskB.ndec (fun hb => ?_) (fun hb => ?_) | refine AskB.mk (fun hb => ?_) (fun hb => ?_)) <;> conv => whnf) | ((with_reducible first | refine Run.drawX rfl (by decide +kernel) ?_ | refine Run.drawT rfl (by decide +kernel) ?_ | refine Run.drawW rfl (by decide +kernel) ?_); conv => whnf) | fail)
    exact Run.leave (ts := [6,7]) (.inr ⟨_, rfl⟩) rfl Tryd.func53 rfl (resT ⟨Le.refl _, Le.refl _, trivial⟩)
  all_goals exact absurd rfl (by assumption)
theorem atoiI0_fn : Fn Tryd.prog 47 [.str .empty] (tupL [.int .i64 0, synE]) := by
  refine Fn.of Tryd.f47 _ Tryd.func47 rfl (by decide) (by show 1 ≤ _; decide) tbOk 77 rfl fun S w0 gl => ?_
  have h1 : ByteArray.empty.size = 0 := rfl
  refine Run.go ?_; (conv => whnf); repeat' (first | ((with_reducible refine Know.mk fun _ => ?_); conv => whnf) | ((with_reducible refine Need.mk ?_ ?_); exact nd; conv => whnf) | ((with_reducible refine Both.mk ?_ ?_) <;> conv => whnf) | ((with_reducible refine Any.mk fun b hb => ?_); conv => whnf) | ((with_reducible first | refine AskB.dec (fun hb => ?_) (fun hb => ?_) | refine AskB.ndec (fun hb => ?_) (fun hb => ?_) | refine AskB.mk (fun hb => ?_) (fun hb => ?_)) <;> first | (exfalso; omega) | (conv => whnf)) | ((with_reducible first | refine Run.drawX rfl (by decide +kernel) ?_ | refine Run.drawT rfl (by decide +kernel) ?_ | refine Run.drawW rfl (by decide +kernel) ?_); conv => whnf) | fail)
  all_goals try (exfalso; omega)
  refine Run.callBX pint0_fn rfl rfl ⟨Le.refl _, Le.refl _, Le.refl _, trivial⟩ rfl rfl rfl ?_
  (conv => whnf); repeat' (first | ((with_reducible refine Know.mk fun _ => ?_); conv => whnf) | ((with_reducible refine Need.mk ?_ ?_); exact nd; conv => whnf) | ((with_reducible first | refine Both.mk ?_ ?_ | refine Any.mk fun b hb => ?_ | refine AskB.dec (fun hb => ?_) (fun hb => ?_) | refine AskB.ndec (fun hb => ?_) (fun hb => ?_) | refine AskB.mk (fun hb => ?_) (fun hb => ?_)) <;> conv => whnf) | ((with_reducible first | refine Run.drawX rfl (by decide +kernel) ?_ | refine Run.drawT rfl (by decide +kernel) ?_ | refine Run.drawW rfl (by decide +kernel) ?_); conv => whnf) | fail)
  exact Run.leave (ts := [2,3]) (.inr ⟨_, rfl⟩) rfl Tryd.func47 rfl (resT ⟨Le.refl _, Le.refl _, trivial⟩)
theorem atoi0_fn : Fn Tryd.prog 37 [.str .empty] (tupL [.int .i64 0, .u]) := by
  refine Fn.of Tryd.f37 _ Tryd.func37 rfl (by decide) (by show 1 ≤ _; decide) tbOk 18 rfl fun S w0 gl => ?_
  refine Run.go ?_; (conv => whnf); repeat' (first | ((with_reducible refine Know.mk fun _ => ?_); conv => whnf) | ((with_reducible refine Need.mk ?_ ?_); exact nd; conv => whnf) | ((with_reducible first | refine Both.mk ?_ ?_ | refine Any.mk fun b hb => ?_ | refine AskB.dec (fun hb => ?_) (fun hb => ?_) | refine AskB.ndec (fun hb => ?_) (fun hb => ?_) | refine AskB.mk (fun hb => ?_) (fun hb => ?_)) <;> conv => whnf) | ((with_reducible first | refine Run.drawX rfl (by decide +kernel) ?_ | refine Run.drawT rfl (by decide +kernel) ?_ | refine Run.drawW rfl (by decide +kernel) ?_); conv => whnf) | fail)
  refine Run.callBX atoiI0_fn rfl rfl ⟨Le.refl _, trivial⟩ rfl rfl rfl ?_
  (conv => whnf); repeat' (first | ((with_reducible refine Know.mk fun _ => ?_); conv => whnf) | ((with_reducible refine Need.mk ?_ ?_); exact nd; conv => whnf) | ((with_reducible first | refine Both.mk ?_ ?_ | refine Any.mk fun b hb => ?_ | refine AskB.dec (fun hb => ?_) (fun hb => ?_) | refine AskB.ndec (fun hb => ?_) (fun hb => ?_) | refine AskB.mk (fun hb => ?_) (fun hb => ?_)) <;> conv => whnf) | ((with_reducible first | refine Run.drawX rfl (by decide +kernel) ?_ | refine Run.drawT rfl (by decide +kernel) ?_ | refine Run.drawW rfl (by decide +kernel) ?_); conv => whnf) | fail)
  refine Run.binIf (b := true) (vx := .iface 84 (.int .i64 2)) (vy := .nilIface) rfl rfl rfl rfl (fun w => if_nil (by kernel_rfl) w) rfl rfl ?_
  refine Run.go ?_; (conv => whnf); repeat' (first | ((with_reducible refine Know.mk fun _ => ?_); conv => whnf) | ((with_reducible refine Need.mk ?_ ?_); exact nd; conv => whnf) | ((with_reducible first | refine Both.mk ?_ ?_ | refine Any.mk fun b hb => ?_ | refine AskB.dec (fun hb => ?_) (fun hb => ?_) | refine AskB.ndec (fun hb => ?_) (fun hb => ?_) | refine AskB.mk (fun hb => ?_) (fun hb => ?_)) <;> conv => whnf) | ((with_reducible first | refine Run.drawX rfl (by decide +kernel) ?_ | refine Run.drawT rfl (by decide +kernel) ?_ | refine Run.drawW rfl (by decide +kernel) ?_); conv => whnf) | fail)
  all_goals try (cases hb; done)
  refine Run.callBX (toErr0_fn _) rfl rfl ⟨Le.refl _, Le.refl _, Le.refl _, Le.refl _, Le.refl _, trivial⟩ rfl rfl rfl ?_
  (conv => whnf); repeat' (first | ((with_reducible refine Know.mk fun _ => ?_); conv => whnf) | ((with_reducible refine Need.mk ?_ ?_); exact nd; conv => whnf) | ((with_reducible first | refine Both.mk ?_ ?_ | refine Any.mk fun b hb => ?_ | refine AskB.dec (fun hb => ?_) (fun hb => ?_) | refine AskB.ndec (fun hb => ?_) (fun hb => ?_) | refine AskB.mk (fun hb => ?_) (fun hb => ?_)) <;> conv => whnf) | ((with_reducible first | refine Run.drawX rfl (by decide +kernel) ?_ | refine Run.drawT rfl (by decide +kernel) ?_ | refine Run.drawW rfl (by decide +kernel) ?_); conv => whnf) | fail)
  exact Run.leave (ts := [2,3]) (.inr ⟨_, rfl⟩) rfl Tryd.func37 rfl (resT ⟨Le.refl _, Le.refl _, trivial⟩)
/-- Digits, as a number. -/
def valD (l : List UInt8) : Nat := l.foldl (fun n d => 10 * n + (d.toNat - 48)) 0
theorem valD_push (l : List UInt8) (d : UInt8) : valD (l ++ [d]) = 10 * valD l + (d.toNat - 48) := by unfold valD; rw [List.foldl_append]; rfl
theorem valD_lt : ∀ l : List UInt8, (∀ c ∈ l, dig c = true) → valD l < 10 ^ l.length := by
  intro l h
  have key : ∀ (l : List UInt8) (n m : Nat), (∀ c ∈ l, dig c = true) → n < m → l.foldl (fun n d => 10 * n + (d.toNat - 48)) n < m * 10 ^ l.length := by
    intro l
    induction l with
    | nil => intro n m _ h; simpa using h
    | cons c l ih =>
      intro n m hc hn
      have hd : 48 ≤ c.toNat ∧ c.toNat ≤ 57 := of_decide_eq_true (hc c List.mem_cons_self)
      have := ih (10 * n + (c.toNat - 48)) (m * 10) (fun x hx => hc x (List.mem_cons_of_mem _ hx)) (by omega)
      rw [List.foldl_cons, List.length_cons, Nat.pow_succ]
      calc _ < m * 10 * 10 ^ l.length := this
        _ = m * (10 ^ l.length * 10) := by rw [Nat.mul_assoc, Nat.mul_comm 10]
  have := key l 0 1 h (by omega)
  simpa [valD] using this
theorem if_nilnil {P : Program} {t : TypeId} {x : Operand} {c : Value} (ht : P.underlying t = some (.interface (P.methodsAt t))) (w : World) : (do eqGuard .neq t x (.const c) .nilIface .nilIface; binOp .neq t .nilIface .nilIface : Sem Value).run P w = .ok (.bool false) w := by
  simp only [Sem.run_bind, eqGuard]
  simp [run_neq_nil_nil w t ht]
theorem atoiI_dig (l : List UInt8) (h1 : 1 ≤ l.length) (h2 : l.length ≤ 9) (hd : ∀ i, i < l.length → dig (l.getD i 0) = true) : Fn Tryd.prog 47 [.str (bs l)] (tupL [.int .i64 (valD l : Int), .nilif]) := by
  have hd' : ∀ i, i < l.length → 48 ≤ bt (bs l) i ∧ bt (bs l) i ≤ 57 := fun i hi => by
    have : 48 ≤ (l.getD i 0).toNat ∧ (l.getD i 0).toNat ≤ 57 := of_decide_eq_true (hd i hi)
    rw [bt_at]; omega
  have h0 : 48 ≤ bt (bs l) (Int.toNat 0) ∧ bt (bs l) (Int.toNat 0) ≤ 57 := hd' 0 (by omega)
  have hval : ∀ i, i ≤ l.length → valD (l.take i) ≤ 1000000000 := fun i hi => by
    have hdd : ∀ c ∈ l.take i, dig c = true := fun c hc => by
      obtain ⟨j, hj, rfl⟩ := List.getElem_of_mem (List.mem_of_mem_take hc)
      have := hd j hj
      rwa [List.getD, List.getElem?_eq_getElem hj] at this
    have h := valD_lt _ hdd
    have h3 : 10 ^ (l.take i).length ≤ 10 ^ 9 := Nat.pow_le_pow_right (by decide) (by rw [List.length_take]; omega)
    have h4 : (10 : Nat) ^ 9 = 1000000000 := by decide
    omega
  refine Fn.of Tryd.f47 _ Tryd.func47 rfl (by decide) (by show 1 ≤ _; decide) tbOk 77 rfl fun S w0 gl => ?_
  have hs := bs_size l
  refine Run.go ?_; (conv => whnf); repeat' (first | ((with_reducible refine Know.mk fun _ => ?_); conv => whnf) | ((with_reducible refine Need.mk ?_ ?_); exact nd; conv => whnf) | ((with_reducible refine Both.mk ?_ ?_) <;> conv => whnf) | ((with_reducible refine Any.mk fun b hb => ?_); conv => whnf) | ((with_reducible first | refine AskB.dec (fun hb => ?_) (fun hb => ?_) | refine AskB.ndec (fun hb => ?_) (fun hb => ?_) | refine AskB.mk (fun hb => ?_) (fun hb => ?_)) <;> first | (exfalso; omega) | (conv => whnf)) | ((with_reducible first | refine Run.drawX rfl (by decide +kernel) ?_ | refine Run.drawT rfl (by decide +kernel) ?_ | refine Run.drawW rfl (by decide +kernel) ?_); conv => whnf) | fail)
  all_goals try (exfalso; omega)
  refine Run.toBytesR (d := 47) (e := 5) (bs l) rfl rfl rfl rfl rfl rfl (by kernel_rfl) (by kernel_rfl) (by kernel_rfl) ?_
  refine Run.go ?_; (conv => whnf); repeat' (first | ((with_reducible refine Know.mk fun _ => ?_); conv => whnf) | ((with_reducible refine Need.mk ?_ ?_); exact nd; conv => whnf) | ((with_reducible first | refine Both.mk ?_ ?_ | refine Any.mk fun b hb => ?_ | refine AskB.dec (fun hb => ?_) (fun hb => ?_) | refine AskB.ndec (fun hb => ?_) (fun hb => ?_) | refine AskB.mk (fun hb => ?_) (fun hb => ?_)) <;> conv => whnf) | ((with_reducible first | refine Run.drawX rfl (by decide +kernel) ?_ | refine Run.drawT rfl (by decide +kernel) ?_ | refine Run.drawW rfl (by decide +kernel) ?_); conv => whnf) | fail)
  refine Run.loop [5, 48] (fun (i : Nat) => [(6, .int .i64 (valD (l.take i) : Int)), (47, .row 47), (49, .int .i64 (i : Int))]) (fun i => [(47, .row 5 1 (bs l).size (bytesG (bs l)))]) (fun i => i ≤ l.length) (fun i => l.length - i) 0 (Nat.zero_le _) ⟨Le.refl _, Le.refl _, Le.refl _, trivial⟩ ⟨MOle.refl _, trivial⟩ ?_
  intro i hi IH
  have hwi : IntKind.i64.wrap ((i : Int) + 1) = ((i + 1 : Nat) : Int) := wrap64 (by omega) (by omega)
  by_cases hil : i < l.length
  · have hdi := hd' i hil
    rw [bt_at] at hdi
    have hw0 : IntKind.u8.wrap (bt (bs l) (i : Int).toNat - 48) = (((l.getD i 0).toNat - 48 : Nat) : Int) := by
      rw [bt_at, Int.toNat_natCast]
      have e1 : ((l.getD i 0).toNat : Int) - 48 = (((l.getD i 0).toNat - 48 : Nat) : Int) := by omega
      rw [e1]
      exact IntWalk.u8_in _ ⟨by omega, by omega⟩
    refine Run.go ?_; (conv => whnf); repeat' (first | ((with_reducible refine Know.mk fun _ => ?_); conv => whnf) | ((with_reducible refine Need.mk ?_ ?_); exact nd; conv => whnf) | ((with_reducible refine Both.mk ?_ ?_) <;> conv => whnf) | ((with_reducible refine Any.mk fun b hb => ?_); conv => whnf) | ((with_reducible first | refine AskB.dec (fun hb => ?_) (fun hb => ?_) | refine AskB.ndec (fun hb => ?_) (fun hb => ?_) | refine AskB.mk (fun hb => ?_) (fun hb => ?_)) <;> first | (exfalso; omega) | (conv => whnf)) | ((with_reducible first | refine Run.drawX rfl (by decide +kernel) ?_ | refine Run.drawT rfl (by decide +kernel) ?_ | refine Run.drawW rfl (by decide +kernel) ?_); conv => whnf) | fail)
    all_goals try (exfalso; omega)
    refine Run.to _ _ ?_ ?_ (IH (i + 1) (by omega) (by omega))
    · refine ⟨Le.refl _, Le.refl _, Le.int ?_, Le.refl _, Le.int hwi, trivial⟩
      have hv := hval i hi
      rw [hw0, take_at l i 0 hil, valD_push, wrap64 (x := (((l.getD i 0).toNat - 48 : Nat) : Int)) (by omega) (by omega), wrap64 (x := (valD (l.take i) : Int) * 10) (by omega) (by omega), wrap64 (by omega) (by omega)]
      omega
    · exact ⟨MOle.refl _, trivial⟩
  · obtain rfl : i = l.length := by omega
    refine Run.go ?_; (conv => whnf); repeat' (first | ((with_reducible refine Know.mk fun _ => ?_); conv => whnf) | ((with_reducible refine Need.mk ?_ ?_); exact nd; conv => whnf) | ((with_reducible refine Both.mk ?_ ?_) <;> conv => whnf) | ((with_reducible refine Any.mk fun b hb => ?_); conv => whnf) | ((with_reducible first | refine AskB.dec (fun hb => ?_) (fun hb => ?_) | refine AskB.ndec (fun hb => ?_) (fun hb => ?_) | refine AskB.mk (fun hb => ?_) (fun hb => ?_)) <;> first | (exfalso; omega) | (conv => whnf)) | ((with_reducible first | refine Run.drawX rfl (by decide +kernel) ?_ | refine Run.drawT rfl (by decide +kernel) ?_ | refine Run.drawW rfl (by decide +kernel) ?_); conv => whnf) | fail)
    all_goals try (exfalso; omega)
    exact Run.leave (ts := [2,3]) (.inr ⟨_, rfl⟩) rfl Tryd.func47 rfl (resT ⟨Le.int (by rw [List.take_length]), Le.refl _, trivial⟩)
theorem atoi_dig (l : List UInt8) (h1 : 1 ≤ l.length) (h2 : l.length ≤ 9) (hd : ∀ i, i < l.length → dig (l.getD i 0) = true) : Fn Tryd.prog 37 [.str (bs l)] (tupL [.int .i64 (valD l : Int), .nilif]) := by
  refine Fn.of Tryd.f37 _ Tryd.func37 rfl (by decide) (by show 1 ≤ _; decide) tbOk 18 rfl fun S w0 gl => ?_
  refine Run.go ?_; (conv => whnf); repeat' (first | ((with_reducible refine Know.mk fun _ => ?_); conv => whnf) | ((with_reducible refine Need.mk ?_ ?_); exact nd; conv => whnf) | ((with_reducible first | refine Both.mk ?_ ?_ | refine Any.mk fun b hb => ?_ | refine AskB.dec (fun hb => ?_) (fun hb => ?_) | refine AskB.ndec (fun hb => ?_) (fun hb => ?_) | refine AskB.mk (fun hb => ?_) (fun hb => ?_)) <;> conv => whnf) | ((with_reducible first | refine Run.drawX rfl (by decide +kernel) ?_ | refine Run.drawT rfl (by decide +kernel) ?_ | refine Run.drawW rfl (by decide +kernel) ?_); conv => whnf) | fail)
  refine Run.callBX (atoiI_dig l h1 h2 hd) rfl rfl ⟨Le.refl _, trivial⟩ rfl rfl rfl ?_
  (conv => whnf); repeat' (first | ((with_reducible refine Know.mk fun _ => ?_); conv => whnf) | ((with_reducible refine Need.mk ?_ ?_); exact nd; conv => whnf) | ((with_reducible first | refine Both.mk ?_ ?_ | refine Any.mk fun b hb => ?_ | refine AskB.dec (fun hb => ?_) (fun hb => ?_) | refine AskB.ndec (fun hb => ?_) (fun hb => ?_) | refine AskB.mk (fun hb => ?_) (fun hb => ?_)) <;> conv => whnf) | ((with_reducible first | refine Run.drawX rfl (by decide +kernel) ?_ | refine Run.drawT rfl (by decide +kernel) ?_ | refine Run.drawW rfl (by decide +kernel) ?_); conv => whnf) | fail)
  refine Run.binIf (b := false) (vx := .nilIface) (vy := .nilIface) rfl rfl rfl rfl (fun w => if_nilnil (by kernel_rfl) w) rfl rfl ?_
  refine Run.go ?_; (conv => whnf); repeat' (first | ((with_reducible refine Know.mk fun _ => ?_); conv => whnf) | ((with_reducible refine Need.mk ?_ ?_); exact nd; conv => whnf) | ((with_reducible first | refine Both.mk ?_ ?_ | refine Any.mk fun b hb => ?_ | refine AskB.dec (fun hb => ?_) (fun hb => ?_) | refine AskB.ndec (fun hb => ?_) (fun hb => ?_) | refine AskB.mk (fun hb => ?_) (fun hb => ?_)) <;> conv => whnf) | ((with_reducible first | refine Run.drawX rfl (by decide +kernel) ?_ | refine Run.drawT rfl (by decide +kernel) ?_ | refine Run.drawW rfl (by decide +kernel) ?_); conv => whnf) | fail)
  all_goals try (cases hb; done)
  exact Run.leave (ts := [2,3]) (.inr ⟨_, rfl⟩) rfl Tryd.func37 rfl (resT ⟨Le.refl _, Le.refl _, trivial⟩)
end Go.Proofs.YtkdpmkjbfkjmdaaDoor.V

namespace Go.Proofs.YtkdpmkjbfkjmdaaDoor.V
set_option linter.unusedVariables false
set_option linter.unusedSimpArgs false
open Go Go.Proofs Go.RowKit
set_option maxRecDepth 100000
set_option maxHeartbeats 1000000
def tPc : Ty Pc := ⟨3, fun p j => match j with | 0 => .int .i64 p.kind | 1 => tS.L p.texts | _ => .int .i64 p.n, ⟨0, [], 0⟩⟩
/-- A content that must say something. -/
def CR.full : CR → CR
  | .bad k => .bad k
  | .ok t r => if t = [] then .bad r.length else .ok t r
def CR.resF (l : List UInt8) : CR → Res
  | .bad k => .pan (flt (l.length - k))
  | .ok t r => .ret (tS.L [bs t])
def PR.n (l : List UInt8) : PR → Nat
  | .bad k => l.length - k
  | .ok p r => l.length - r.length
def PR.res (l : List UInt8) : PR → Res
  | .bad k => .pan (flt (l.length - k))
  | .ok p r => .ret (.agg 3 (tPc.enc p))
theorem one_sl (e : TypeId) (x : ByteArray) (g : Nat → Nat → AV) (h : Le (g 0 0) (.str x)) : Le (.sl 1 1 g) (tS.L [x]) := Le.sl fun i j hi hj => by
  obtain rfl : i = 0 := by omega
  obtain rfl : j = 0 := by omega
  exact h
theorem full_fn (l : List UInt8) (i : Nat) (hi : i ≤ l.length) (hl : l.length ≤ 65536) : FnM Tryd.prog 40 51 (stA l i) [] (stA l ((cont (l.drop i)).full.n l)) ((cont (l.drop i)).full.resF l) := by
  have h := said_fn l i hi hl
  cases hc : cont (l.drop i) with
  | bad k =>
    rw [hc] at h
    refine FnM.of Tryd.f40 _ Tryd.func40 rfl (by decide) (by show 1 ≤ _; decide) tbOk 12 rfl fun S w g gl hg => ?_
    refine Run.go ?_; (conv => whnf); repeat' (first | ((with_reducible refine Know.mk fun _ => ?_); conv => whnf) | ((with_reducible refine Need.mk ?_ ?_); exact nd; conv => whnf) | ((with_reducible first | refine Both.mk ?_ ?_ | refine Any.mk fun b hb => ?_ | refine AskB.dec (fun hb => ?_) (fun hb => ?_) | refine AskB.ndec (fun hb => ?_) (fun hb => ?_) | refine AskB.mk (fun hb => ?_) (fun hb => ?_)) <;> conv => whnf) | ((with_reducible first | refine Run.drawX rfl (by decide +kernel) ?_ | refine Run.drawT rfl (by decide +kernel) ?_ | refine Run.drawW rfl (by decide +kernel) ?_); conv => whnf) | fail)
    refine Run.callMP 300 h rfl rfl rfl (MOle.refl _) rfl (by trivial) rfl rfl ?_
    apply Raises.lent (hw0 := by rfl) (hkeep := by rfl) (henv := by rfl) (hraw := by rfl) (hg := hg) (hf := Tryd.func40)
    · rfl
    · exact MOle.refl _
    · rfl
  | ok t r =>
    rw [hc] at h
    refine FnM.of Tryd.f40 _ Tryd.func40 rfl (by decide) (by show 1 ≤ _; decide) tbOk 12 rfl fun S w g gl hg => ?_
    refine Run.go ?_; (conv => whnf); repeat' (first | ((with_reducible refine Know.mk fun _ => ?_); conv => whnf) | ((with_reducible refine Need.mk ?_ ?_); exact nd; conv => whnf) | ((with_reducible first | refine Both.mk ?_ ?_ | refine Any.mk fun b hb => ?_ | refine AskB.dec (fun hb => ?_) (fun hb => ?_) | refine AskB.ndec (fun hb => ?_) (fun hb => ?_) | refine AskB.mk (fun hb => ?_) (fun hb => ?_)) <;> conv => whnf) | ((with_reducible first | refine Run.drawX rfl (by decide +kernel) ?_ | refine Run.drawT rfl (by decide +kernel) ?_ | refine Run.drawW rfl (by decide +kernel) ?_); conv => whnf) | fail)
    refine Run.callM 300 h rfl rfl rfl (MOle.refl _) rfl (by trivial) rfl rfl rfl ?_
    refine Run.go ?_; (conv => whnf); repeat' (first | ((with_reducible refine Know.mk fun _ => ?_); conv => whnf) | ((with_reducible refine Need.mk ?_ ?_); exact nd; conv => whnf) | ((with_reducible first | refine Both.mk ?_ ?_ | refine Any.mk fun b hb => ?_ | refine AskB.dec (fun hb => ?_) (fun hb => ?_) | refine AskB.ndec (fun hb => ?_) (fun hb => ?_) | refine AskB.mk (fun hb => ?_) (fun hb => ?_)) <;> conv => whnf) | ((with_reducible first | refine Run.drawX rfl (by decide +kernel) ?_ | refine Run.drawT rfl (by decide +kernel) ?_ | refine Run.drawW rfl (by decide +kernel) ?_); conv => whnf) | fail)
    · have ht : t = [] := bs_inj (by assumption)
      subst ht
      refine Run.callMP 300 (fail_fn l (l.length - r.length)) rfl rfl rfl (MOle.refl _) rfl (by trivial) rfl rfl ?_
      apply Raises.lent (hw0 := by rfl) (hkeep := by rfl) (henv := by rfl) (hraw := by rfl) (hg := hg) (hf := Tryd.func40)
      · rfl
      · exact MOle.refl _
      · rfl
    · have ht : t ≠ [] := fun e => by
        subst e
        exact absurd rfl (by assumption)
      have hf : (CR.ok t r).full = .ok t r := if_neg ht
      apply Run.leaveM (ts := [2]) (hk := by first | exact .inr ⟨_, rfl⟩ | exact .inl rfl) (hw0 := by rfl) (hkeep := by rfl) (henv := by rfl) (hraw := by rfl) (hg := hg) (hf := Tryd.func40) (hres := by rfl)
      · show PostM S w g _ (stA l ((CR.ok t r).full.n l)) ((CR.ok t r).full.resF l) = _
        rw [hf]; rfl
      · exact MOle.refl _
      · rfl
      · exact one_sl 5 _ _ (Le.refl _)
end Go.Proofs.YtkdpmkjbfkjmdaaDoor.V

namespace Go.Proofs.YtkdpmkjbfkjmdaaDoor.V
set_option linter.unusedVariables false
set_option linter.unusedSimpArgs false
open Go Go.Proofs Go.RowKit
set_option maxRecDepth 100000
set_option maxHeartbeats 1000000
theorem suf_drop {l r : List UInt8} (h : r <:+ l) : l.drop (l.length - r.length) = r := (List.suffix_iff_eq_drop.mp h).symm
theorem suf_le {l r : List UInt8} (h : r <:+ l) : r.length ≤ l.length := h.length_le
theorem suf_cons {l r : List UInt8} {c : UInt8} (h : (c :: r) <:+ l) : r <:+ l := (List.suffix_cons c r).trans h
theorem suf_at {l r : List UInt8} {c : UInt8} (h : (c :: r) <:+ l) : l.getD (l.length - (c :: r).length) 0 = c := by
  have h1 := suf_drop h
  have h2 := suf_le h
  rw [drop_get l _ (by simp only [List.length_cons] at h2 ⊢; omega)] at h1
  exact (List.cons.inj h1).1
theorem cont_suf : ∀ (n : Nat) (l : List UInt8), l.length ≤ n → ∀ {t r}, cont l = .ok t r → r <:+ l
  | n, [], _, t, r, h => by cases h; exact List.suffix_refl _
  | 0, c :: l, hn, _, _, _ => absurd hn (by simp)
  | n + 1, c :: l, hn, t, r, h => by
    have hpush : ∀ (x : CR) (d : UInt8), x.push d = .ok t r → ∃ t', x = .ok t' r := by
      intro x d hx
      cases x with
      | bad k => cases hx
      | ok t' r' => cases hx; exact ⟨t', rfl⟩
    simp only [List.length_cons] at hn
    by_cases h2 : isMk c = true
    · by_cases h1 : c = 92
      · subst h1
        cases l with
        | nil => rw [cont_end] at h; cases h
        | cons d l =>
          simp only [List.length_cons] at hn
          by_cases hd : isMk d = true
          · rw [cont_esc l hd] at h
            obtain ⟨t', h'⟩ := hpush _ _ h
            exact (cont_suf n l (by omega) h').trans ((List.suffix_cons d l).trans (List.suffix_cons 92 _))
          · rw [cont_bad l hd] at h; cases h
      · rw [cont_stop l h1 h2] at h
        cases h
        exact List.suffix_refl _
    · rw [cont_plain l h2] at h
      obtain ⟨t', h'⟩ := hpush _ _ h
      exact (cont_suf n l (by omega) h').trans (List.suffix_cons c l)
theorem full_ok {x : CR} {t r : List UInt8} (h : x.full = .ok t r) : x = .ok t r ∧ t ≠ [] := by
  cases x with
  | bad k => cases h
  | ok t' r' =>
    have h' : (if t' = [] then CR.bad r'.length else CR.ok t' r') = .ok t r := h
    by_cases ht : t' = []
    · rw [if_pos ht] at h'; cases h'
    · rw [if_neg ht] at h'; cases h'; exact ⟨rfl, ht⟩
theorem dimR_eq (r : List UInt8) : dimR r = match (cont r).full with
    | .bad k => .bad k
    | .ok t r' => wantR 62 ⟨4, [bs t], 0⟩ r' := by
  unfold dimR CR.full
  cases cont r with
  | bad k => rfl
  | ok t r' => dsimp only; split <;> rfl
theorem plainR_eq (r : List UInt8) : plainR r = match (cont r).full with
    | .bad k => .bad k
    | .ok t r' => .ok ⟨1, [bs t], 0⟩ r' := by
  unfold plainR CR.full
  cases cont r with
  | bad k => rfl
  | ok t r' => dsimp only; split <;> rfl
def PR.resW (l : List UInt8) : PR → Res
  | .bad k => .pan (flt (l.length - k))
  | .ok p r => .ret (.tup 0 fun _ => .u)
theorem want_fn (l r : List UInt8) (c : UInt8) (p : Pc) (hr : r <:+ l) (hl : l.length ≤ 65536) : FnM Tryd.prog 39 51 (stA l (l.length - r.length)) [.int .u8 (c.toNat : Int)] (stA l ((wantR c p r).n l)) ((wantR c p r).resW l) := by
  cases r with
  | nil => exact want_no l _ c (by simp) hl (.inl (by simp))
  | cons d r =>
    have h1 := suf_at hr
    have h2 := suf_le hr
    simp only [List.length_cons] at h2
    rw [show wantR c p (d :: r) = if d = c then .ok p r else .bad (r.length + 1) from rfl]
    by_cases hd : d = c
    · rw [if_pos hd]
      have h3 : l.length - (d :: r).length + 1 = l.length - r.length := by simp only [List.length_cons]; omega
      have := want_yes l (l.length - (d :: r).length) c (by simp only [List.length_cons]; omega) hl (by rw [h1, hd])
      rw [h3] at this
      exact this
    · rw [if_neg hd]
      exact want_no l _ c (by omega) hl (.inr (by rw [h1]; exact hd))
theorem peek_is (l : List UInt8) (i : Nat) (c : UInt8) (hi : i ≤ l.length) (hl : l.length ≤ 65536) (hc : l.getD i 0 = c) : FnM Tryd.prog 36 51 (stA l i) [] (stA l i) (.ret (.int .u8 (c.toNat : Int))) := by
  have := peek_fn l i hi hl
  unfold pk at this
  rwa [hc] at this
theorem pc_le {g : Nat → AV} {p : Pc} (h0 : Le (g 0) (.int .i64 p.kind)) (h1 : Le (g 1) (tS.L p.texts)) (h2 : Le (g 2) (.int .i64 p.n)) : Le (.agg 3 g) (.agg 3 (tPc.enc p)) := Le.agg fun j hj => by
  match j, hj with
  | 0, _ => exact h0
  | 1, _ => exact h1
  | 2, _ => exact h2
theorem hR_pbad {S : Nat → Prop} {w : World} {g : Nat} {t : TypeId} {l : List UInt8} {x : PR} {k n : Nat} (h : x = .bad k) (hn : l.length - k = n) : PostM S w g t (stA l (x.n l)) (x.res l) = PostM S w g t (stA l n) (.pan (flt n)) := by
  subst h; subst hn; rfl
theorem hR_pok {S : Nat → Prop} {w : World} {g : Nat} {t : TypeId} {l r : List UInt8} {x : PR} {p : Pc} (h : x = .ok p r) : PostM S w g t (stA l (x.n l)) (x.res l) = PostM S w g t (stA l (l.length - r.length)) (.ret (.agg 3 (tPc.enc p))) := by
  subst h; rfl
theorem piece_plain (l : List UInt8) (i : Nat) (hi : i < l.length) (hl : l.length ≤ 65536) (h1 : l.getD i 0 ≠ 91) (h2 : l.getD i 0 ≠ 60) (h3 : l.getD i 0 ≠ 123) : FnM Tryd.prog 20 51 (stA l i) [] (stA l ((plainR (l.drop i)).n l)) ((plainR (l.drop i)).res l) := by
  have hpk := peek_is l i _ (by omega) hl rfl
  have hf := full_fn l i (by omega) hl
  generalize hcc : l.getD i 0 = c at h1 h2 h3 hpk
  have k1 : c.toNat ≠ 91 := fun e => h1 (UInt8.toNat.inj e)
  have k2 : c.toNat ≠ 60 := fun e => h2 (UInt8.toNat.inj e)
  have k3 : c.toNat ≠ 123 := fun e => h3 (UInt8.toNat.inj e)
  refine FnM.of Tryd.f20 _ Tryd.func20 rfl (by decide) (by show 1 ≤ _; decide) tbOk 187 rfl fun S w g gl hg => ?_
  refine Run.go ?_; (conv => whnf); repeat' (first | ((with_reducible refine Know.mk fun _ => ?_); conv => whnf) | ((with_reducible refine Need.mk ?_ ?_); exact nd; conv => whnf) | ((with_reducible first | refine Both.mk ?_ ?_ | refine Any.mk fun b hb => ?_ | refine AskB.dec (fun hb => ?_) (fun hb => ?_) | refine AskB.ndec (fun hb => ?_) (fun hb => ?_) | refine AskB.mk (fun hb => ?_) (fun hb => ?_)) <;> conv => whnf) | ((with_reducible first | refine Run.drawX rfl (by decide +kernel) ?_ | refine Run.drawT rfl (by decide +kernel) ?_ | refine Run.drawW rfl (by decide +kernel) ?_); conv => whnf) | fail)
  refine Run.callM 300 hpk rfl rfl rfl (MOle.refl _) rfl (by trivial) rfl rfl rfl ?_
  refine Run.go ?_; (conv => whnf); repeat' (first | ((with_reducible refine Know.mk fun _ => ?_); conv => whnf) | ((with_reducible refine Need.mk ?_ ?_); exact nd; conv => whnf) | ((with_reducible refine Both.mk ?_ ?_) <;> conv => whnf) | ((with_reducible refine Any.mk fun b hb => ?_); conv => whnf) | ((with_reducible first | refine AskB.dec (fun hb => ?_) (fun hb => ?_) | refine AskB.ndec (fun hb => ?_) (fun hb => ?_) | refine AskB.mk (fun hb => ?_) (fun hb => ?_)) <;> first | (exfalso; omega) | (conv => whnf)) | ((with_reducible first | refine Run.drawX rfl (by decide +kernel) ?_ | refine Run.drawT rfl (by decide +kernel) ?_ | refine Run.drawW rfl (by decide +kernel) ?_); conv => whnf) | fail)
  all_goals try (exfalso; omega)
  have he := plainR_eq (l.drop i)
  cases hx : (cont (l.drop i)).full with
  | bad k =>
    rw [hx] at hf he
    refine Run.callMP 300 hf rfl rfl rfl (MOle.refl _) rfl (by trivial) rfl rfl ?_
    apply Raises.lent (hw0 := by rfl) (hkeep := by rfl) (henv := by rfl) (hraw := by rfl) (hg := hg) (hf := Tryd.func20)
    · exact hR_pbad he rfl
    · exact MOle.refl _
    · rfl
  | ok t r =>
    rw [hx] at hf he
    refine Run.callM 300 hf rfl rfl rfl (MOle.refl _) rfl (by trivial) rfl rfl rfl ?_
    refine Run.go ?_; (conv => whnf); repeat' (first | ((with_reducible refine Know.mk fun _ => ?_); conv => whnf) | ((with_reducible refine Need.mk ?_ ?_); exact nd; conv => whnf) | ((with_reducible first | refine Both.mk ?_ ?_ | refine Any.mk fun b hb => ?_ | refine AskB.dec (fun hb => ?_) (fun hb => ?_) | refine AskB.ndec (fun hb => ?_) (fun hb => ?_) | refine AskB.mk (fun hb => ?_) (fun hb => ?_)) <;> conv => whnf) | ((with_reducible first | refine Run.drawX rfl (by decide +kernel) ?_ | refine Run.drawT rfl (by decide +kernel) ?_ | refine Run.drawW rfl (by decide +kernel) ?_); conv => whnf) | fail)
    apply Run.leaveMC (hk := by first | exact .inr ⟨_, rfl⟩ | exact .inl rfl) (hw0 := by rfl) (hkeep := by rfl) (henv := by rfl) (hraw := by rfl) (hg := hg) (hf := Tryd.func20) (hres := by rfl) (hp := by rfl) (hag := by rfl) (hm := Nat.le_of_ble_eq_true rfl)
    · exact hR_pok he
    · exact MOle.refl _
    · rfl
    · exact pc_le (Le.refl _) (Le.refl _) (Le.refl _)
theorem piece_dim (l : List UInt8) (i : Nat) (hi : i < l.length) (hl : l.length ≤ 65536) (h1 : l.getD i 0 = 60) : FnM Tryd.prog 20 51 (stA l i) [] (stA l ((dimR (l.drop (i + 1))).n l)) ((dimR (l.drop (i + 1))).res l) := by
  have hpk : FnM Tryd.prog 36 51 (stA l i) [] (stA l i) (.ret (.int .u8 60)) := peek_is l i 60 (by omega) hl h1
  have hf := full_fn l (i + 1) (by omega) hl
  have hw1 : IntKind.i64.wrap ((i : Int) + 1) = ((i + 1 : Nat) : Int) := wrap64 (by omega) (by omega)
  refine FnM.of Tryd.f20 _ Tryd.func20 rfl (by decide) (by show 1 ≤ _; decide) tbOk 187 rfl fun S w g gl hg => ?_
  refine Run.go ?_; (conv => whnf); repeat' (first | ((with_reducible refine Know.mk fun _ => ?_); conv => whnf) | ((with_reducible refine Need.mk ?_ ?_); exact nd; conv => whnf) | ((with_reducible first | refine Both.mk ?_ ?_ | refine Any.mk fun b hb => ?_ | refine AskB.dec (fun hb => ?_) (fun hb => ?_) | refine AskB.ndec (fun hb => ?_) (fun hb => ?_) | refine AskB.mk (fun hb => ?_) (fun hb => ?_)) <;> conv => whnf) | ((with_reducible first | refine Run.drawX rfl (by decide +kernel) ?_ | refine Run.drawT rfl (by decide +kernel) ?_ | refine Run.drawW rfl (by decide +kernel) ?_); conv => whnf) | fail)
  refine Run.callM 300 hpk rfl rfl rfl (MOle.refl _) rfl (by trivial) rfl rfl rfl ?_
  refine Run.go ?_; (conv => whnf); repeat' (first | ((with_reducible refine Know.mk fun _ => ?_); conv => whnf) | ((with_reducible refine Need.mk ?_ ?_); exact nd; conv => whnf) | ((with_reducible refine Both.mk ?_ ?_) <;> conv => whnf) | ((with_reducible refine Any.mk fun b hb => ?_); conv => whnf) | ((with_reducible first | refine AskB.dec (fun hb => ?_) (fun hb => ?_) | refine AskB.ndec (fun hb => ?_) (fun hb => ?_) | refine AskB.mk (fun hb => ?_) (fun hb => ?_)) <;> first | (exfalso; omega) | (conv => whnf)) | ((with_reducible first | refine Run.drawX rfl (by decide +kernel) ?_ | refine Run.drawT rfl (by decide +kernel) ?_ | refine Run.drawW rfl (by decide +kernel) ?_); conv => whnf) | fail)
  all_goals try (exfalso; omega)
  have he := dimR_eq (l.drop (i + 1))
  cases hx : (cont (l.drop (i + 1))).full with
  | bad k =>
    rw [hx] at hf he
    refine Run.callMP 300 hf rfl rfl rfl (st_le hw1) rfl (by trivial) rfl rfl ?_
    apply Raises.lent (hw0 := by rfl) (hkeep := by rfl) (henv := by rfl) (hraw := by rfl) (hg := hg) (hf := Tryd.func20)
    · exact hR_pbad he rfl
    · exact MOle.refl _
    · rfl
  | ok t r =>
    rw [hx] at hf he
    simp only [] at he
    have hsr : r <:+ l := (cont_suf _ _ (Nat.le_refl _) (full_ok hx).1).trans (List.drop_suffix _ _)
    have hwt := want_fn l r 62 ⟨4, [bs t], 0⟩ hsr hl
    refine Run.callM 300 hf rfl rfl rfl (st_le hw1) rfl (by trivial) rfl rfl rfl ?_
    refine Run.go ?_; (conv => whnf); repeat' (first | ((with_reducible refine Know.mk fun _ => ?_); conv => whnf) | ((with_reducible refine Need.mk ?_ ?_); exact nd; conv => whnf) | ((with_reducible first | refine Both.mk ?_ ?_ | refine Any.mk fun b hb => ?_ | refine AskB.dec (fun hb => ?_) (fun hb => ?_) | refine AskB.ndec (fun hb => ?_) (fun hb => ?_) | refine AskB.mk (fun hb => ?_) (fun hb => ?_)) <;> conv => whnf) | ((with_reducible first | refine Run.drawX rfl (by decide +kernel) ?_ | refine Run.drawT rfl (by decide +kernel) ?_ | refine Run.drawW rfl (by decide +kernel) ?_); conv => whnf) | fail)
    cases hy : wantR 62 ⟨4, [bs t], 0⟩ r with
    | bad k =>
      rw [hy] at hwt he
      refine Run.callMP 300 hwt rfl rfl rfl (MOle.refl _) rfl ⟨Le.refl _, trivial⟩ rfl rfl ?_
      apply Raises.lent (hw0 := by rfl) (hkeep := by rfl) (henv := by rfl) (hraw := by rfl) (hg := hg) (hf := Tryd.func20)
      · exact hR_pbad he rfl
      · exact MOle.refl _
      · rfl
    | ok q r2 =>
      obtain ⟨hlt, rfl, rfl⟩ := wantR_le.2 hy
      rw [hy] at hwt he
      refine Run.callM 300 hwt rfl rfl rfl (MOle.refl _) rfl ⟨Le.refl _, trivial⟩ rfl rfl rfl ?_
      refine Run.go ?_; (conv => whnf); repeat' (first | ((with_reducible refine Know.mk fun _ => ?_); conv => whnf) | ((with_reducible refine Need.mk ?_ ?_); exact nd; conv => whnf) | ((with_reducible first | refine Both.mk ?_ ?_ | refine Any.mk fun b hb => ?_ | refine AskB.dec (fun hb => ?_) (fun hb => ?_) | refine AskB.ndec (fun hb => ?_) (fun hb => ?_) | refine AskB.mk (fun hb => ?_) (fun hb => ?_)) <;> conv => whnf) | ((with_reducible first | refine Run.drawX rfl (by decide +kernel) ?_ | refine Run.drawT rfl (by decide +kernel) ?_ | refine Run.drawW rfl (by decide +kernel) ?_); conv => whnf) | fail)
      apply Run.leaveMC (hk := by first | exact .inr ⟨_, rfl⟩ | exact .inl rfl) (hw0 := by rfl) (hkeep := by rfl) (henv := by rfl) (hraw := by rfl) (hg := hg) (hf := Tryd.func20) (hres := by rfl) (hp := by rfl) (hag := by rfl) (hm := Nat.le_of_ble_eq_true rfl)
      · exact hR_pok he
      · exact MOle.refl _
      · rfl
      · exact pc_le (Le.refl _) (Le.refl _) (Le.refl _)
end Go.Proofs.YtkdpmkjbfkjmdaaDoor.V

namespace Go.Proofs.YtkdpmkjbfkjmdaaDoor.V
set_option linter.unusedVariables false
set_option linter.unusedSimpArgs false
open Go Go.Proofs Go.RowKit
set_option maxRecDepth 100000
set_option maxHeartbeats 1000000
/-- How many digits are taken. -/
def ndL : List UInt8 → Nat
  | [] => 0
  | [d] => if dig d = true ∧ d ≠ 48 then 1 else 0
  | d :: e :: r => if dig d = true ∧ d ≠ 48 then (if dig e = true then 2 else 1) else 0
theorem dig_iff (c : UInt8) : dig c = true ↔ 48 ≤ c.toNat ∧ c.toNat ≤ 57 := decide_eq_true_iff
theorem ne48 (c : UInt8) : c ≠ 48 ↔ c.toNat ≠ 48 := ⟨fun h e => h (UInt8.toNat.inj e), fun h e => h (by rw [e]; rfl)⟩
theorem ndL1 (d : UInt8) : ndL [d] = if dig d = true ∧ d ≠ 48 then 1 else 0 := rfl
theorem ndL2 (d e : UInt8) (r : List UInt8) : ndL (d :: e :: r) = if dig d = true ∧ d ≠ 48 then (if dig e = true then 2 else 1) else 0 := rfl
theorem gapN1 (d : UInt8) : gapN [d] = if dig d = true ∧ d ≠ 48 then (d.toNat - 48, []) else (0, [d]) := rfl
theorem gapN2 (d e : UInt8) (r : List UInt8) : gapN (d :: e :: r) = if dig d = true ∧ d ≠ 48 then (if dig e = true then (10 * (d.toNat - 48) + (e.toNat - 48), r) else (d.toNat - 48, e :: r)) else (0, d :: e :: r) := rfl
theorem gapN_eq (r : List UInt8) : gapN r = (valD (r.take (ndL r)), r.drop (ndL r)) := by
  match r with
  | [] => rfl
  | [d] =>
    rw [ndL1, gapN1]
    split <;> simp [valD]
  | d :: e :: r =>
    rw [ndL2, gapN2]
    split
    · split <;> simp [valD]
    · simp [valD]
theorem nd_step (r : List UInt8) (j : Nat) (hj : j ≤ ndL r) : j < ndL r ↔ j < 2 ∧ j < r.length ∧ 48 ≤ (r.getD j 0).toNat ∧ (r.getD j 0).toNat ≤ 57 ∧ ¬ (j = 0 ∧ (r.getD j 0).toNat = 48) := by
  match r with
  | [] => simp [ndL]
  | [d] =>
    simp only [ndL1, dig_iff, ne48] at hj ⊢
    match j with
    | 0 =>
      simp only [List.getD_cons_zero, List.length_cons, List.length_nil]
      by_cases h : (48 ≤ d.toNat ∧ d.toNat ≤ 57) ∧ d.toNat ≠ 48
      · rw [if_pos h]
        exact ⟨fun _ => by omega, fun _ => by omega⟩
      · rw [if_neg h]
        exact ⟨fun h' => absurd h' (Nat.lt_irrefl _), fun ⟨_, _, a, b, c⟩ => absurd ⟨⟨a, b⟩, fun e => c ⟨trivial, e⟩⟩ h⟩
    | j + 1 => simp only [List.length_cons, List.length_nil]; split at hj <;> split <;> omega
  | d :: e :: r =>
    simp only [ndL2, dig_iff, ne48] at hj ⊢
    match j with
    | 0 =>
      simp only [List.getD_cons_zero, List.length_cons]
      by_cases h : (48 ≤ d.toNat ∧ d.toNat ≤ 57) ∧ d.toNat ≠ 48
      · rw [if_pos h]
        exact ⟨fun _ => by omega, fun _ => by split <;> omega⟩
      · rw [if_neg h]
        exact ⟨fun h' => absurd h' (Nat.lt_irrefl _), fun ⟨_, _, a, b, c⟩ => absurd ⟨⟨a, b⟩, fun e => c ⟨trivial, e⟩⟩ h⟩
    | 1 => simp only [List.getD_cons_succ, List.getD_cons_zero, List.length_cons]; split at hj <;> (try split at hj) <;> (try split) <;> (try split) <;> omega
    | j + 2 => simp only [List.length_cons]; split at hj <;> (try split at hj) <;> (try split) <;> (try split) <;> omega
theorem nd_le (r : List UInt8) : ndL r ≤ r.length ∧ ndL r ≤ 2 := by
  match r with
  | [] => exact ⟨Nat.le_refl _, by decide⟩
  | [d] => rw [ndL1]; split <;> simp
  | d :: e :: r => rw [ndL2]; split <;> (try split) <;> simp
theorem nd_dig (r : List UInt8) (j : Nat) (hj : j < ndL r) : dig (r.getD j 0) = true := by
  have := (nd_step r j (by omega)).mp hj
  rw [dig_iff]; omega
theorem Fn.up {P : Program} {f : FuncId} {args : List AV} {r r' : AV} (h : Fn P f args r) (hle : Le r r') : Fn P f args r' :=
  ⟨h.there, fun S w vs h1 h2 h3 h4 cs => by
    obtain ⟨e, w', fr, ⟨v, rfl, hb, hv⟩, rest⟩ := h.calls S w vs h1 h2 h3 h4 cs
    exact ⟨_, w', fr, ⟨v, rfl, hb, hle _ _ _ _ hv⟩, rest⟩⟩
theorem atoi_nd (r : List UInt8) : Fn Tryd.prog 37 [.str (bs (r.take (ndL r)))] (tupL [.int .i64 (valD (r.take (ndL r)) : Int), .u]) := by
  have h := nd_le r
  by_cases h0 : ndL r = 0
  · rw [h0]; exact atoi0_fn
  · refine (atoi_dig _ (by rw [List.length_take]; omega) (by rw [List.length_take]; omega) (fun i hi => ?_)).up (Le.tupL ⟨Le.refl _, Le.u _, trivial⟩)
    rw [List.length_take] at hi
    have := nd_dig r i (by omega)
    rw [List.getD, List.getElem?_take, if_pos (by omega)]
    exact this
theorem piece_gap (l : List UInt8) (i : Nat) (hi : i < l.length) (hl : l.length ≤ 65536) (h1 : l.getD i 0 = 91) : FnM Tryd.prog 20 51 (stA l i) [] (stA l ((gapR (l.drop (i + 1))).n l)) ((gapR (l.drop (i + 1))).res l) := by
  have hpk : FnM Tryd.prog 36 51 (stA l i) [] (stA l i) (.ret (.int .u8 91)) := peek_is l i 91 (by omega) hl h1
  have hw1 : IntKind.i64.wrap ((i : Int) + 1) = ((i + 1 : Nat) : Int) := wrap64 (by omega) (by omega)
  have hs := bs_size l
  generalize hr : l.drop (i + 1) = r
  have hrl : r.length = l.length - (i + 1) := by rw [← hr, List.length_drop]
  have hnl := nd_le r
  have hst := nd_step r
  have hat := atoi_nd r
  have hgn := gapN_eq r
  generalize ndL r = m at hnl hst hat hgn
  have hv99 : valD (r.take m) ≤ 99 := by have := (gapN_le r).2; rw [hgn] at this; exact this
  have hgl : ((gapN r).2).length = l.length - (i + 1 + m) := by rw [hgn, List.length_drop]; omega
  have hgv : (gapN r).1 = valD (r.take m) := by rw [hgn]
  have hgs : (gapN r).2 <:+ l := by rw [hgn, ← hr]; exact (List.drop_suffix _ _).trans (List.drop_suffix _ _)
  have hwt := want_fn l (gapN r).2 93 ⟨2, [], ((gapN r).1 : Int)⟩ hgs hl
  have hfl := fail_fn l (i + 1 + m)
  rw [hgl, show l.length - (l.length - (i + 1 + m)) = i + 1 + m by omega] at hwt
  refine FnM.of Tryd.f20 _ Tryd.func20 rfl (by decide) (by show 1 ≤ _; decide) tbOk 187 rfl fun S w g gl hg => ?_
  refine Run.go ?_; (conv => whnf); repeat' (first | ((with_reducible refine Know.mk fun _ => ?_); conv => whnf) | ((with_reducible refine Need.mk ?_ ?_); exact nd; conv => whnf) | ((with_reducible first | refine Both.mk ?_ ?_ | refine Any.mk fun b hb => ?_ | refine AskB.dec (fun hb => ?_) (fun hb => ?_) | refine AskB.ndec (fun hb => ?_) (fun hb => ?_) | refine AskB.mk (fun hb => ?_) (fun hb => ?_)) <;> conv => whnf) | ((with_reducible first | refine Run.drawX rfl (by decide +kernel) ?_ | refine Run.drawT rfl (by decide +kernel) ?_ | refine Run.drawW rfl (by decide +kernel) ?_); conv => whnf) | fail)
  refine Run.callM 300 hpk rfl rfl rfl (MOle.refl _) rfl (by trivial) rfl rfl rfl ?_
  refine Run.go ?_; (conv => whnf); repeat' (first | ((with_reducible refine Know.mk fun _ => ?_); conv => whnf) | ((with_reducible refine Need.mk ?_ ?_); exact nd; conv => whnf) | ((with_reducible refine Both.mk ?_ ?_) <;> conv => whnf) | ((with_reducible refine Any.mk fun b hb => ?_); conv => whnf) | ((with_reducible first | refine AskB.dec (fun hb => ?_) (fun hb => ?_) | refine AskB.ndec (fun hb => ?_) (fun hb => ?_) | refine AskB.mk (fun hb => ?_) (fun hb => ?_)) <;> first | (exfalso; omega) | (conv => whnf)) | ((with_reducible first | refine Run.drawX rfl (by decide +kernel) ?_ | refine Run.drawT rfl (by decide +kernel) ?_ | refine Run.drawW rfl (by decide +kernel) ?_); conv => whnf) | fail)
  all_goals try (exfalso; omega)
  refine Run.loop [0, 2] (fun (j : Nat) => [(3, .int .i64 ((i + 1 : Nat) : Int))]) (fun j => [(300, .box 51 (stA l (i + 1 + j))), (301, .raw w (g + 1) w.heap.size), (2, .box 34 [.int .i64 0, .nils, .int .i64 0])]) (fun j => j ≤ m) (fun j => m - j) 0 (Nat.zero_le _) ⟨Le.int hw1, trivial⟩ ⟨st_le hw1, MOle.refl _, MOle.refl _, trivial⟩ ?_
  intro j hj IH
  have hnd := hst j hj
  have hw2 : IntKind.i64.wrap (((i + 1 : Nat) : Int) + 2) = ((i + 3 : Nat) : Int) := wrap64 (by omega) (by omega)
  have hw3 : IntKind.i64.wrap (((i + 1 + j : Nat) : Int) + 1) = ((i + 1 + (j + 1) : Nat) : Int) := by rw [wrap64 (by omega) (by omega)]; omega
  have hbt : bt (bs l) (((i + 1 + j : Nat) : Int)).toNat = ((l.getD (i + 1 + j) 0).toNat : Int) := bt_at l _
  have hrj : r.getD j 0 = l.getD (i + 1 + j) 0 := by
    rw [← hr, List.getD, List.getElem?_drop]; rfl
  rw [hrj] at hnd
  generalize (l.getD (i + 1 + j) 0).toNat = x at hbt hnd
  refine Run.go ?_; (conv => whnf); repeat' (first | ((with_reducible refine Know.mk fun _ => ?_); conv => whnf) | ((with_reducible refine Need.mk ?_ ?_); exact nd; conv => whnf) | ((with_reducible refine Both.mk ?_ ?_) <;> conv => whnf) | ((with_reducible refine Any.mk fun b hb => ?_); conv => whnf) | ((with_reducible first | refine AskB.dec (fun hb => ?_) (fun hb => ?_) | refine AskB.ndec (fun hb => ?_) (fun hb => ?_) | refine AskB.mk (fun hb => ?_) (fun hb => ?_)) <;> first | (exfalso; omega) | (conv => whnf)) | ((with_reducible first | refine Run.drawX rfl (by decide +kernel) ?_ | refine Run.drawT rfl (by decide +kernel) ?_ | refine Run.drawW rfl (by decide +kernel) ?_); conv => whnf) | fail)
  all_goals try (exfalso; omega)
  all_goals first
    | (refine Run.to _ _ ?_ ?_ (IH (j + 1) (by omega) (by omega))
       · exact ⟨Le.refl _, Le.refl _, Le.refl _, trivial⟩
       · exact ⟨st_le hw3, MOle.refl _, MOle.refl _, trivial⟩)
    | skip
  all_goals
    obtain rfl : j = m := by omega
    refine CallQ.flat hat rfl ⟨Le.str ?_, trivial⟩ rfl ?_
    · rw [bs_extract, ← hr]
      simp only [Int.toNat_natCast]
      rw [show i + 1 + j - (i + 1) = j by omega]
    (conv => whnf); repeat' (first | ((with_reducible refine Know.mk fun _ => ?_); conv => whnf) | ((with_reducible refine Need.mk ?_ ?_); exact nd; conv => whnf) | ((with_reducible first | refine Both.mk ?_ ?_ | refine Any.mk fun b hb => ?_ | refine AskB.dec (fun hb => ?_) (fun hb => ?_) | refine AskB.ndec (fun hb => ?_) (fun hb => ?_) | refine AskB.mk (fun hb => ?_) (fun hb => ?_)) <;> conv => whnf) | ((with_reducible first | refine Run.drawX rfl (by decide +kernel) ?_ | refine Run.drawT rfl (by decide +kernel) ?_ | refine Run.drawW rfl (by decide +kernel) ?_); conv => whnf) | fail)
    · have hz : (gapN r).1 = 0 := by rw [hgv]; omega
      refine Run.callMP 300 hfl rfl rfl rfl (MOle.refl _) rfl (by trivial) rfl rfl ?_
      apply Raises.lent (hw0 := by rfl) (hkeep := by rfl) (henv := by rfl) (hraw := by rfl) (hg := hg) (hf := Tryd.func20)
      · exact hR_pbad (k := l.length - (i + 1 + j)) (by unfold gapR; rw [if_pos hz, hgl]) (by omega)
      · exact MOle.refl _
      · rfl
    · have hz : ¬ (gapN r).1 = 0 := by rw [hgv]; omega
      have he : gapR r = wantR 93 ⟨2, [], ((gapN r).1 : Int)⟩ (gapN r).2 := by unfold gapR; rw [if_neg hz]
      cases hy : wantR 93 ⟨2, [], ((gapN r).1 : Int)⟩ (gapN r).2 with
      | bad k =>
        rw [hy] at hwt he
        refine Run.callMP 300 hwt rfl rfl rfl (MOle.refl _) rfl ⟨Le.refl _, trivial⟩ rfl rfl ?_
        apply Raises.lent (hw0 := by rfl) (hkeep := by rfl) (henv := by rfl) (hraw := by rfl) (hg := hg) (hf := Tryd.func20)
        · exact hR_pbad he rfl
        · exact MOle.refl _
        · rfl
      | ok q r2 =>
        obtain ⟨hlt, rfl, hrr⟩ := wantR_le.2 hy
        rw [hy] at hwt he
        refine Run.callM 300 hwt rfl rfl rfl (MOle.refl _) rfl ⟨Le.refl _, trivial⟩ rfl rfl rfl ?_
        refine Run.go ?_; (conv => whnf); repeat' (first | ((with_reducible refine Know.mk fun _ => ?_); conv => whnf) | ((with_reducible refine Need.mk ?_ ?_); exact nd; conv => whnf) | ((with_reducible first | refine Both.mk ?_ ?_ | refine Any.mk fun b hb => ?_ | refine AskB.dec (fun hb => ?_) (fun hb => ?_) | refine AskB.ndec (fun hb => ?_) (fun hb => ?_) | refine AskB.mk (fun hb => ?_) (fun hb => ?_)) <;> conv => whnf) | ((with_reducible first | refine Run.drawX rfl (by decide +kernel) ?_ | refine Run.drawT rfl (by decide +kernel) ?_ | refine Run.drawW rfl (by decide +kernel) ?_); conv => whnf) | fail)
        apply Run.leaveMC (hk := by first | exact .inr ⟨_, rfl⟩ | exact .inl rfl) (hw0 := by rfl) (hkeep := by rfl) (henv := by rfl) (hraw := by rfl) (hg := hg) (hf := Tryd.func20) (hres := by rfl) (hp := by rfl) (hag := by rfl) (hm := Nat.le_of_ble_eq_true rfl)
        · exact hR_pok he
        · exact MOle.refl _
        · rfl
        · exact pc_le (Le.refl _) (tS.nil) (Le.int (by rw [hgv]))
end Go.Proofs.YtkdpmkjbfkjmdaaDoor.V

namespace Go.Proofs.YtkdpmkjbfkjmdaaDoor.V
set_option linter.unusedVariables false
set_option linter.unusedSimpArgs false
open Go Go.Proofs Go.RowKit
set_option maxRecDepth 100000
set_option maxHeartbeats 1000000
/-- Behind a hand's text. -/
def fixA : Nat → List ByteArray → List UInt8 → PR
  | _, ts, [] => fixEnd ts []
  | 0, ts, c :: r => fixEnd ts (c :: r)
  | f + 1, ts, c :: r => if c = 124 then fixR f ts r else fixEnd ts (c :: r)
theorem fixR_eq (f : Nat) (ts : List ByteArray) (r : List UInt8) : fixR f ts r = match cont r with
    | .bad k => .bad k
    | .ok t r' => fixA f (ts ++ [bs t]) r' := by
  cases f with
  | zero =>
    unfold fixR
    cases cont r with
    | bad k => rfl
    | ok t r' => cases r' <;> rfl
  | succ f =>
    unfold fixR
    cases cont r with
    | bad k => rfl
    | ok t r' => cases r' <;> rfl
theorem piece_fix (l : List UInt8) (i : Nat) (hi : i < l.length) (hl : l.length ≤ 65536) (h1 : l.getD i 0 = 123) : FnM Tryd.prog 20 51 (stA l i) [] (stA l ((fixR 3 [] (l.drop (i + 1))).n l)) ((fixR 3 [] (l.drop (i + 1))).res l) := by
  have hpk : FnM Tryd.prog 36 51 (stA l i) [] (stA l i) (.ret (.int .u8 123)) := peek_is l i 123 (by omega) hl h1
  have hw1 : IntKind.i64.wrap ((i : Int) + 1) = ((i + 1 : Nat) : Int) := wrap64 (by omega) (by omega)
  have hs := bs_size l
  have hsd := said_fn l (i + 1) (by omega) hl
  have he := fixR_eq 3 [] (l.drop (i + 1))
  refine FnM.of Tryd.f20 _ Tryd.func20 rfl (by decide) (by show 1 ≤ _; decide) tbOk 187 rfl fun S w g gl hg => ?_
  refine Run.go ?_; (conv => whnf); repeat' (first | ((with_reducible refine Know.mk fun _ => ?_); conv => whnf) | ((with_reducible refine Need.mk ?_ ?_); exact nd; conv => whnf) | ((with_reducible first | refine Both.mk ?_ ?_ | refine Any.mk fun b hb => ?_ | refine AskB.dec (fun hb => ?_) (fun hb => ?_) | refine AskB.ndec (fun hb => ?_) (fun hb => ?_) | refine AskB.mk (fun hb => ?_) (fun hb => ?_)) <;> conv => whnf) | ((with_reducible first | refine Run.drawX rfl (by decide +kernel) ?_ | refine Run.drawT rfl (by decide +kernel) ?_ | refine Run.drawW rfl (by decide +kernel) ?_); conv => whnf) | fail)
  refine Run.callM 300 hpk rfl rfl rfl (MOle.refl _) rfl (by trivial) rfl rfl rfl ?_
  refine Run.go ?_; (conv => whnf); repeat' (first | ((with_reducible refine Know.mk fun _ => ?_); conv => whnf) | ((with_reducible refine Need.mk ?_ ?_); exact nd; conv => whnf) | ((with_reducible refine Both.mk ?_ ?_) <;> conv => whnf) | ((with_reducible refine Any.mk fun b hb => ?_); conv => whnf) | ((with_reducible first | refine AskB.dec (fun hb => ?_) (fun hb => ?_) | refine AskB.ndec (fun hb => ?_) (fun hb => ?_) | refine AskB.mk (fun hb => ?_) (fun hb => ?_)) <;> first | (exfalso; omega) | (conv => whnf)) | ((with_reducible first | refine Run.drawX rfl (by decide +kernel) ?_ | refine Run.drawT rfl (by decide +kernel) ?_ | refine Run.drawW rfl (by decide +kernel) ?_); conv => whnf) | fail)
  all_goals try (exfalso; omega)
  cases hx : cont (l.drop (i + 1)) with
  | bad k =>
    rw [hx] at hsd he
    refine Run.callMP 300 hsd rfl rfl rfl (st_le hw1) rfl (by trivial) rfl rfl ?_
    apply Raises.lent (hw0 := by rfl) (hkeep := by rfl) (henv := by rfl) (hraw := by rfl) (hg := hg) (hf := Tryd.func20)
    · exact hR_pbad he rfl
    · exact MOle.refl _
    · rfl
  | ok t r =>
    rw [hx] at hsd he
    have hsr : r <:+ l := (cont_suf _ _ (Nat.le_refl _) hx).trans (List.drop_suffix _ _)
    refine Run.callM 300 hsd rfl rfl rfl (st_le hw1) rfl (by trivial) rfl rfl rfl ?_
    refine Run.go ?_; (conv => whnf); repeat' (first | ((with_reducible refine Know.mk fun _ => ?_); conv => whnf) | ((with_reducible refine Need.mk ?_ ?_); exact nd; conv => whnf) | ((with_reducible first | refine Both.mk ?_ ?_ | refine Any.mk fun b hb => ?_ | refine AskB.dec (fun hb => ?_) (fun hb => ?_) | refine AskB.ndec (fun hb => ?_) (fun hb => ?_) | refine AskB.mk (fun hb => ?_) (fun hb => ?_)) <;> conv => whnf) | ((with_reducible first | refine Run.drawX rfl (by decide +kernel) ?_ | refine Run.drawT rfl (by decide +kernel) ?_ | refine Run.drawW rfl (by decide +kernel) ?_); conv => whnf) | fail)
    refine Run.hold (z := 142) 7 1000 (by rfl) (by rfl) (by rfl) ?_
    refine Run.loop [0, 2] (fun (a : List ByteArray × List UInt8) => [(7, .row 1000)]) (fun a => [(300, .box 51 (stA l (l.length - a.2.length))), (301, .raw w (g + 1) w.heap.size), (2, .box 34 [.int .i64 0, .nils, .int .i64 0]), (1000, tS.R 9 a.1)]) (fun a => 1 ≤ a.1.length ∧ a.1.length ≤ 4 ∧ a.2 <:+ l ∧ fixR 3 [] (l.drop (i + 1)) = fixA (4 - a.1.length) a.1 a.2) (fun a => 4 - a.1.length) ([bs t], r) ⟨Nat.le_refl _, by simp, hsr, he⟩ ⟨Le.refl _, trivial⟩ ⟨MOle.refl _, MOle.refl _, MOle.refl _, ?_, trivial⟩ ?_
    · refine ⟨rfl, rfl, rfl, fun i j hi hj => ?_⟩
      obtain rfl : i = 0 := by have : i < 1 := hi; omega
      obtain rfl : j = 0 := by have : j < 1 := hj; omega
      exact Le.refl _
    clear hsd he hx hsr
    intro ⟨ts, r⟩ ⟨ht1, ht4, hsr, he⟩ IH
    simp only [] at ht1 ht4 hsr he ⊢
    have hrl := suf_le hsr
    by_cases hcond : ∃ r2, r = 124 :: r2 ∧ ts.length < 4
    · obtain ⟨r2, rfl, hts⟩ := hcond
      have hpk : FnM Tryd.prog 36 51 (stA l (l.length - (124 :: r2 : List UInt8).length)) [] (stA l (l.length - (124 :: r2 : List UInt8).length)) (.ret (.int .u8 124)) := peek_is l _ 124 (by omega) hl (suf_at hsr)
      have hw2 : IntKind.i64.wrap (((l.length - (124 :: r2 : List UInt8).length : Nat) : Int) + 1) = ((l.length - r2.length : Nat) : Int) := by
        simp only [List.length_cons] at hrl ⊢
        rw [wrap64 (by omega) (by omega)]; omega
      simp only [List.length_cons] at hrl
      have hsd := said_fn l (l.length - r2.length) (by omega) hl
      obtain ⟨f, hf⟩ : ∃ f, 4 - ts.length = f + 1 := ⟨4 - ts.length - 1, by omega⟩
      rw [hf, show fixA (f + 1) ts (124 :: r2) = fixR f ts r2 by simp [fixA], fixR_eq f] at he
      rw [suf_drop (suf_cons hsr)] at hsd
      have hn : l.length - (124 :: r2 : List UInt8).length < l.length := by simp only [List.length_cons]; omega
      refine Run.go ?_; (conv => whnf); repeat' (first | ((with_reducible refine Know.mk fun _ => ?_); conv => whnf) | ((with_reducible refine Need.mk ?_ ?_); exact nd; conv => whnf) | ((with_reducible first | refine Both.mk ?_ ?_ | refine Any.mk fun b hb => ?_ | refine AskB.dec (fun hb => ?_) (fun hb => ?_) | refine AskB.ndec (fun hb => ?_) (fun hb => ?_) | refine AskB.mk (fun hb => ?_) (fun hb => ?_)) <;> conv => whnf) | ((with_reducible first | refine Run.drawX rfl (by decide +kernel) ?_ | refine Run.drawT rfl (by decide +kernel) ?_ | refine Run.drawW rfl (by decide +kernel) ?_); conv => whnf) | fail)
      refine CallQ.lent 300 hpk rfl rfl rfl rfl (by trivial) rfl rfl ?_
      (conv => whnf); repeat' (first | ((with_reducible refine Know.mk fun _ => ?_); conv => whnf) | ((with_reducible refine Need.mk ?_ ?_); exact nd; conv => whnf) | ((with_reducible refine Both.mk ?_ ?_) <;> conv => whnf) | ((with_reducible refine Any.mk fun b hb => ?_); conv => whnf) | ((with_reducible first | refine AskB.dec (fun hb => ?_) (fun hb => ?_) | refine AskB.ndec (fun hb => ?_) (fun hb => ?_) | refine AskB.mk (fun hb => ?_) (fun hb => ?_)) <;> first | (exfalso; omega) | (conv => whnf)) | ((with_reducible first | refine Run.drawX rfl (by decide +kernel) ?_ | refine Run.drawT rfl (by decide +kernel) ?_ | refine Run.drawW rfl (by decide +kernel) ?_); conv => whnf) | fail)
      all_goals try (exfalso; omega)
      cases hx : cont r2 with
      | bad k =>
        rw [hx] at hsd he
        refine Run.callMP 300 hsd rfl rfl rfl (st_le hw2) rfl (by trivial) rfl rfl ?_
        apply Raises.lent (hw0 := by rfl) (hkeep := by rfl) (henv := by rfl) (hraw := by rfl) (hg := hg) (hf := Tryd.func20)
        · exact hR_pbad he rfl
        · exact MOle.refl _
        · rfl
      | ok t r3 =>
        rw [hx] at hsd he
        refine Run.callM 300 hsd rfl rfl rfl (st_le hw2) rfl (by trivial) rfl rfl rfl ?_
        refine Run.go ?_; (conv => whnf); repeat' (first | ((with_reducible refine Know.mk fun _ => ?_); conv => whnf) | ((with_reducible refine Need.mk ?_ ?_); exact nd; conv => whnf) | ((with_reducible first | refine Both.mk ?_ ?_ | refine Any.mk fun b hb => ?_ | refine AskB.dec (fun hb => ?_) (fun hb => ?_) | refine AskB.ndec (fun hb => ?_) (fun hb => ?_) | refine AskB.mk (fun hb => ?_) (fun hb => ?_)) <;> conv => whnf) | ((with_reducible first | refine Run.drawX rfl (by decide +kernel) ?_ | refine Run.drawT rfl (by decide +kernel) ?_ | refine Run.drawW rfl (by decide +kernel) ?_); conv => whnf) | fail)
        refine Run.hold (z := 174) 7 1000 (by rfl) (by rfl) (by rfl) ?_
        have hln : (ts ++ [bs t]).length = ts.length + 1 := by simp
        refine Run.to _ _ ?_ ?_ (IH (ts ++ [bs t], r3) (by simp only [hln]; omega) ⟨by simp only [hln]; omega, by simp only [hln]; omega, (cont_suf _ _ (Nat.le_refl _) hx).trans (suf_cons hsr), by simp only [hln]; rw [he, show 4 - (ts.length + 1) = f by omega]⟩)
        · exact ⟨Le.refl _, Le.refl _, Le.refl _, trivial⟩
        · exact ⟨MOle.refl _, MOle.refl _, MOle.refl _, tS.push 9 ts (bs t) _ (one0 (Le.refl _)), trivial⟩
    · have hfe : fixR 3 [] (l.drop (i + 1)) = fixEnd ts r := by
        rw [he]
        cases r with
        | nil => unfold fixA; rfl
        | cons c r2 =>
          by_cases h4 : ts.length < 4
          · rw [show 4 - ts.length = (4 - ts.length - 1) + 1 by omega]
            exact if_neg (fun e => hcond ⟨r2, by rw [e], h4⟩)
          · rw [show 4 - ts.length = 0 by omega]; rfl
      have hpk := peek_is l (l.length - r.length) _ (by omega) hl rfl
      have hcon : ¬ ((l.getD (l.length - r.length) 0).toNat = 124 ∧ l.length - r.length < l.length ∧ ts.length < 4) := fun ⟨a, b, c⟩ => by
        cases r with
        | nil => simp at b
        | cons d r2 =>
          rw [suf_at hsr] at a
          exact hcond ⟨r2, by rw [show d = 124 from UInt8.toNat.inj a], c⟩
      generalize (l.getD (l.length - r.length) 0).toNat = x at hpk hcon
      refine Run.go ?_; (conv => whnf); repeat' (first | ((with_reducible refine Know.mk fun _ => ?_); conv => whnf) | ((with_reducible refine Need.mk ?_ ?_); exact nd; conv => whnf) | ((with_reducible first | refine Both.mk ?_ ?_ | refine Any.mk fun b hb => ?_ | refine AskB.dec (fun hb => ?_) (fun hb => ?_) | refine AskB.ndec (fun hb => ?_) (fun hb => ?_) | refine AskB.mk (fun hb => ?_) (fun hb => ?_)) <;> conv => whnf) | ((with_reducible first | refine Run.drawX rfl (by decide +kernel) ?_ | refine Run.drawT rfl (by decide +kernel) ?_ | refine Run.drawW rfl (by decide +kernel) ?_); conv => whnf) | fail)
      refine CallQ.lent 300 hpk rfl rfl rfl rfl (by trivial) rfl rfl ?_
      (conv => whnf); repeat' (first | ((with_reducible refine Know.mk fun _ => ?_); conv => whnf) | ((with_reducible refine Need.mk ?_ ?_); exact nd; conv => whnf) | ((with_reducible refine Both.mk ?_ ?_) <;> conv => whnf) | ((with_reducible refine Any.mk fun b hb => ?_); conv => whnf) | ((with_reducible first | refine AskB.dec (fun hb => ?_) (fun hb => ?_) | refine AskB.ndec (fun hb => ?_) (fun hb => ?_) | refine AskB.mk (fun hb => ?_) (fun hb => ?_)) <;> first | (exfalso; omega) | (conv => whnf)) | ((with_reducible first | refine Run.drawX rfl (by decide +kernel) ?_ | refine Run.drawT rfl (by decide +kernel) ?_ | refine Run.drawW rfl (by decide +kernel) ?_); conv => whnf) | fail)
      all_goals try (exfalso; omega)
      all_goals first
        | (have hlt : ts.length < 2 := by omega
           refine Run.callMP 300 (fail_fn l (l.length - r.length)) rfl rfl rfl (MOle.refl _) rfl (by trivial) rfl rfl ?_
           apply Raises.lent (hw0 := by rfl) (hkeep := by rfl) (henv := by rfl) (hraw := by rfl) (hg := hg) (hf := Tryd.func20)
           · exact hR_pbad (k := r.length) (by rw [hfe]; unfold fixEnd; rw [if_pos hlt]) rfl
           · exact MOle.refl _
           · rfl)
        | (have hge : ¬ ts.length < 2 := by omega
           have he3 : fixR 3 [] (l.drop (i + 1)) = wantR 125 ⟨3, ts, 0⟩ r := by rw [hfe]; unfold fixEnd; rw [if_neg hge]
           have hwt := want_fn l r 125 ⟨3, ts, 0⟩ hsr hl
           cases hy : wantR 125 ⟨3, ts, 0⟩ r with
           | bad k =>
             rw [hy] at hwt he3
             refine Run.callMP 300 hwt rfl rfl rfl (MOle.refl _) rfl ⟨Le.refl _, trivial⟩ rfl rfl ?_
             apply Raises.lent (hw0 := by rfl) (hkeep := by rfl) (henv := by rfl) (hraw := by rfl) (hg := hg) (hf := Tryd.func20)
             · exact hR_pbad he3 rfl
             · exact MOle.refl _
             · rfl
           | ok q r2 =>
             obtain ⟨hlt, rfl, rfl⟩ := wantR_le.2 hy
             rw [hy] at hwt he3
             refine Run.callM 300 hwt rfl rfl rfl (MOle.refl _) rfl ⟨Le.refl _, trivial⟩ rfl rfl rfl ?_
             refine Run.go ?_; (conv => whnf); repeat' (first | ((with_reducible refine Know.mk fun _ => ?_); conv => whnf) | ((with_reducible refine Need.mk ?_ ?_); exact nd; conv => whnf) | ((with_reducible first | refine Both.mk ?_ ?_ | refine Any.mk fun b hb => ?_ | refine AskB.dec (fun hb => ?_) (fun hb => ?_) | refine AskB.ndec (fun hb => ?_) (fun hb => ?_) | refine AskB.mk (fun hb => ?_) (fun hb => ?_)) <;> conv => whnf) | ((with_reducible first | refine Run.drawX rfl (by decide +kernel) ?_ | refine Run.drawT rfl (by decide +kernel) ?_ | refine Run.drawW rfl (by decide +kernel) ?_); conv => whnf) | fail)
             apply Run.leaveMC (hk := by first | exact .inr ⟨_, rfl⟩ | exact .inl rfl) (hw0 := by rfl) (hkeep := by rfl) (henv := by rfl) (hraw := by rfl) (hg := hg) (hf := Tryd.func20) (hres := by rfl) (hp := by rfl) (hag := by rfl) (hm := Nat.le_of_ble_eq_true rfl)
             · exact hR_pok he3
             · exact MOle.refl _
             · rfl
             · exact pc_le (Le.refl _) (Le.refl _) (Le.refl _))
theorem piece_fn (l : List UInt8) (i : Nat) (hi : i < l.length) (hl : l.length ≤ 65536) : FnM Tryd.prog 20 51 (stA l i) [] (stA l ((pieceR (l.drop i)).n l)) ((pieceR (l.drop i)).res l) := by
  have hd := drop_get l i hi
  have he : pieceR (l.drop i) = if l.getD i 0 = 91 then gapR (l.drop (i + 1)) else if l.getD i 0 = 60 then dimR (l.drop (i + 1)) else if l.getD i 0 = 123 then fixR 3 [] (l.drop (i + 1)) else plainR (l.drop i) := by
    rw [hd, pieceR_cons]
  by_cases h1 : l.getD i 0 = 91
  · rw [he, if_pos h1]; exact piece_gap l i hi hl h1
  by_cases h2 : l.getD i 0 = 60
  · rw [he, if_neg h1, if_pos h2]; exact piece_dim l i hi hl h2
  by_cases h3 : l.getD i 0 = 123
  · rw [he, if_neg h1, if_neg h2, if_pos h3]; exact piece_fix l i hi hl h3
  rw [he, if_neg h1, if_neg h2, if_neg h3]; exact piece_plain l i hi hl h1 h2 h3
end Go.Proofs.YtkdpmkjbfkjmdaaDoor.V

namespace Go.Proofs.YtkdpmkjbfkjmdaaDoor.V
set_option linter.unusedVariables false
set_option linter.unusedSimpArgs false
open Go Go.Proofs Go.RowKit
set_option maxRecDepth 100000
set_option maxHeartbeats 1000000
/-- What Parse answers. -/
def parseA (l : List UInt8) : AV := tupL [tPc.L (parseT l).1, .int .i64 ((parseT l).2.1 : Int), .int .i64 (parseT l).2.2]
theorem box1_u {t : TypeId} {x : AV} : MOle (.box t [x]) (.box t [.u]) := ⟨rfl, rfl, fun j a b ha hb => by
  cases j with
  | zero => cases hb; exact Le.u _
  | succ j => simp at hb⟩
theorem fixR_suf : ∀ (f : Nat) (ts : List ByteArray) (r : List UInt8) {q : Pc} {r' : List UInt8}, fixR f ts r = .ok q r' → r' <:+ r
  | f, ts, r, q, r', h => by
    have hend : ∀ {ts : List ByteArray} {r : List UInt8}, fixEnd ts r = .ok q r' → r' <:+ r := by
      intro ts r h
      unfold fixEnd at h
      split at h
      · cases h
      · obtain ⟨_, _, e⟩ := wantR_le.2 h
        rw [e]; exact List.suffix_cons _ _
    rw [fixR_eq] at h
    cases hc : cont r with
    | bad k => rw [hc] at h; cases h
    | ok t r1 =>
      rw [hc] at h
      have hs := cont_suf _ r (Nat.le_refl _) hc
      refine List.IsSuffix.trans ?_ hs
      match f, r1, h with
      | f, [], h => exact hend (by cases f <;> exact h)
      | 0, c :: r2, h => exact hend h
      | f + 1, c :: r2, h =>
        have h' : (if c = 124 then fixR f (ts ++ [bs t]) r2 else fixEnd (ts ++ [bs t]) (c :: r2)) = .ok q r' := h
        split at h'
        · exact (fixR_suf f _ r2 h').trans (List.suffix_cons _ _)
        · exact hend h'
theorem pieceR_suf {l r : List UInt8} {q : Pc} (h : pieceR l = .ok q r) : r <:+ l := by
  have hplain : ∀ {s : List UInt8}, plainR s = .ok q r → r <:+ s := by
    intro s h
    rw [plainR_eq] at h
    cases hx : (cont s).full with
    | bad k => rw [hx] at h; cases h
    | ok t r' => rw [hx] at h; cases h; exact cont_suf _ _ (Nat.le_refl _) (full_ok hx).1
  cases l with
  | nil => exact hplain h
  | cons c s =>
    rw [pieceR_cons] at h
    split at h
    · refine List.IsSuffix.trans ?_ (List.suffix_cons c s)
      unfold gapR at h
      split at h
      · cases h
      · obtain ⟨_, _, e⟩ := wantR_le.2 h
        have : (gapN s).2 <:+ s := by rw [gapN_eq]; exact List.drop_suffix _ _
        exact (by rw [e]; exact List.suffix_cons _ _ : r <:+ (gapN s).2).trans this
    · split at h
      · refine List.IsSuffix.trans ?_ (List.suffix_cons c s)
        rw [dimR_eq] at h
        cases hx : (cont s).full with
        | bad k => rw [hx] at h; cases h
        | ok t r' =>
          rw [hx] at h
          obtain ⟨_, _, e⟩ := wantR_le.2 h
          exact (by rw [e]; exact List.suffix_cons _ _ : r <:+ r').trans (cont_suf _ _ (Nat.le_refl _) (full_ok hx).1)
      · split at h
        · exact (fixR_suf 3 [] s h).trans (List.suffix_cons c s)
        · exact hplain h
theorem caught {w0 : World} {S : Nat → Prop} {gl : GlobOk S w0} (p : Nat → Value) (n : Nat) : Unw (({ P := Tryd.prog, T := TB, tok := tbOk, N := 26, w0 := w0, S := S, glob := gl, f := 10, R := Post S w0 (tupL [tPc.L [], .int .i64 (n : Int), .int .i64 50]) } : Ctx).defs 19 [2, 3, 4] p)
    (.panicking [{ v := flt n, recovered := false }]) (lst [(2, .box 2 0), (3, .box 103 0), (4, .box 4 0)]) (lstH [(2, .box 23 [.u]), (103, .box 3 [.int .i64 0]), (4, .box 24 [.int .i64 0])]) := by
  refine Unw.deferred 950 Tryd.f19 _ 13 (u' := .panicking [{ v := flt n, recovered := true }]) (x := flt n) (.val (flt n)) rfl rfl (by simp) rfl Tryd.func19 rfl (by decide) rfl (by decide) (d0 := 6) (by decide) (fun b a cl cs w hb hc => pre_rec rfl rfl rfl rfl rfl rfl rfl rfl (flt n) b a cl cs w hb hc) (fun _ _ _ => ⟨rfl, rfl⟩) (fun a hsz hdf => ?_)
  refine Run.assertOk (kd := .i64) (n := (n : Int)) rfl rfl rfl (by kernel_rfl) rfl rfl ?_
  refine Run.go ?_; (conv => whnf); repeat' (first | ((with_reducible refine Know.mk fun _ => ?_); conv => whnf) | ((with_reducible refine Need.mk ?_ ?_); exact nd; conv => whnf) | ((with_reducible first | refine Both.mk ?_ ?_ | refine Any.mk fun b hb => ?_ | refine AskB.dec (fun hb => ?_) (fun hb => ?_) | refine AskB.ndec (fun hb => ?_) (fun hb => ?_) | refine AskB.mk (fun hb => ?_) (fun hb => ?_)) <;> conv => whnf) | ((with_reducible first | refine Run.drawX rfl (by decide +kernel) ?_ | refine Run.drawT rfl (by decide +kernel) ?_ | refine Run.drawW rfl (by decide +kernel) ?_); conv => whnf) | fail)
  refine Run.backD 950 hsz hdf (.inl rfl) (by rfl) Tryd.func19 rfl ?_
  exact fin_cells3 rfl Tryd.func10 rfl rfl rfl rfl Nat.one_pos Nat.one_pos Nat.one_pos rfl rfl rfl tPc.nil (Le.refl _) (Le.refl _)
theorem caught0 {w0 : World} {S : Nat → Prop} {gl : GlobOk S w0} (p : Nat → Value) (ps : List Pc) : Unw (({ P := Tryd.prog, T := TB, tok := tbOk, N := 26, w0 := w0, S := S, glob := gl, f := 10, R := Post S w0 (tupL [tPc.L ps, .int .i64 0, .int .i64 0]) } : Ctx).defs 19 [2, 3, 4] p)
    .returning (lst [(2, .box 2 0), (3, .box 103 0), (4, .box 4 0)]) (lstH [(2, .box 23 [.row 1000]), (103, .box 3 [.int .i64 0]), (4, .box 24 [.int .i64 0]), (1000, tPc.R 34 ps)]) := by
  refine Unw.deferred 950 Tryd.f19 _ 13 (u' := .returning) (x := .nilIface) .nilif rfl rfl (by simp) rfl Tryd.func19 rfl (by decide) rfl (by decide) (d0 := 6) (by decide) (fun b a cl cs w hb hc => pre_rec0 rfl rfl rfl rfl rfl rfl rfl rfl b a cl cs w hb hc) (fun _ _ _ => rfl) (fun a hsz hdf => ?_)
  refine Run.assertNil (kd := .i64) rfl rfl rfl (by kernel_rfl) (by kernel_rfl) rfl rfl ?_
  refine Run.go ?_; (conv => whnf); repeat' (first | ((with_reducible refine Know.mk fun _ => ?_); conv => whnf) | ((with_reducible refine Need.mk ?_ ?_); exact nd; conv => whnf) | ((with_reducible first | refine Both.mk ?_ ?_ | refine Any.mk fun b hb => ?_ | refine AskB.dec (fun hb => ?_) (fun hb => ?_) | refine AskB.ndec (fun hb => ?_) (fun hb => ?_) | refine AskB.mk (fun hb => ?_) (fun hb => ?_)) <;> conv => whnf) | ((with_reducible first | refine Run.drawX rfl (by decide +kernel) ?_ | refine Run.drawT rfl (by decide +kernel) ?_ | refine Run.drawW rfl (by decide +kernel) ?_); conv => whnf) | fail)
  refine Run.backD 950 hsz hdf (.inl rfl) (by rfl) Tryd.func19 rfl ?_
  exact fin_cells3 rfl Tryd.func10 rfl rfl rfl rfl Nat.one_pos Nat.one_pos Nat.one_pos rfl rfl rfl (Le.refl _) (Le.refl _) (Le.refl _)
theorem parse_fn (l : List UInt8) : Fn Tryd.prog 10 [.str (bs l)] (parseA l) := by
  refine Fn.of Tryd.f10 _ Tryd.func10 rfl (by decide) (by show 1 ≤ _; decide) tbOk 26 rfl fun S w0 gl => ?_
  have hs := bs_size l
  refine Run.go ?_; (conv => whnf); repeat' (first | ((with_reducible refine Know.mk fun _ => ?_); conv => whnf) | ((with_reducible refine Need.mk ?_ ?_); exact nd; conv => whnf) | ((with_reducible first | refine Both.mk ?_ ?_ | refine Any.mk fun b hb => ?_ | refine AskB.dec (fun hb => ?_) (fun hb => ?_) | refine AskB.ndec (fun hb => ?_) (fun hb => ?_) | refine AskB.mk (fun hb => ?_) (fun hb => ?_)) <;> conv => whnf) | ((with_reducible first | refine Run.drawX rfl (by decide +kernel) ?_ | refine Run.drawT rfl (by decide +kernel) ?_ | refine Run.drawW rfl (by decide +kernel) ?_); conv => whnf) | fail)
  · have hT : parseT l = ([], 0, 1) := if_pos (by omega)
    refine Unw.ret (.inr ⟨_, rfl⟩) (Unw.done (fn := Tryd.f10) rfl ?_)
    unfold parseA
    rw [hT]
    exact fin_cells3 rfl Tryd.func10 rfl rfl rfl rfl Nat.one_pos Nat.one_pos Nat.one_pos rfl rfl rfl tPc.nil (Le.refl _) (Le.refl _)
  refine Run.makeFunc rfl rfl rfl rfl rfl ?_
  refine Run.defer [2, 3, 4] [2, 3, 4] rfl rfl rfl rfl rfl rfl rfl rfl rfl rfl (fun p => ?_)
  refine Run.go ?_; (conv => whnf); repeat' (first | ((with_reducible refine Know.mk fun _ => ?_); conv => whnf) | ((with_reducible refine Need.mk ?_ ?_); exact nd; conv => whnf) | ((with_reducible first | refine Both.mk ?_ ?_ | refine Any.mk fun b hb => ?_ | refine AskB.dec (fun hb => ?_) (fun hb => ?_) | refine AskB.ndec (fun hb => ?_) (fun hb => ?_) | refine AskB.mk (fun hb => ?_) (fun hb => ?_)) <;> conv => whnf) | ((with_reducible first | refine Run.drawX rfl (by decide +kernel) ?_ | refine Run.drawT rfl (by decide +kernel) ?_ | refine Run.drawW rfl (by decide +kernel) ?_); conv => whnf) | fail)
  have hl : l.length ≤ 65536 := by omega
  have hT : parseT l = match parseL l with
      | .bad k => ([], l.length - k, 50)
      | .ok ps => (ps, 0, 0) := if_neg (by omega)
  refine Run.swap 3 103 ?_
  refine Run.holdBoxNil 2 0 1000 34 3 (fun _ _ => .u) rfl rfl rfl rfl ?_
  refine Run.loop [0] (fun (a : List Pc × Nat) => [(2, .box 2 0), (3, .box 103 0), (4, .box 4 0), (5, .box 12 0)]) (fun a => [(2, .box 23 [.row 1000]), (103, .box 3 [.int .i64 0]), (4, .box 24 [.int .i64 0]), (12, .box 51 (stA l a.2)), (1000, tPc.R 34 a.1)]) (fun a => a.2 ≤ l.length ∧ a.1.length ≤ a.2 ∧ (parseL (l.drop a.2)).app a.1 = parseL l) (fun a => l.length - a.2) ([], 0) ⟨Nat.zero_le _, Nat.zero_le _, QR.app_nil _⟩ ⟨Le.refl _, Le.refl _, Le.refl _, Le.refl _, trivial⟩ ⟨MOle.refl _, MOle.refl _, MOle.refl _, MOle.refl _, ⟨rfl, rfl, rfl, fun i j hi hj => absurd hi (Nat.not_lt_zero _)⟩, trivial⟩ ?_
  intro ⟨ps, i⟩ ⟨hi, hpl, hps⟩ IH
  simp only [] at hi hpl hps ⊢
  by_cases hil : i < l.length
  · have hpc := piece_fn l i hil hl
    have hne : l.drop i ≠ [] := fun e => by have := congrArg List.length e; rw [List.length_drop] at this; simp at this; omega
    cases hx : pieceR (l.drop i) with
    | bad k =>
      rw [hx] at hpc
      have hb : parseL l = .bad k := by rw [← hps, parseL_bad hne hx]; rfl
      rw [hb] at hT
      have hA : parseA l = tupL [tPc.L [], .int .i64 ((l.length - k : Nat) : Int), .int .i64 50] := by unfold parseA; rw [hT]
      clear IH
      rw [hA]
      refine Run.go ?_; (conv => whnf); repeat' (first | ((with_reducible refine Know.mk fun _ => ?_); conv => whnf) | ((with_reducible refine Need.mk ?_ ?_); exact nd; conv => whnf) | ((with_reducible first | refine Both.mk ?_ ?_ | refine Any.mk fun b hb => ?_ | refine AskB.dec (fun hb => ?_) (fun hb => ?_) | refine AskB.ndec (fun hb => ?_) (fun hb => ?_) | refine AskB.mk (fun hb => ?_) (fun hb => ?_)) <;> conv => whnf) | ((with_reducible first | refine Run.drawX rfl (by decide +kernel) ?_ | refine Run.drawT rfl (by decide +kernel) ?_ | refine Run.drawW rfl (by decide +kernel) ?_); conv => whnf) | fail)
      all_goals try (exfalso; omega)
      refine Run.drawP [] [] (fun i => i) 6 rfl (by decide +kernel) rfl rfl ?_
      (conv => whnf); repeat' (first | ((with_reducible refine Know.mk fun _ => ?_); conv => whnf) | ((with_reducible refine Need.mk ?_ ?_); exact nd; conv => whnf) | ((with_reducible first | refine Both.mk ?_ ?_ | refine Any.mk fun b hb => ?_ | refine AskB.dec (fun hb => ?_) (fun hb => ?_) | refine AskB.ndec (fun hb => ?_) (fun hb => ?_) | refine AskB.mk (fun hb => ?_) (fun hb => ?_)) <;> conv => whnf) | ((with_reducible first | refine Run.drawX rfl (by decide +kernel) ?_ | refine Run.drawT rfl (by decide +kernel) ?_ | refine Run.drawW rfl (by decide +kernel) ?_); conv => whnf) | fail)
      all_goals
        refine Run.callMP 12 hpc rfl rfl rfl (MOle.refl _) rfl (by trivial) rfl rfl ?_
        refine Unw.raises (Unw.to _ _ ?_ ?_ (caught p (l.length - k)))
        · exact ⟨Le.refl _, Le.refl _, Le.refl _, trivial⟩
        · exact ⟨box1_u, MOle.refl _, MOle.refl _, trivial⟩
    | ok q r =>
      rw [hx] at hpc
      have hlt := (pieceR_le (l.drop i)).2 hx
      rw [List.length_drop] at hlt
      have hn : ∃ m, l.length - r.length = m ∧ i < m ∧ m ≤ l.length ∧ l.drop m = r := ⟨_, rfl, by omega, by omega, suf_drop ((pieceR_suf hx).trans (List.drop_suffix _ _))⟩
      obtain ⟨m, hm, him, hml, hdm⟩ := hn
      have hps2 : (parseL (l.drop m)).app (ps ++ [q]) = parseL l := by rw [hdm, ← hps, parseL_ok hne hx, QR.app_push]
      have hpc' : FnM Tryd.prog 20 51 (stA l i) [] (stA l m) (.ret (.agg 3 (tPc.enc q))) := by rw [← hm]; exact hpc
      have IH2 := IH (ps ++ [q], m) (by simp only []; omega) ⟨hml, by simp; omega, hps2⟩
      simp only [] at IH2
      have hpush : MOle (.row 34 tPc.sz (ps.length + 1) (joinRow ps.length (tPc.G ps) fun i j => ([List.map (tPc.enc q) (List.range 3)].getD i []).getD j AV.u)) (tPc.R 34 (ps ++ [q])) := tPc.push 34 ps q _ (fun j hj => by
        match j, hj with
        | 0, _ => exact Le.refl _
        | 1, _ => exact Le.refl _
        | 2, _ => exact Le.refl _)
      refine Run.go ?_; (conv => whnf); repeat' (first | ((with_reducible refine Know.mk fun _ => ?_); conv => whnf) | ((with_reducible refine Need.mk ?_ ?_); exact nd; conv => whnf) | ((with_reducible first | refine Both.mk ?_ ?_ | refine Any.mk fun b hb => ?_ | refine AskB.dec (fun hb => ?_) (fun hb => ?_) | refine AskB.ndec (fun hb => ?_) (fun hb => ?_) | refine AskB.mk (fun hb => ?_) (fun hb => ?_)) <;> conv => whnf) | ((with_reducible first | refine Run.drawX rfl (by decide +kernel) ?_ | refine Run.drawT rfl (by decide +kernel) ?_ | refine Run.drawW rfl (by decide +kernel) ?_); conv => whnf) | fail)
      all_goals try (exfalso; omega)
      refine Run.drawP [] [] (fun i => i) 6 rfl (by decide +kernel) rfl rfl ?_
      (conv => whnf); repeat' (first | ((with_reducible refine Know.mk fun _ => ?_); conv => whnf) | ((with_reducible refine Need.mk ?_ ?_); exact nd; conv => whnf) | ((with_reducible first | refine Both.mk ?_ ?_ | refine Any.mk fun b hb => ?_ | refine AskB.dec (fun hb => ?_) (fun hb => ?_) | refine AskB.ndec (fun hb => ?_) (fun hb => ?_) | refine AskB.mk (fun hb => ?_) (fun hb => ?_)) <;> conv => whnf) | ((with_reducible first | refine Run.drawX rfl (by decide +kernel) ?_ | refine Run.drawT rfl (by decide +kernel) ?_ | refine Run.drawW rfl (by decide +kernel) ?_); conv => whnf) | fail)
      all_goals
        refine Run.callM 12 hpc' rfl rfl rfl (MOle.refl _) rfl (by trivial) rfl rfl rfl ?_
      · refine Run.go ?_; (conv => whnf); repeat' (first | ((with_reducible refine Know.mk fun _ => ?_); conv => whnf) | ((with_reducible refine Need.mk ?_ ?_); exact nd; conv => whnf) | ((with_reducible first | refine Both.mk ?_ ?_ | refine Any.mk fun b hb => ?_ | refine AskB.dec (fun hb => ?_) (fun hb => ?_) | refine AskB.ndec (fun hb => ?_) (fun hb => ?_) | refine AskB.mk (fun hb => ?_) (fun hb => ?_)) <;> conv => whnf) | ((with_reducible first | refine Run.drawX rfl (by decide +kernel) ?_ | refine Run.drawT rfl (by decide +kernel) ?_ | refine Run.drawW rfl (by decide +kernel) ?_); conv => whnf) | fail)
        refine Run.holdBoxRow 2 0 1000 24 (by rfl) (by rfl) (by rfl) rfl rfl rfl ?_
        refine Run.to _ _ ?_ ?_ IH2
        · exact ⟨Le.refl _, Le.refl _, Le.refl _, Le.refl _, Le.refl _, trivial⟩
        · exact ⟨MOle.refl _, MOle.refl _, MOle.refl _, MOle.refl _, hpush, trivial⟩
      · refine Run.go ?_; (conv => whnf); repeat' (first | ((with_reducible refine Know.mk fun _ => ?_); conv => whnf) | ((with_reducible refine Need.mk ?_ ?_); exact nd; conv => whnf) | ((with_reducible first | refine Both.mk ?_ ?_ | refine Any.mk fun b hb => ?_ | refine AskB.dec (fun hb => ?_) (fun hb => ?_) | refine AskB.ndec (fun hb => ?_) (fun hb => ?_) | refine AskB.mk (fun hb => ?_) (fun hb => ?_)) <;> conv => whnf) | ((with_reducible first | refine Run.drawX rfl (by decide +kernel) ?_ | refine Run.drawT rfl (by decide +kernel) ?_ | refine Run.drawW rfl (by decide +kernel) ?_); conv => whnf) | fail)
        refine Run.holdBoxRow 2 0 1000 24 (by rfl) (by rfl) (by rfl) rfl rfl rfl ?_
        refine Run.to _ _ ?_ ?_ IH2
        · exact ⟨Le.refl _, Le.refl _, Le.refl _, Le.refl _, Le.refl _, trivial⟩
        · exact ⟨MOle.refl _, MOle.refl _, MOle.refl _, MOle.refl _, hpush, trivial⟩
      · refine Run.one rfl rfl rfl ?_
        (conv => whnf); repeat' (first | ((with_reducible refine Know.mk fun _ => ?_); conv => whnf) | ((with_reducible refine Need.mk ?_ ?_); exact nd; conv => whnf) | ((with_reducible first | refine Both.mk ?_ ?_ | refine Any.mk fun b hb => ?_ | refine AskB.dec (fun hb => ?_) (fun hb => ?_) | refine AskB.ndec (fun hb => ?_) (fun hb => ?_) | refine AskB.mk (fun hb => ?_) (fun hb => ?_)) <;> conv => whnf) | ((with_reducible first | refine Run.drawX rfl (by decide +kernel) ?_ | refine Run.drawT rfl (by decide +kernel) ?_ | refine Run.drawW rfl (by decide +kernel) ?_); conv => whnf) | fail)
        refine Run.go ?_; (conv => whnf); repeat' (first | ((with_reducible refine Know.mk fun _ => ?_); conv => whnf) | ((with_reducible refine Need.mk ?_ ?_); exact nd; conv => whnf) | ((with_reducible first | refine Both.mk ?_ ?_ | refine Any.mk fun b hb => ?_ | refine AskB.dec (fun hb => ?_) (fun hb => ?_) | refine AskB.ndec (fun hb => ?_) (fun hb => ?_) | refine AskB.mk (fun hb => ?_) (fun hb => ?_)) <;> conv => whnf) | ((with_reducible first | refine Run.drawX rfl (by decide +kernel) ?_ | refine Run.drawT rfl (by decide +kernel) ?_ | refine Run.drawW rfl (by decide +kernel) ?_); conv => whnf) | fail)
        refine Run.holdBoxRow 2 0 1000 24 (by rfl) (by rfl) (by rfl) rfl rfl rfl ?_
        refine Run.to _ _ ?_ ?_ IH2
        · exact ⟨Le.refl _, Le.refl _, Le.refl _, Le.refl _, Le.refl _, trivial⟩
        · exact ⟨MOle.refl _, MOle.refl _, MOle.refl _, MOle.refl _, hpush, trivial⟩
      · refine Run.one rfl rfl rfl ?_
        (conv => whnf); repeat' (first | ((with_reducible refine Know.mk fun _ => ?_); conv => whnf) | ((with_reducible refine Need.mk ?_ ?_); exact nd; conv => whnf) | ((with_reducible first | refine Both.mk ?_ ?_ | refine Any.mk fun b hb => ?_ | refine AskB.dec (fun hb => ?_) (fun hb => ?_) | refine AskB.ndec (fun hb => ?_) (fun hb => ?_) | refine AskB.mk (fun hb => ?_) (fun hb => ?_)) <;> conv => whnf) | ((with_reducible first | refine Run.drawX rfl (by decide +kernel) ?_ | refine Run.drawT rfl (by decide +kernel) ?_ | refine Run.drawW rfl (by decide +kernel) ?_); conv => whnf) | fail)
        refine Run.one rfl rfl rfl ?_
        (conv => whnf); repeat' (first | ((with_reducible refine Know.mk fun _ => ?_); conv => whnf) | ((with_reducible refine Need.mk ?_ ?_); exact nd; conv => whnf) | ((with_reducible first | refine Both.mk ?_ ?_ | refine Any.mk fun b hb => ?_ | refine AskB.dec (fun hb => ?_) (fun hb => ?_) | refine AskB.ndec (fun hb => ?_) (fun hb => ?_) | refine AskB.mk (fun hb => ?_) (fun hb => ?_)) <;> conv => whnf) | ((with_reducible first | refine Run.drawX rfl (by decide +kernel) ?_ | refine Run.drawT rfl (by decide +kernel) ?_ | refine Run.drawW rfl (by decide +kernel) ?_); conv => whnf) | fail)
        refine Run.go ?_; (conv => whnf); repeat' (first | ((with_reducible refine Know.mk fun _ => ?_); conv => whnf) | ((with_reducible refine Need.mk ?_ ?_); exact nd; conv => whnf) | ((with_reducible first | refine Both.mk ?_ ?_ | refine Any.mk fun b hb => ?_ | refine AskB.dec (fun hb => ?_) (fun hb => ?_) | refine AskB.ndec (fun hb => ?_) (fun hb => ?_) | refine AskB.mk (fun hb => ?_) (fun hb => ?_)) <;> conv => whnf) | ((with_reducible first | refine Run.drawX rfl (by decide +kernel) ?_ | refine Run.drawT rfl (by decide +kernel) ?_ | refine Run.drawW rfl (by decide +kernel) ?_); conv => whnf) | fail)
        refine Run.holdBoxRow 2 0 1000 24 (by rfl) (by rfl) (by rfl) rfl rfl rfl ?_
        refine Run.to _ _ ?_ ?_ IH2
        · exact ⟨Le.refl _, Le.refl _, Le.refl _, Le.refl _, Le.refl _, trivial⟩
        · exact ⟨MOle.refl _, MOle.refl _, MOle.refl _, MOle.refl _, hpush, trivial⟩
  · obtain rfl : i = l.length := by omega
    have hb : parseL l = .ok ps := by rw [← hps, List.drop_length]; simp [parseL, parseF, QR.app]
    rw [hb] at hT
    refine Run.go ?_; (conv => whnf); repeat' (first | ((with_reducible refine Know.mk fun _ => ?_); conv => whnf) | ((with_reducible refine Need.mk ?_ ?_); exact nd; conv => whnf) | ((with_reducible first | refine Both.mk ?_ ?_ | refine Any.mk fun b hb => ?_ | refine AskB.dec (fun hb => ?_) (fun hb => ?_) | refine AskB.ndec (fun hb => ?_) (fun hb => ?_) | refine AskB.mk (fun hb => ?_) (fun hb => ?_)) <;> conv => whnf) | ((with_reducible first | refine Run.drawX rfl (by decide +kernel) ?_ | refine Run.drawT rfl (by decide +kernel) ?_ | refine Run.drawW rfl (by decide +kernel) ?_); conv => whnf) | fail)
    all_goals try (exfalso; omega)
    unfold parseA
    rw [hT]
    refine Unw.ret (.inr ⟨_, rfl⟩) (Unw.to _ _ ?_ ?_ (caught0 p ps))
    · exact ⟨Le.refl _, Le.refl _, Le.refl _, trivial⟩
    · exact ⟨MOle.refl _, MOle.refl _, MOle.refl _, MOle.refl _, trivial⟩
end Go.Proofs.YtkdpmkjbfkjmdaaDoor.V

namespace Go.Proofs.YtkdpmkjbfkjmdaaDoor.V
set_option linter.unusedVariables false
set_option linter.unusedSimpArgs false
open Go Go.Proofs Go.RowKit
set_option maxRecDepth 100000
set_option maxHeartbeats 1000000
def isNum (n : Nat) : Bool := decide (n = 91 ∨ n = 93 ∨ n = 123 ∨ n = 125 ∨ n = 124 ∨ n = 60 ∨ n = 62 ∨ n = 92)
theorem isMk_fin : ∀ c : Fin 256, isMk (UInt8.ofNat c.val) = isNum c.val := by decide +kernel
theorem isMk_num (c : UInt8) : isMk c = isNum c.toNat := by
  have := isMk_fin ⟨c.toNat, c.toNat_lt⟩
  rwa [u8_ofNat] at this
theorem rmark_fn (c : UInt8) : Fn Tryd.prog 35 [.int .u8 (c.toNat : Int)] (.bool (isMk c)) := by
  rw [isMk_num]
  generalize c.toNat = n
  refine Fn.of Tryd.f35 _ Tryd.func35 rfl (by decide) (by show 1 ≤ _; decide) tbOk 13 rfl fun S w0 gl => ?_
  refine Run.go ?_; (conv => whnf); repeat' (first | ((with_reducible refine Know.mk fun _ => ?_); conv => whnf) | ((with_reducible refine Need.mk ?_ ?_); exact nd; conv => whnf) | ((with_reducible refine Both.mk ?_ ?_) <;> conv => whnf) | ((with_reducible refine Any.mk fun b hb => ?_); conv => whnf) | ((with_reducible first | refine AskB.dec (fun hb => ?_) (fun hb => ?_) | refine AskB.ndec (fun hb => ?_) (fun hb => ?_) | refine AskB.mk (fun hb => ?_) (fun hb => ?_)) <;> first | (exfalso; omega) | (conv => whnf)) | ((with_reducible first | refine Run.drawX rfl (by decide +kernel) ?_ | refine Run.drawT rfl (by decide +kernel) ?_ | refine Run.drawW rfl (by decide +kernel) ?_); conv => whnf) | fail)
  all_goals first
    | exact Run.leave (ts := [2]) (.inr ⟨_, rfl⟩) rfl Tryd.func35 rfl (Le.tt.trans (Le.bool (decide_eq_true (by omega)).symm))
    | exact Run.leave (ts := [2]) (.inr ⟨_, rfl⟩) rfl Tryd.func35 rfl (Le.ff.trans (Le.bool (decide_eq_false (by omega)).symm))
def contA (l : List UInt8) : CR → AV
  | .bad k => tupL [.str .empty, .int .i64 ((l.length - k : Nat) : Int), .ff]
  | .ok t r => tupL [.str (bs t), .int .i64 ((l.length - r.length : Nat) : Int), .tt]
theorem contA_bad {l : List UInt8} {x : CR} {k n : Nat} (h : x = .bad k) (hn : l.length - k = n) : contA l x = tupL [.str .empty, .int .i64 (n : Int), .ff] := by subst h; subst hn; rfl
theorem contA_ok {l t r : List UInt8} {x : CR} {n : Nat} (h : x = .ok t r) (hn : l.length - r.length = n) : contA l x = tupL [.str (bs t), .int .i64 (n : Int), .tt] := by subst h; subst hn; rfl
theorem bsG_push (e : Nat) (b : List UInt8) (u : UInt8) (g : Nat → Nat → AV) (hg : g 0 0 = .int .u8 (u.toNat : Int)) : MOle (.row e 1 ((bs b).size + 1) (joinRow (bs b).size (bytesG (bs b)) g)) (.row e 1 (bs (b ++ [u])).size (bytesG (bs (b ++ [u])))) := by
  have := bytesG_push e (bs b) u g hg
  rwa [bs_push] at this
theorem content_fn (l : List UInt8) (i0 : Nat) (h0 : i0 ≤ l.length) (hl : l.length ≤ 65536) : Fn Tryd.prog 24 [.str (bs l), .int .i64 (i0 : Int)] (contA l (cont (l.drop i0))) := by
  refine Fn.of Tryd.f24 _ Tryd.func24 rfl (by decide) (by show 2 ≤ _; decide) tbOk 58 rfl fun S w0 gl => ?_
  have hs := bs_size l
  refine Run.go ?_; (conv => whnf); repeat' (first | ((with_reducible refine Know.mk fun _ => ?_); conv => whnf) | ((with_reducible refine Need.mk ?_ ?_); exact nd; conv => whnf) | ((with_reducible first | refine Both.mk ?_ ?_ | refine Any.mk fun b hb => ?_ | refine AskB.dec (fun hb => ?_) (fun hb => ?_) | refine AskB.ndec (fun hb => ?_) (fun hb => ?_) | refine AskB.mk (fun hb => ?_) (fun hb => ?_)) <;> conv => whnf) | ((with_reducible first | refine Run.drawX rfl (by decide +kernel) ?_ | refine Run.drawT rfl (by decide +kernel) ?_ | refine Run.drawW rfl (by decide +kernel) ?_); conv => whnf) | fail)
  refine Run.holdNil 7 90 5 1 (bytesG .empty) rfl ?_
  refine Run.loop [0] (fun (a : Nat × List UInt8) => [(1, .int .i64 (a.1 : Int)), (7, .row 90)]) (fun a => [(90, .row 5 1 (bs a.2).size (bytesG (bs a.2)))]) (fun a => a.1 ≤ l.length ∧ (cont (l.drop a.1)).app a.2 = cont (l.drop i0) ∧ a.2.length ≤ a.1) (fun a => l.length - a.1) (i0, []) ⟨h0, CR.app_nil _, Nat.zero_le _⟩ ⟨Le.refl _, Le.refl _, trivial⟩ ⟨MOle.refl _, trivial⟩ ?_
  intro ⟨i, b⟩ ⟨hi, hc, hbi⟩ IH
  simp only [] at hi hc hbi ⊢
  have hbs := bs_size b
  have hw1 : IntKind.i64.wrap ((i : Int) + 1) = ((i + 1 : Nat) : Int) := wrap64 (by omega) (by omega)
  have hw2 : IntKind.i64.wrap ((i : Int) + 2) = ((i + 2 : Nat) : Int) := wrap64 (by omega) (by omega)
  by_cases hil : i < l.length
  · have hdi := drop_get l i hil
    have hci : bt (bs l) (i : Int).toNat = ((l.getD i 0).toNat : Int) := bt_at l i
    have hdi1 : i + 1 < l.length → bt (bs l) (IntKind.i64.wrap ((i : Int) + 1)).toNat = ((l.getD (i + 1) 0).toNat : Int) := fun _ => by rw [hw1]; exact bt_at l (i + 1)
    refine Run.go ?_; (conv => whnf); repeat' (first | ((with_reducible refine Know.mk fun _ => ?_); conv => whnf) | ((with_reducible refine Need.mk ?_ ?_); exact nd; conv => whnf) | ((with_reducible first | refine Both.mk ?_ ?_ | refine Any.mk fun b hb => ?_ | refine AskB.dec (fun hb => ?_) (fun hb => ?_) | refine AskB.ndec (fun hb => ?_) (fun hb => ?_) | refine AskB.mk (fun hb => ?_) (fun hb => ?_)) <;> conv => whnf) | ((with_reducible first | refine Run.drawX rfl (by decide +kernel) ?_ | refine Run.drawT rfl (by decide +kernel) ?_ | refine Run.drawW rfl (by decide +kernel) ?_); conv => whnf) | fail)
    · have hcc : l.getD i 0 = 92 := u8_eq hci (n := 92) (by assumption) (by decide)
      have hk : cont (l.drop i0) = .bad 0 := by
        rw [← hc, hdi, hcc, show l.drop (i + 1) = [] from List.drop_of_length_le (by omega), cont_end]; rfl
      rw [contA_bad (n := i + 1) hk (by omega)]
      exact Run.leave (ts := [4,5,6]) (.inr ⟨_, rfl⟩) rfl Tryd.func24 rfl (resT ⟨Le.refl _, Le.int hw1, Le.refl _, trivial⟩)
    · have hcc : l.getD i 0 = 92 := u8_eq hci (n := 92) (by assumption) (by decide)
      have hi1 : i + 1 < l.length := by omega
      refine Run.callBX (rmark_fn (l.getD (i + 1) 0)) rfl rfl ⟨Le.int (hdi1 hi1), trivial⟩ rfl rfl rfl ?_
      (conv => whnf); repeat' (first | ((with_reducible refine Know.mk fun _ => ?_); conv => whnf) | ((with_reducible refine Need.mk ?_ ?_); exact nd; conv => whnf) | ((with_reducible first | refine Both.mk ?_ ?_ | refine Any.mk fun b hb => ?_ | refine AskB.dec (fun hb => ?_) (fun hb => ?_) | refine AskB.ndec (fun hb => ?_) (fun hb => ?_) | refine AskB.mk (fun hb => ?_) (fun hb => ?_)) <;> conv => whnf) | ((with_reducible first | refine Run.drawX rfl (by decide +kernel) ?_ | refine Run.drawT rfl (by decide +kernel) ?_ | refine Run.drawW rfl (by decide +kernel) ?_); conv => whnf) | fail)
      · have hd : ¬ isMk (l.getD (i + 1) 0) = true := by
          have : (!isMk (l.getD (i + 1) 0)) = true := by assumption
          simpa using this
        have hk : cont (l.drop i0) = .bad (l.drop (i + 2)).length.succ := by
          rw [← hc, hdi, hcc, drop_get l (i + 1) hi1, cont_bad _ hd]; rfl
        rw [contA_bad (n := i + 1) hk (by rw [List.length_drop]; omega)]
        exact Run.leave (ts := [4,5,6]) (.inr ⟨_, rfl⟩) rfl Tryd.func24 rfl (resT ⟨Le.refl _, Le.int hw1, Le.refl _, trivial⟩)
      · have hd : isMk (l.getD (i + 1) 0) = true := by
          have : (!isMk (l.getD (i + 1) 0)) = false := by assumption
          simpa using this
        have hk : (cont (l.drop (i + 2))).app (b ++ [l.getD (i + 1) 0]) = cont (l.drop i0) := by
          rw [← hc, hdi, hcc, drop_get l (i + 1) hi1, cont_esc _ hd, CR.app_push]
        refine Run.hold (z := 37) 7 90 (by rfl) (by rfl) (by rfl) ?_
        refine Run.to _ _ ?_ ?_ (IH (i + 2, b ++ [l.getD (i + 1) 0]) (by simp only []; omega) ⟨by simp only []; omega, hk, by simp; omega⟩)
        · exact ⟨Le.refl _, Le.int hw2, Le.refl _, trivial⟩
        · exact ⟨bsG_push 5 b _ _ (by show AV.int .u8 (bt (bs l) (IntKind.i64.wrap ((i : Int) + 1)).toNat) = _; rw [hdi1 hi1]), trivial⟩
    · refine Run.callBX (rmark_fn (l.getD i 0)) rfl rfl ⟨Le.int hci, trivial⟩ rfl rfl rfl ?_
      (conv => whnf); repeat' (first | ((with_reducible refine Know.mk fun _ => ?_); conv => whnf) | ((with_reducible refine Need.mk ?_ ?_); exact nd; conv => whnf) | ((with_reducible first | refine Both.mk ?_ ?_ | refine Any.mk fun b hb => ?_ | refine AskB.dec (fun hb => ?_) (fun hb => ?_) | refine AskB.ndec (fun hb => ?_) (fun hb => ?_) | refine AskB.mk (fun hb => ?_) (fun hb => ?_)) <;> conv => whnf) | ((with_reducible first | refine Run.drawX rfl (by decide +kernel) ?_ | refine Run.drawT rfl (by decide +kernel) ?_ | refine Run.drawW rfl (by decide +kernel) ?_); conv => whnf) | fail)
      · have hm : isMk (l.getD i 0) = true := by assumption
        have hne : l.getD i 0 ≠ 92 := u8_ne hci (n := 92) (by assumption) (by decide)
        have hk : cont (l.drop i0) = .ok b (l.drop i) := by
          rw [← hc, hdi, cont_stop _ hne hm]
          simp [CR.app]
        refine Run.rowStr (x := .tmp 44) (src := 58) (dst := 9) (e := 5) (q := 90) (bs b) rfl rfl rfl rfl rfl rfl rfl (fun _ _ => rfl) (by kernel_rfl) (by kernel_rfl) (by kernel_rfl) ?_
        refine Run.go ?_; (conv => whnf); repeat' (first | ((with_reducible refine Know.mk fun _ => ?_); conv => whnf) | ((with_reducible refine Need.mk ?_ ?_); exact nd; conv => whnf) | ((with_reducible first | refine Both.mk ?_ ?_ | refine Any.mk fun b hb => ?_ | refine AskB.dec (fun hb => ?_) (fun hb => ?_) | refine AskB.ndec (fun hb => ?_) (fun hb => ?_) | refine AskB.mk (fun hb => ?_) (fun hb => ?_)) <;> conv => whnf) | ((with_reducible first | refine Run.drawX rfl (by decide +kernel) ?_ | refine Run.drawT rfl (by decide +kernel) ?_ | refine Run.drawW rfl (by decide +kernel) ?_); conv => whnf) | fail)
        rw [contA_ok (n := i) hk (by rw [List.length_drop]; omega)]
        exact Run.leave (ts := [4,5,6]) (.inr ⟨_, rfl⟩) rfl Tryd.func24 rfl (resT ⟨Le.refl _, Le.refl _, Le.refl _, trivial⟩)
      · have hm : ¬ isMk (l.getD i 0) = true := by
          have : isMk (l.getD i 0) = false := by assumption
          rw [this]; decide
        have hk : (cont (l.drop (i + 1))).app (b ++ [l.getD i 0]) = cont (l.drop i0) := by
          rw [← hc, hdi, cont_plain _ hm, CR.app_push]
        refine Run.hold (z := 52) 7 90 (by rfl) (by rfl) (by rfl) ?_
        refine Run.to _ _ ?_ ?_ (IH (i + 1, b ++ [l.getD i 0]) (by simp only []; omega) ⟨by simp only []; omega, hk, by simp; omega⟩)
        · exact ⟨Le.refl _, Le.int hw1, Le.refl _, trivial⟩
        · exact ⟨bsG_push 5 b _ _ (by show AV.int .u8 (bt (bs l) (i : Int).toNat) = _; rw [hci]), trivial⟩
    · exfalso; omega
  · refine Run.go ?_; (conv => whnf); repeat' (first | ((with_reducible refine Know.mk fun _ => ?_); conv => whnf) | ((with_reducible refine Need.mk ?_ ?_); exact nd; conv => whnf) | ((with_reducible first | refine Both.mk ?_ ?_ | refine Any.mk fun b hb => ?_ | refine AskB.dec (fun hb => ?_) (fun hb => ?_) | refine AskB.ndec (fun hb => ?_) (fun hb => ?_) | refine AskB.mk (fun hb => ?_) (fun hb => ?_)) <;> conv => whnf) | ((with_reducible first | refine Run.drawX rfl (by decide +kernel) ?_ | refine Run.drawT rfl (by decide +kernel) ?_ | refine Run.drawW rfl (by decide +kernel) ?_); conv => whnf) | fail)
    all_goals try (exfalso; omega)
    refine Run.rowStr (x := .tmp 55) (src := 58) (dst := 9) (e := 5) (q := 90) (bs b) rfl rfl rfl rfl rfl rfl rfl (fun _ _ => rfl) (by kernel_rfl) (by kernel_rfl) (by kernel_rfl) ?_
    refine Run.go ?_; (conv => whnf); repeat' (first | ((with_reducible refine Know.mk fun _ => ?_); conv => whnf) | ((with_reducible refine Need.mk ?_ ?_); exact nd; conv => whnf) | ((with_reducible first | refine Both.mk ?_ ?_ | refine Any.mk fun b hb => ?_ | refine AskB.dec (fun hb => ?_) (fun hb => ?_) | refine AskB.ndec (fun hb => ?_) (fun hb => ?_) | refine AskB.mk (fun hb => ?_) (fun hb => ?_)) <;> conv => whnf) | ((with_reducible first | refine Run.drawX rfl (by decide +kernel) ?_ | refine Run.drawT rfl (by decide +kernel) ?_ | refine Run.drawW rfl (by decide +kernel) ?_); conv => whnf) | fail)
    have hk : cont (l.drop i0) = .ok b [] := by
      rw [← hc, List.drop_of_length_le (by omega)]
      simp [cont, CR.app]
    rw [contA_ok (n := i) hk (by simp; omega)]
    exact Run.leave (ts := [4,5,6]) (.inr ⟨_, rfl⟩) rfl Tryd.func24 rfl (resT ⟨Le.refl _, Le.refl _, Le.refl _, trivial⟩)
end Go.Proofs.YtkdpmkjbfkjmdaaDoor.V

namespace Go.Proofs.YtkdpmkjbfkjmdaaDoor.V
set_option linter.unusedVariables false
set_option linter.unusedSimpArgs false
open Go Go.Proofs Go.RowKit
set_option maxRecDepth 100000
set_option maxHeartbeats 1000000
def pc0 : Pc := ⟨0, [], 0⟩
def pieA (l : List UInt8) : PR → AV
  | .bad k => tupL [.agg 3 (tPc.enc pc0), .int .i64 ((l.length - k : Nat) : Int), .ff]
  | .ok p r => tupL [.agg 3 (tPc.enc p), .int .i64 ((l.length - r.length : Nat) : Int), .tt]
theorem pieA_bad {l : List UInt8} {x : PR} {k n : Nat} (h : x = .bad k) (hn : l.length - k = n) : pieA l x = tupL [.agg 3 (tPc.enc pc0), .int .i64 (n : Int), .ff] := by subst h; subst hn; rfl
theorem pieA_ok {l r : List UInt8} {x : PR} {p : Pc} {n : Nat} (h : x = .ok p r) (hn : l.length - r.length = n) : pieA l x = tupL [.agg 3 (tPc.enc p), .int .i64 (n : Int), .tt] := by subst h; subst hn; rfl
theorem wantR_no {c : UInt8} {p : Pc} {r : List UInt8} (h : r.length = 0 ∨ r.getD 0 0 ≠ c) : wantR c p r = .bad r.length := by
  cases r with
  | nil => rfl
  | cons d r =>
    rcases h with h | h
    · simp at h
    · exact if_neg h
theorem wantR_yes {c : UInt8} {p : Pc} {r : List UInt8} (h0 : 0 < r.length) (h : r.getD 0 0 = c) : wantR c p r = .ok p (r.drop 1) := by
  cases r with
  | nil => simp at h0
  | cons d r => exact if_pos h
theorem nd_pos (r : List UInt8) (j : Nat) (hj : j ≤ ndL r) : 0 < valD (r.take j) ↔ 0 < j := by
  match j with
  | 0 => simp [valD]
  | 1 =>
    have := (nd_step r 0 (by omega)).mp (by omega)
    rw [take_at r 0 0 (by omega), valD_push]
    simp only [List.take_zero]
    have : valD [] = 0 := rfl
    constructor
    · intro _; omega
    · intro _; omega
  | j + 2 =>
    have h2 := (nd_le r).2
    have hj2 : j = 0 := by omega
    subst hj2
    have := (nd_step r 0 (by omega)).mp (by omega)
    have := (nd_step r 1 (by omega)).mp (by omega)
    rw [take_at r 1 0 (by omega), valD_push, take_at r 0 0 (by omega), valD_push]
    simp only [List.take_zero]
    have : valD [] = 0 := rfl
    constructor
    · intro _; omega
    · intro _; omega
theorem rgap_fn (l : List UInt8) (i : Nat) (hi : i < l.length) (hl : l.length ≤ 65536) : Fn Tryd.prog 21 [.str (bs l), .int .i64 (i : Int)] (pieA l (gapR (l.drop (i + 1)))) := by
  have hw1 : IntKind.i64.wrap ((i : Int) + 1) = ((i + 1 : Nat) : Int) := wrap64 (by omega) (by omega)
  have hw3 : IntKind.i64.wrap ((i : Int) + 3) = ((i + 3 : Nat) : Int) := wrap64 (by omega) (by omega)
  have hs := bs_size l
  generalize hr : l.drop (i + 1) = r
  have hrl : r.length = l.length - (i + 1) := by rw [← hr, List.length_drop]
  have hnl := nd_le r
  have hst := nd_step r
  have hpos := nd_pos r
  have hgn := gapN_eq r
  have hv : ∀ j, j ≤ ndL r → valD (r.take j) ≤ 99 := fun j hj => by
    have := (gapN_le r).2
    have hlt := valD_lt (r.take j) (fun c hc => by
      obtain ⟨q, hq, rfl⟩ := List.getElem_of_mem hc
      rw [List.length_take] at hq
      have := nd_dig r q (by omega)
      rw [List.getD, List.getElem?_eq_getElem (by omega)] at this
      rw [List.getElem_take]
      exact this)
    have h3 : 10 ^ (r.take j).length ≤ 10 ^ 2 := Nat.pow_le_pow_right (by decide) (by rw [List.length_take]; omega)
    have h4 : (10 : Nat) ^ 2 = 100 := by decide
    omega
  generalize ndL r = m at hnl hst hpos hgn hv
  have hgl : ((gapN r).2).length = l.length - (i + 1 + m) := by rw [hgn, List.length_drop]; omega
  have hgv : (gapN r).1 = valD (r.take m) := by rw [hgn]
  have hg0 : (gapN r).2.getD 0 0 = l.getD (i + 1 + m) 0 := by
    rw [hgn, ← hr, List.getD, List.getElem?_drop, List.getElem?_drop]; rfl
  refine Fn.of Tryd.f21 _ Tryd.func21 rfl (by decide) (by show 2 ≤ _; decide) tbOk 73 rfl fun S w0 gl => ?_
  refine Run.go ?_; (conv => whnf); repeat' (first | ((with_reducible refine Know.mk fun _ => ?_); conv => whnf) | ((with_reducible refine Need.mk ?_ ?_); exact nd; conv => whnf) | ((with_reducible first | refine Both.mk ?_ ?_ | refine Any.mk fun b hb => ?_ | refine AskB.dec (fun hb => ?_) (fun hb => ?_) | refine AskB.ndec (fun hb => ?_) (fun hb => ?_) | refine AskB.mk (fun hb => ?_) (fun hb => ?_)) <;> conv => whnf) | ((with_reducible first | refine Run.drawX rfl (by decide +kernel) ?_ | refine Run.drawT rfl (by decide +kernel) ?_ | refine Run.drawW rfl (by decide +kernel) ?_); conv => whnf) | fail)
  refine Run.loop [0, 1, 4] (fun (j : Nat) => [(7, .int .i64 (valD (r.take j) : Int)), (8, .int .i64 ((i + 1 + j : Nat) : Int))]) (fun j => [(4, .box 34 [.int .i64 0, .nils, .int .i64 0])]) (fun j => j ≤ m) (fun j => m - j) 0 (Nat.zero_le _) ⟨Le.refl _, Le.int hw1, trivial⟩ ⟨MOle.refl _, trivial⟩ ?_
  intro j hj IH
  have hnd := hst j hj
  have hpj := hpos j hj
  have hvj := hv j hj
  have hw2 : IntKind.i64.wrap (((i + 1 + j : Nat) : Int) + 1) = ((i + 1 + (j + 1) : Nat) : Int) := by rw [wrap64 (by omega) (by omega)]; omega
  have hbt : bt (bs l) (((i + 1 + j : Nat) : Int)).toNat = ((l.getD (i + 1 + j) 0).toNat : Int) := bt_at l _
  have hrj : r.getD j 0 = l.getD (i + 1 + j) 0 := by
    rw [← hr, List.getD, List.getElem?_drop]; rfl
  have hvs : j < m → valD (r.take (j + 1)) = 10 * valD (r.take j) + ((l.getD (i + 1 + j) 0).toNat - 48) := fun h => by
    rw [take_at r j 0 (by omega), valD_push, hrj]
  rw [hrj] at hnd
  generalize hx : (l.getD (i + 1 + j) 0).toNat = x at hbt hnd hvs
  have hbad : j = m → ¬ (valD (r.take j) ≠ 0 ∧ i + 1 + j < l.length ∧ x = 93) → pieA l (gapR r) = tupL [.agg 3 (tPc.enc pc0), .int .i64 ((i + 1 + j : Nat) : Int), .ff] := fun e h => by
    subst e
    refine pieA_bad (k := (gapN r).2.length) ?_ (by rw [hgl]; omega)
    unfold gapR
    by_cases hz : (gapN r).1 = 0
    · rw [if_pos hz]
    · rw [if_neg hz]
      refine wantR_no ?_
      rw [hgl, hg0]
      rw [hgv] at hz
      by_cases hlen : i + 1 + j < l.length
      · right
        intro e
        rw [e] at hx
        exact h ⟨hz, hlen, hx.symm⟩
      · left; omega
  have hok : j = m → (valD (r.take j) ≠ 0 ∧ i + 1 + j < l.length ∧ x = 93) → pieA l (gapR r) = tupL [.agg 3 (tPc.enc ⟨2, [], (valD (r.take j) : Int)⟩), .int .i64 ((i + 1 + (j + 1) : Nat) : Int), .tt] := fun e ⟨h1, h2, h3⟩ => by
    subst e
    refine pieA_ok (r := (gapN r).2.drop 1) ?_ (by rw [List.length_drop, hgl]; omega)
    unfold gapR
    rw [if_neg (by rw [hgv]; exact h1), wantR_yes (by rw [hgl]; omega) (by rw [hg0]; exact UInt8.toNat.inj (by rw [hx, h3]; rfl)), hgv]
  refine Run.go ?_; (conv => whnf); repeat' (first | ((with_reducible refine Know.mk fun _ => ?_); conv => whnf) | ((with_reducible refine Need.mk ?_ ?_); exact nd; conv => whnf) | ((with_reducible refine Both.mk ?_ ?_) <;> conv => whnf) | ((with_reducible refine Any.mk fun b hb => ?_); conv => whnf) | ((with_reducible first | refine AskB.dec (fun hb => ?_) (fun hb => ?_) | refine AskB.ndec (fun hb => ?_) (fun hb => ?_) | refine AskB.mk (fun hb => ?_) (fun hb => ?_)) <;> first | (exfalso; omega) | (conv => whnf)) | ((with_reducible first | refine Run.drawX rfl (by decide +kernel) ?_ | refine Run.drawT rfl (by decide +kernel) ?_ | refine Run.drawW rfl (by decide +kernel) ?_); conv => whnf) | fail)
  all_goals try (exfalso; omega)
  all_goals first
    | (rw [hbad (by omega) (by omega)]
       exact Run.leaveC3 (.inr ⟨_, rfl⟩) rfl Tryd.func21 rfl rfl rfl (Nat.le_of_ble_eq_true rfl) (pc_le (Le.refl _) tS.nil (Le.refl _)) (Le.refl _) (Le.refl _))
    | (rw [hok (by omega) (by omega)]
       exact Run.leaveC3 (.inr ⟨_, rfl⟩) rfl Tryd.func21 rfl rfl rfl (Nat.le_of_ble_eq_true rfl) (pc_le (Le.refl _) tS.nil (Le.refl _)) (Le.int hw2) (Le.refl _))
    | (refine Run.to _ _ ?_ ?_ (IH (j + 1) (by omega) (by omega))
       · refine ⟨Le.refl _, Le.refl _, Le.refl _, Le.int ?_, Le.int hw2, trivial⟩
         rw [hvs (by omega), hbt, IntWalk.u8_in _ ⟨by omega, by omega⟩, wrap64 (x := (x : Int) - 48) (by omega) (by omega), wrap64 (x := 10 * (valD (r.take j) : Int)) (by omega) (by omega), wrap64 (by omega) (by omega)]
         omega
       · exact ⟨MOle.refl _, trivial⟩)
end Go.Proofs.YtkdpmkjbfkjmdaaDoor.V

namespace Go.Proofs.YtkdpmkjbfkjmdaaDoor.V
set_option linter.unusedVariables false
set_option linter.unusedSimpArgs false
open Go Go.Proofs Go.RowKit
set_option maxRecDepth 100000
set_option maxHeartbeats 1000000
/-- What stands at the head of what is left. -/
theorem suf_bt {l r : List UInt8} (h : r <:+ l) : bt (bs l) (((l.length - r.length : Nat) : Int)).toNat = ((r.getD 0 0).toNat : Int) := by
  rw [Int.toNat_natCast, bt_at]
  cases r with
  | nil => rw [List.getD, List.getElem?_eq_none (by simp)]; rfl
  | cons c r => rw [suf_at h]; rfl
theorem MOle.rows {e sz n e' sz' n' : Nat} {g g' : Nat → Nat → AV} (h : MOle (.row e sz n g) (.row e' sz' n' g')) : Le (.sl n sz g) (.sl n' sz' g') := by
  obtain ⟨_, rfl, rfl, h⟩ := h
  exact Le.sl h
theorem fixEnd_nil (ts : List ByteArray) : fixEnd ts [] = .bad 0 := by unfold fixEnd; split <;> rfl
theorem fixA_bad {f : Nat} {ts : List ByteArray} {r : List UInt8} (hf : f + ts.length = 4) (h : r.length = 0 ∨ (((r.getD 0 0).toNat ≠ 125 ∨ ts.length < 2) ∧ ((r.getD 0 0).toNat ≠ 124 ∨ 4 ≤ ts.length))) : fixA f ts r = .bad r.length := by
  cases r with
  | nil => cases f <;> exact fixEnd_nil ts
  | cons c r =>
    have hc : (c :: r).getD 0 0 = c := rfl
    rw [hc] at h
    have h : (c.toNat ≠ 125 ∨ ts.length < 2) ∧ (c.toNat ≠ 124 ∨ 4 ≤ ts.length) := by
      rcases h with h | h
      · simp at h
      · exact h
    have hend : fixEnd ts (c :: r) = .bad (c :: r).length := by
      unfold fixEnd
      split
      · rfl
      · refine wantR_no (.inr (fun e => ?_))
        rcases h.1 with h | h
        · exact h (by rw [show c = 125 from e]; rfl)
        · omega
    cases f with
    | zero => exact hend
    | succ f =>
      have : fixA (f + 1) ts (c :: r) = if c = 124 then fixR f ts r else fixEnd ts (c :: r) := by simp [fixA]
      rw [this, if_neg, hend]
      intro e
      rcases h.2 with h | h
      · exact h (by rw [e]; rfl)
      · omega
theorem fixA_ok {f : Nat} {ts : List ByteArray} {r : List UInt8} (h0 : r.length ≠ 0) (h1 : (r.getD 0 0).toNat = 125) (h2 : 2 ≤ ts.length) : fixA f ts r = .ok ⟨3, ts, 0⟩ (r.drop 1) := by
  have hc : r.getD 0 0 = 125 := UInt8.toNat.inj (by rw [h1]; rfl)
  have hend : fixEnd ts r = .ok ⟨3, ts, 0⟩ (r.drop 1) := by
    unfold fixEnd
    rw [if_neg (by omega), wantR_yes (by omega) hc]
  cases r with
  | nil => simp at h0
  | cons c r =>
    cases f with
    | zero => exact hend
    | succ f =>
      have : fixA (f + 1) ts (c :: r) = if c = 124 then fixR f ts r else fixEnd ts (c :: r) := by simp [fixA]
      rw [this, if_neg, hend]
      intro e
      rw [show c = 125 from hc] at e
      exact absurd e (by decide)
theorem fixA_go {f : Nat} {ts : List ByteArray} {r : List UInt8} (h0 : r.length ≠ 0) (h1 : (r.getD 0 0).toNat = 124) : fixA (f + 1) ts r = fixR f ts (r.drop 1) := by
  cases r with
  | nil => simp at h0
  | cons c r =>
    have hc : c = 124 := UInt8.toNat.inj (by rw [show c = (c :: r).getD 0 0 from rfl, h1]; rfl)
    have : fixA (f + 1) ts (c :: r) = if c = 124 then fixR f ts r else fixEnd ts (c :: r) := by simp [fixA]
    rw [this, if_pos hc]; rfl
theorem rdim_fn (l : List UInt8) (i : Nat) (hi : i < l.length) (hl : l.length ≤ 65536) : Fn Tryd.prog 23 [.str (bs l), .int .i64 (i : Int)] (pieA l (dimR (l.drop (i + 1)))) := by
  have hw1 : IntKind.i64.wrap ((i : Int) + 1) = ((i + 1 : Nat) : Int) := wrap64 (by omega) (by omega)
  have hs := bs_size l
  have hc := content_fn l (i + 1) (by omega) hl
  cases hx : cont (l.drop (i + 1)) with
  | bad k =>
    rw [hx] at hc
    have hd : dimR (l.drop (i + 1)) = .bad k := by unfold dimR; rw [hx]
    rw [pieA_bad hd rfl]
    refine Fn.of Tryd.f23 _ Tryd.func23 rfl (by decide) (by show 2 ≤ _; decide) tbOk 43 rfl fun S w0 gl => ?_
    refine Run.go ?_; (conv => whnf); repeat' (first | ((with_reducible refine Know.mk fun _ => ?_); conv => whnf) | ((with_reducible refine Need.mk ?_ ?_); exact nd; conv => whnf) | ((with_reducible first | refine Both.mk ?_ ?_ | refine Any.mk fun b hb => ?_ | refine AskB.dec (fun hb => ?_) (fun hb => ?_) | refine AskB.ndec (fun hb => ?_) (fun hb => ?_) | refine AskB.mk (fun hb => ?_) (fun hb => ?_)) <;> conv => whnf) | ((with_reducible first | refine Run.drawX rfl (by decide +kernel) ?_ | refine Run.drawT rfl (by decide +kernel) ?_ | refine Run.drawW rfl (by decide +kernel) ?_); conv => whnf) | fail)
    refine Run.callBX hc rfl rfl ⟨Le.refl _, Le.int hw1, trivial⟩ rfl rfl rfl ?_
    (conv => whnf); repeat' (first | ((with_reducible refine Know.mk fun _ => ?_); conv => whnf) | ((with_reducible refine Need.mk ?_ ?_); exact nd; conv => whnf) | ((with_reducible first | refine Both.mk ?_ ?_ | refine Any.mk fun b hb => ?_ | refine AskB.dec (fun hb => ?_) (fun hb => ?_) | refine AskB.ndec (fun hb => ?_) (fun hb => ?_) | refine AskB.mk (fun hb => ?_) (fun hb => ?_)) <;> conv => whnf) | ((with_reducible first | refine Run.drawX rfl (by decide +kernel) ?_ | refine Run.drawT rfl (by decide +kernel) ?_ | refine Run.drawW rfl (by decide +kernel) ?_); conv => whnf) | fail)
    exact Run.leaveC3 (.inr ⟨_, rfl⟩) rfl Tryd.func23 rfl rfl rfl (Nat.le_of_ble_eq_true rfl) (pc_le (Le.refl _) tS.nil (Le.refl _)) (Le.refl _) (Le.refl _)
  | ok t r =>
    rw [hx] at hc
    have hsr : r <:+ l := (cont_suf _ _ (Nat.le_refl _) hx).trans (List.drop_suffix _ _)
    have hrl := suf_le hsr
    have hbt := suf_bt hsr
    have hd : dimR (l.drop (i + 1)) = if t = [] then .bad r.length else wantR 62 ⟨4, [bs t], 0⟩ r := by unfold dimR; rw [hx]
    have hbad : (r.length = 0 ∨ (r.getD 0 0).toNat ≠ 62 ∨ bs t = .empty) → pieA l (dimR (l.drop (i + 1))) = tupL [.agg 3 (tPc.enc pc0), .int .i64 ((l.length - r.length : Nat) : Int), .ff] := fun h => by
      refine pieA_bad (k := r.length) ?_ rfl
      rw [hd]
      by_cases ht : t = []
      · rw [if_pos ht]
      · rw [if_neg ht]
        refine wantR_no ?_
        rcases h with h | h | h
        · exact .inl h
        · exact .inr (fun e => h (by rw [e]; rfl))
        · exact absurd (bs_inj (b := []) h) ht
    have hok : (r.length ≠ 0 ∧ (r.getD 0 0).toNat = 62 ∧ ¬ bs t = .empty) → pieA l (dimR (l.drop (i + 1))) = tupL [.agg 3 (tPc.enc ⟨4, [bs t], 0⟩), .int .i64 ((l.length - r.length + 1 : Nat) : Int), .tt] := fun ⟨h1, h2, h3⟩ => by
      refine pieA_ok (r := r.drop 1) ?_ (by rw [List.length_drop]; omega)
      rw [hd, if_neg (fun e => h3 (by rw [e]; rfl)), wantR_yes (by omega) (UInt8.toNat.inj (by rw [h2]; rfl))]
    generalize (r.getD 0 0).toNat = x at hbt hbad hok
    have hw2 : r.length ≠ 0 → IntKind.i64.wrap (((l.length - r.length : Nat) : Int) + 1) = ((l.length - r.length + 1 : Nat) : Int) := fun _ => by rw [wrap64 (by omega) (by omega)]; omega
    refine Fn.of Tryd.f23 _ Tryd.func23 rfl (by decide) (by show 2 ≤ _; decide) tbOk 43 rfl fun S w0 gl => ?_
    refine Run.go ?_; (conv => whnf); repeat' (first | ((with_reducible refine Know.mk fun _ => ?_); conv => whnf) | ((with_reducible refine Need.mk ?_ ?_); exact nd; conv => whnf) | ((with_reducible first | refine Both.mk ?_ ?_ | refine Any.mk fun b hb => ?_ | refine AskB.dec (fun hb => ?_) (fun hb => ?_) | refine AskB.ndec (fun hb => ?_) (fun hb => ?_) | refine AskB.mk (fun hb => ?_) (fun hb => ?_)) <;> conv => whnf) | ((with_reducible first | refine Run.drawX rfl (by decide +kernel) ?_ | refine Run.drawT rfl (by decide +kernel) ?_ | refine Run.drawW rfl (by decide +kernel) ?_); conv => whnf) | fail)
    refine Run.callBX hc rfl rfl ⟨Le.refl _, Le.int hw1, trivial⟩ rfl rfl rfl ?_
    (conv => whnf); repeat' (first | ((with_reducible refine Know.mk fun _ => ?_); conv => whnf) | ((with_reducible refine Need.mk ?_ ?_); exact nd; conv => whnf) | ((with_reducible first | refine Both.mk ?_ ?_ | refine Any.mk fun b hb => ?_ | refine AskB.dec (fun hb => ?_) (fun hb => ?_) | refine AskB.ndec (fun hb => ?_) (fun hb => ?_) | refine AskB.mk (fun hb => ?_) (fun hb => ?_)) <;> conv => whnf) | ((with_reducible first | refine Run.drawX rfl (by decide +kernel) ?_ | refine Run.drawT rfl (by decide +kernel) ?_ | refine Run.drawW rfl (by decide +kernel) ?_); conv => whnf) | fail)
    all_goals first
      | (rw [hbad (by first | (left; omega) | (right; left; omega) | (right; right; assumption))]
         exact Run.leaveC3 (.inr ⟨_, rfl⟩) rfl Tryd.func23 rfl rfl rfl (Nat.le_of_ble_eq_true rfl) (pc_le (Le.refl _) tS.nil (Le.refl _)) (Le.refl _) (Le.refl _))
      | (have hz : r.length ≠ 0 := by omega
         rw [hok ⟨hz, by omega, by assumption⟩]
         exact Run.leaveC3 (.inr ⟨_, rfl⟩) rfl Tryd.func23 rfl rfl rfl (Nat.le_of_ble_eq_true rfl) (pc_le (Le.refl _) (one_sl 5 _ _ (Le.refl _)) (Le.refl _)) (Le.int (hw2 hz)) (Le.refl _))
theorem rfix_fn (l : List UInt8) (i : Nat) (hi : i < l.length) (hl : l.length ≤ 65536) : Fn Tryd.prog 22 [.str (bs l), .int .i64 (i : Int)] (pieA l (fixR 3 [] (l.drop (i + 1)))) := by
  have hs := bs_size l
  generalize hX : fixR 3 [] (l.drop (i + 1)) = X
  refine Fn.of Tryd.f22 _ Tryd.func22 rfl (by decide) (by show 2 ≤ _; decide) tbOk 62 rfl fun S w0 gl => ?_
  refine Run.go ?_; (conv => whnf); repeat' (first | ((with_reducible refine Know.mk fun _ => ?_); conv => whnf) | ((with_reducible refine Need.mk ?_ ?_); exact nd; conv => whnf) | ((with_reducible first | refine Both.mk ?_ ?_ | refine Any.mk fun b hb => ?_ | refine AskB.dec (fun hb => ?_) (fun hb => ?_) | refine AskB.ndec (fun hb => ?_) (fun hb => ?_) | refine AskB.mk (fun hb => ?_) (fun hb => ?_)) <;> conv => whnf) | ((with_reducible first | refine Run.drawX rfl (by decide +kernel) ?_ | refine Run.drawT rfl (by decide +kernel) ?_ | refine Run.drawW rfl (by decide +kernel) ?_); conv => whnf) | fail)
  refine Run.holdBoxNil 7 1 1000 9 1 (fun _ _ => .u) rfl rfl rfl rfl ?_
  refine Run.loop [0, 4, 7] (fun (a : List ByteArray × Nat) => [(1, .int .i64 (a.2 : Int))]) (fun a => [(4, .box 34 [.int .i64 0, .nils, .int .i64 0]), (7, .box 34 [.int .i64 3, .row 1000, .int .i64 0]), (1000, tS.R 9 a.1)]) (fun a => a.1.length ≤ 3 ∧ a.2 < l.length ∧ X = fixR (3 - a.1.length) a.1 (l.drop (a.2 + 1))) (fun a => 3 - a.1.length) ([], i) ⟨by simp, hi, hX.symm⟩ ⟨Le.refl _, trivial⟩ ⟨MOle.refl _, MOle.refl _, ⟨rfl, rfl, rfl, fun i j hi hj => absurd hi (Nat.not_lt_zero _)⟩, trivial⟩ ?_
  intro ⟨ts, i⟩ ⟨ht3, hi, he⟩ IH
  simp only [] at ht3 hi he ⊢
  have hw1 : IntKind.i64.wrap ((i : Int) + 1) = ((i + 1 : Nat) : Int) := wrap64 (by omega) (by omega)
  have hc := content_fn l (i + 1) (by omega) hl
  rw [fixR_eq] at he
  cases hx : cont (l.drop (i + 1)) with
  | bad k =>
    rw [hx] at hc he
    rw [pieA_bad he rfl]
    refine Run.go ?_; (conv => whnf); repeat' (first | ((with_reducible refine Know.mk fun _ => ?_); conv => whnf) | ((with_reducible refine Need.mk ?_ ?_); exact nd; conv => whnf) | ((with_reducible first | refine Both.mk ?_ ?_ | refine Any.mk fun b hb => ?_ | refine AskB.dec (fun hb => ?_) (fun hb => ?_) | refine AskB.ndec (fun hb => ?_) (fun hb => ?_) | refine AskB.mk (fun hb => ?_) (fun hb => ?_)) <;> conv => whnf) | ((with_reducible first | refine Run.drawX rfl (by decide +kernel) ?_ | refine Run.drawT rfl (by decide +kernel) ?_ | refine Run.drawW rfl (by decide +kernel) ?_); conv => whnf) | fail)
    refine Run.callBX hc rfl rfl ⟨Le.refl _, Le.int hw1, trivial⟩ rfl rfl rfl ?_
    (conv => whnf); repeat' (first | ((with_reducible refine Know.mk fun _ => ?_); conv => whnf) | ((with_reducible refine Need.mk ?_ ?_); exact nd; conv => whnf) | ((with_reducible first | refine Both.mk ?_ ?_ | refine Any.mk fun b hb => ?_ | refine AskB.dec (fun hb => ?_) (fun hb => ?_) | refine AskB.ndec (fun hb => ?_) (fun hb => ?_) | refine AskB.mk (fun hb => ?_) (fun hb => ?_)) <;> conv => whnf) | ((with_reducible first | refine Run.drawX rfl (by decide +kernel) ?_ | refine Run.drawT rfl (by decide +kernel) ?_ | refine Run.drawW rfl (by decide +kernel) ?_); conv => whnf) | fail)
    exact Run.leaveC3 (.inr ⟨_, rfl⟩) rfl Tryd.func22 rfl rfl rfl (Nat.le_of_ble_eq_true rfl) (pc_le (Le.refl _) tS.nil (Le.refl _)) (Le.refl _) (Le.refl _)
  | ok t r =>
    rw [hx] at hc he
    simp only [] at he
    have hsr : r <:+ l := (cont_suf _ _ (Nat.le_refl _) hx).trans (List.drop_suffix _ _)
    have hrl := suf_le hsr
    have hbt := suf_bt hsr
    have hln : (ts ++ [bs t]).length = ts.length + 1 := by simp
    have hbad : (r.length = 0 ∨ (((r.getD 0 0).toNat ≠ 125 ∨ ts.length + 1 < 2) ∧ ((r.getD 0 0).toNat ≠ 124 ∨ 4 ≤ ts.length + 1))) → pieA l X = tupL [.agg 3 (tPc.enc pc0), .int .i64 ((l.length - r.length : Nat) : Int), .ff] := fun h => by
      refine pieA_bad (k := r.length) ?_ rfl
      rw [he]
      exact fixA_bad (by rw [hln]; omega) (by rw [hln]; exact h)
    have hok : (r.length ≠ 0 ∧ (r.getD 0 0).toNat = 125 ∧ 2 ≤ ts.length + 1) → pieA l X = tupL [.agg 3 (tPc.enc ⟨3, ts ++ [bs t], 0⟩), .int .i64 ((l.length - r.length + 1 : Nat) : Int), .tt] := fun ⟨h1, h2, h3⟩ => by
      refine pieA_ok (r := r.drop 1) ?_ (by rw [List.length_drop]; omega)
      rw [he]
      exact fixA_ok h1 h2 (by rw [hln]; exact h3)
    have hgo : (r.length ≠ 0 ∧ (r.getD 0 0).toNat = 124 ∧ ts.length + 1 < 4) → X = fixR (3 - (ts ++ [bs t]).length) (ts ++ [bs t]) (l.drop (l.length - r.length + 1)) := fun ⟨h1, h2, h3⟩ => by
      rw [he, show 3 - ts.length = (2 - ts.length) + 1 by omega, fixA_go h1 h2, hln, show 3 - (ts.length + 1) = 2 - ts.length by omega, ← List.drop_drop, suf_drop hsr]
    generalize (r.getD 0 0).toNat = x at hbt hbad hok hgo
    have hw2 : r.length ≠ 0 → IntKind.i64.wrap (((l.length - r.length : Nat) : Int) + 1) = ((l.length - r.length + 1 : Nat) : Int) := fun _ => by rw [wrap64 (by omega) (by omega)]; omega
    have hpush := tS.push 9 ts (bs t) (fun i j => (([[.str (bs t)]] : List (List AV)).getD i []).getD j AV.u) (one0 (Le.refl _))
    refine Run.go ?_; (conv => whnf); repeat' (first | ((with_reducible refine Know.mk fun _ => ?_); conv => whnf) | ((with_reducible refine Need.mk ?_ ?_); exact nd; conv => whnf) | ((with_reducible first | refine Both.mk ?_ ?_ | refine Any.mk fun b hb => ?_ | refine AskB.dec (fun hb => ?_) (fun hb => ?_) | refine AskB.ndec (fun hb => ?_) (fun hb => ?_) | refine AskB.mk (fun hb => ?_) (fun hb => ?_)) <;> conv => whnf) | ((with_reducible first | refine Run.drawX rfl (by decide +kernel) ?_ | refine Run.drawT rfl (by decide +kernel) ?_ | refine Run.drawW rfl (by decide +kernel) ?_); conv => whnf) | fail)
    refine Run.callBX hc rfl rfl ⟨Le.refl _, Le.int hw1, trivial⟩ rfl rfl rfl ?_
    (conv => whnf); repeat' (first | ((with_reducible refine Know.mk fun _ => ?_); conv => whnf) | ((with_reducible refine Need.mk ?_ ?_); exact nd; conv => whnf) | ((with_reducible first | refine Both.mk ?_ ?_ | refine Any.mk fun b hb => ?_ | refine AskB.dec (fun hb => ?_) (fun hb => ?_) | refine AskB.ndec (fun hb => ?_) (fun hb => ?_) | refine AskB.mk (fun hb => ?_) (fun hb => ?_)) <;> conv => whnf) | ((with_reducible first | refine Run.drawX rfl (by decide +kernel) ?_ | refine Run.drawT rfl (by decide +kernel) ?_ | refine Run.drawW rfl (by decide +kernel) ?_); conv => whnf) | fail)
    all_goals try (exfalso; omega)
    all_goals first
      | (rw [hbad (by omega)]
         exact Run.leaveC3 (.inr ⟨_, rfl⟩) rfl Tryd.func22 rfl rfl rfl (Nat.le_of_ble_eq_true rfl) (pc_le (Le.refl _) tS.nil (Le.refl _)) (Le.refl _) (Le.refl _))
      | (have hz : r.length ≠ 0 ∧ x = 125 ∧ 2 ≤ ts.length + 1 := by omega
         rw [hok hz]
         exact Run.leaveC3 (.inr ⟨_, rfl⟩) rfl Tryd.func22 rfl rfl rfl (Nat.le_of_ble_eq_true rfl) (pc_le (Le.refl _) hpush.rows (Le.refl _)) (Le.int (hw2 hz.1)) (Le.refl _))
      | (have hz : r.length ≠ 0 ∧ x = 124 ∧ ts.length + 1 < 4 := by omega
         refine Run.holdBoxRow 7 1 1000 34 (by rfl) (by rfl) (by rfl) rfl rfl rfl ?_
         refine Run.to _ _ ?_ ?_ (IH (ts ++ [bs t], l.length - r.length) (by simp only [hln]; omega) ⟨by simp only [hln]; omega, by simp only []; omega, hgo hz⟩)
         · exact ⟨Le.refl _, Le.refl _, Le.refl _, Le.refl _, trivial⟩
         · exact ⟨MOle.refl _, MOle.refl _, hpush, trivial⟩)
end Go.Proofs.YtkdpmkjbfkjmdaaDoor.V

namespace Go.Proofs.YtkdpmkjbfkjmdaaDoor.V
set_option linter.unusedVariables false
set_option linter.unusedSimpArgs false
open Go Go.Proofs Go.RowKit
def bl (b : ByteArray) : List UInt8 := b.data.toList
theorem bs_bl (b : ByteArray) : bs (bl b) = b := by simp [bs, bl]
theorem bl_bs (l : List UInt8) : bl (bs l) = l := by simp [bs, bl]
/-- One byte as it stands in a marked text. -/
def esc1 (c : UInt8) : List UInt8 := if isMk c = true then [92, c] else [c]
def escL (t : List UInt8) : List UInt8 := t.flatMap esc1
theorem escL_cons (c : UInt8) (t : List UInt8) : escL (c :: t) = esc1 c ++ escL t := by simp [escL]
theorem escL_app (a b : List UInt8) : escL (a ++ b) = escL a ++ escL b := by simp [escL]
theorem escL_len : ∀ t : List UInt8, t.length ≤ (escL t).length ∧ (escL t).length ≤ 2 * t.length
  | [] => ⟨Nat.le_refl _, Nat.le_refl _⟩
  | c :: t => by
    have ih := escL_len t
    rw [escL_cons, List.length_append, List.length_cons]
    have : 1 ≤ (esc1 c).length ∧ (esc1 c).length ≤ 2 := by unfold esc1; split <;> simp
    omega
theorem escL_nil {t : List UInt8} : escL t = [] ↔ t = [] := by
  have := escL_len t
  constructor
  · intro h; rw [h] at this; simp at this; cases t with | nil => rfl | cons c t => simp at this
  · rintro rfl; rfl
/-- Nothing follows, or a mark that is no backslash. -/
def stopB : List UInt8 → Bool
  | [] => true
  | c :: _ => isMk c && decide (c ≠ 92)
theorem cont_of : ∀ (t r : List UInt8), stopB r = true → cont (escL t ++ r) = .ok t r
  | [], r, h => by
    show cont r = _
    cases r with
    | nil => rfl
    | cons c r =>
      unfold stopB at h
      rw [Bool.and_eq_true, decide_eq_true_eq] at h
      exact cont_stop r h.2 h.1
  | c :: t, r, h => by
    rw [escL_cons, List.append_assoc]
    unfold esc1
    by_cases hc : isMk c = true
    · rw [if_pos hc]
      show cont (92 :: c :: (escL t ++ r)) = _
      rw [cont_esc _ hc, cont_of t r h]; rfl
    · rw [if_neg hc]
      show cont (c :: (escL t ++ r)) = _
      rw [cont_plain _ hc, cont_of t r h]; rfl
theorem cont_inv : ∀ (n : Nat) (l : List UInt8), l.length ≤ n → ∀ {t r}, cont l = .ok t r → l = escL t ++ r ∧ stopB r = true
  | n, [], _, t, r, h => by cases h; exact ⟨rfl, rfl⟩
  | 0, c :: l, hn, _, _, _ => absurd hn (by simp)
  | n + 1, c :: l, hn, t, r, h => by
    have hpush : ∀ (x : CR) (d : UInt8), x.push d = .ok t r → ∃ t', x = .ok t' r ∧ t = d :: t' := by
      intro x d hx
      cases x with
      | bad k => cases hx
      | ok t' r' => cases hx; exact ⟨t', rfl, rfl⟩
    simp only [List.length_cons] at hn
    by_cases h2 : isMk c = true
    · by_cases h1 : c = 92
      · subst h1
        cases l with
        | nil => rw [cont_end] at h; cases h
        | cons d l =>
          simp only [List.length_cons] at hn
          by_cases hd : isMk d = true
          · rw [cont_esc l hd] at h
            obtain ⟨t', h', rfl⟩ := hpush _ _ h
            have := cont_inv n l (by omega) h'
            refine ⟨?_, this.2⟩
            rw [escL_cons, show esc1 d = [92, d] from if_pos hd, this.1]
            rw [← this.1]; simp [← this.1]
          · rw [cont_bad l hd] at h; cases h
      · rw [cont_stop l h1 h2] at h
        cases h
        exact ⟨rfl, by show (isMk c && decide (c ≠ 92)) = true; rw [h2, Bool.true_and]; exact decide_eq_true h1⟩
    · rw [cont_plain l h2] at h
      obtain ⟨t', h', rfl⟩ := hpush _ _ h
      have := cont_inv n l (by omega) h'
      refine ⟨?_, this.2⟩
      rw [escL_cons, show esc1 c = [c] from if_neg h2]
      simp [← this.1]
/-! ### numbers -/
def numL (n : Nat) : List UInt8 := if n < 10 then [UInt8.ofNat (48 + n)] else [UInt8.ofNat (48 + n / 10), UInt8.ofNat (48 + n % 10)]
theorem ofNat_toNat {n : Nat} (h : n < 256) : (UInt8.ofNat n).toNat = n := by rw [UInt8.toNat_ofNat']; exact Nat.mod_eq_of_lt h
theorem dig_of {n : Nat} (h : n < 10) : dig (UInt8.ofNat (48 + n)) = true := by rw [dig_iff, ofNat_toNat (by omega)]; omega
theorem gapN_of {n : Nat} (h1 : 1 ≤ n) (h2 : n ≤ 99) (r : List UInt8) : gapN (numL n ++ 93 :: r) = (n, 93 :: r) := by
  unfold numL
  by_cases h : n < 10
  · rw [if_pos h]
    show gapN (UInt8.ofNat (48 + n) :: 93 :: r) = _
    rw [gapN2, if_pos ⟨dig_of h, by rw [ne48, ofNat_toNat (by omega)]; omega⟩, if_neg (by decide), ofNat_toNat (by omega)]
    congr 1; omega
  · rw [if_neg h]
    show gapN (UInt8.ofNat (48 + n / 10) :: UInt8.ofNat (48 + n % 10) :: 93 :: r) = _
    rw [gapN2, if_pos ⟨dig_of (by omega), by rw [ne48, ofNat_toNat (by omega)]; omega⟩, if_pos (dig_of (by omega)), ofNat_toNat (by omega), ofNat_toNat (by omega)]
    congr 1; omega
theorem gapN_inv (r : List UInt8) (h : (gapN r).1 ≠ 0) : r = numL (gapN r).1 ++ (gapN r).2 ∧ (gapN r).1 ≤ 99 := by
  have key : ∀ (c : UInt8) (n : Nat), c.toNat = 48 + n → n < 10 → UInt8.ofNat (48 + n) = c := fun c n h _ => by rw [← h]; exact u8_ofNat c
  refine ⟨?_, (gapN_le r).2⟩
  match r with
  | [] => exact absurd rfl h
  | [d] =>
    rw [gapN1] at h ⊢
    by_cases hd : dig d = true ∧ d ≠ 48
    · rw [if_pos hd] at h ⊢
      have h1 := (dig_iff d).mp hd.1
      unfold numL
      rw [if_pos (show d.toNat - 48 < 10 by omega), key d _ (by omega) (by omega)]; rfl
    · rw [if_neg hd] at h; exact absurd rfl h
  | d :: e :: r =>
    rw [gapN2] at h ⊢
    by_cases hd : dig d = true ∧ d ≠ 48
    · rw [if_pos hd] at h ⊢
      have h1 := (dig_iff d).mp hd.1
      have h3 := (ne48 d).mp hd.2
      by_cases he : dig e = true
      · rw [if_pos he] at h ⊢
        have h2 := (dig_iff e).mp he
        unfold numL
        simp only []
        rw [if_neg (by omega), key d _ (show d.toNat = 48 + (10 * (d.toNat - 48) + (e.toNat - 48)) / 10 by omega) (by omega), key e _ (show e.toNat = 48 + (10 * (d.toNat - 48) + (e.toNat - 48)) % 10 by omega) (by omega)]; rfl
      · rw [if_neg he] at h ⊢
        unfold numL
        simp only []
        rw [if_pos (show d.toNat - 48 < 10 by omega), key d _ (by omega) (by omega)]; rfl
    · rw [if_neg hd] at h; exact absurd rfl h
/-! ### pieces -/
def rightP (p : Pc) : Prop :=
  ((p.kind = 1 ∨ p.kind = 4) ∧ p.texts.length = 1 ∧ p.texts.getD 0 .empty ≠ .empty ∧ p.n = 0) ∨ (p.kind = 2 ∧ p.texts.length = 0 ∧ 1 ≤ p.n ∧ p.n ≤ 99) ∨ (p.kind = 3 ∧ 2 ≤ p.texts.length ∧ p.texts.length ≤ 4 ∧ p.n = 0)
instance (p : Pc) : Decidable (rightP p) := by unfold rightP; infer_instance
def rightB (p : Pc) (ahead : Int) : Bool := decide (rightP p) && !(decide (p.kind = 1) && decide (ahead = 1))
def checkB : Int → List Pc → Bool
  | _, [] => true
  | a, p :: ps => rightB p a && checkB p.kind ps
def joinL : List (List UInt8) → List UInt8
  | [] => []
  | [x] => x
  | x :: y :: r => x ++ 124 :: joinL (y :: r)
def escB (b : ByteArray) : List UInt8 := escL (bl b)
def pcL (p : Pc) : List UInt8 :=
  if p.kind = 2 then 91 :: (numL p.n.toNat ++ [93])
  else if p.kind = 4 then 60 :: (joinL (p.texts.map escB) ++ [62])
  else if p.kind = 3 then 123 :: (joinL (p.texts.map escB) ++ [125])
  else joinL (p.texts.map escB)
def prK (ps : List Pc) : List UInt8 := ps.flatMap pcL
theorem prK_cons (p : Pc) (ps : List Pc) : prK (p :: ps) = pcL p ++ prK ps := by simp [prK]
theorem prK_app (a b : List Pc) : prK (a ++ b) = prK a ++ prK b := by simp [prK]
theorem one_text {l : List ByteArray} (h : l.length = 1) : l = [l.getD 0 .empty] := by
  match l, h with
  | [x], _ => rfl
theorem stop_mark {c : UInt8} {r : List UInt8} (h : isMk c = true) (h2 : c ≠ 92) : stopB (c :: r) = true := by
  show (isMk c && decide (c ≠ 92)) = true
  rw [h, Bool.true_and]; exact decide_eq_true h2
theorem bl_ne {b : ByteArray} (h : b ≠ .empty) : bl b ≠ [] := fun e => h (by rw [← bs_bl b, e]; rfl)
theorem wantR_self (c : UInt8) (p : Pc) (r : List UInt8) : wantR c p (c :: r) = .ok p r := by simp [wantR]
theorem fixR_of : ∀ (xs : List ByteArray) (x : ByteArray) (f : Nat) (ts : List ByteArray) (r : List UInt8), xs.length ≤ f → f + ts.length = 3 → 2 ≤ (ts ++ x :: xs).length → fixR f ts (joinL ((x :: xs).map escB) ++ 125 :: r) = .ok ⟨3, ts ++ x :: xs, 0⟩ r
  | [], x, f, ts, r, hf, h3, h2 => by
    rw [fixR_eq]
    show (match cont (escL (bl x) ++ 125 :: r) with
      | CR.bad k => PR.bad k
      | CR.ok t r' => fixA f (ts ++ [bs t]) r') = _
    rw [cont_of _ _ (stop_mark (by decide) (by decide))]
    show fixA f (ts ++ [bs (bl x)]) (125 :: r) = _
    rw [bs_bl, fixA_ok (by simp) (by rfl) h2]; rfl
  | y :: ys, x, f, ts, r, hf, h3, h2 => by
    simp only [List.length_cons] at hf
    obtain ⟨f, rfl⟩ : ∃ g, f = g + 1 := ⟨f - 1, by omega⟩
    rw [fixR_eq]
    have e : joinL ((x :: y :: ys).map escB) ++ 125 :: r = escL (bl x) ++ 124 :: (joinL ((y :: ys).map escB) ++ 125 :: r) := by
      show (escL (bl x) ++ 124 :: joinL ((y :: ys).map escB)) ++ 125 :: r = _
      simp
    rw [e, cont_of _ _ (stop_mark (by decide) (by decide))]
    show fixA (f + 1) (ts ++ [bs (bl x)]) (124 :: _) = _
    rw [bs_bl, fixA_go (by simp) (by rfl)]
    have := fixR_of ys y f (ts ++ [x]) r (by omega) (by simp; omega) (by simp; omega)
    rw [List.append_assoc] at this
    exact this
theorem pieceR_of (p : Pc) (r : List UInt8) (h : rightP p) (hs : p.kind = 1 → stopB r = true) : pieceR (pcL p ++ r) = .ok p r ∧ (p.kind ≠ 1 → stopB (pcL p) = true) ∧ pcL p ≠ [] := by
  obtain ⟨kind, texts, n⟩ := p
  rcases h with ⟨hk, h1, hne, hn⟩ | ⟨hk, h1, hn1, hn2⟩ | ⟨hk, h1, h2, hn⟩
  · simp only at hk h1 hne hn hs
    subst hn
    rw [one_text h1] at hne ⊢
    generalize texts.getD 0 .empty = x at hne ⊢
    have hne : x ≠ .empty := hne
    have hb := bl_ne hne
    rcases hk with rfl | rfl
    · have e : pcL ⟨1, [x], 0⟩ = escL (bl x) := rfl
      rw [e]
      refine ⟨?_, fun h => absurd rfl h, fun e => hb (escL_nil.mp e)⟩
      have hc := cont_of (bl x) r (hs rfl)
      have hp : plainR (escL (bl x) ++ r) = .ok ⟨1, [x], 0⟩ r := by
        unfold plainR; rw [hc]
        dsimp only
        rw [if_neg hb, bs_bl]
      cases hq : escL (bl x) ++ r with
      | nil => rw [hq] at hc; injection hc with e1 e2; exact absurd e1.symm hb
      | cons c q =>
        rw [hq] at hp hc
        have hnm : ¬ (isMk c = true ∧ c ≠ 92) := fun h => by
          rw [cont_stop q h.2 h.1] at hc; injection hc with e1 e2; exact hb e1.symm
        have k : ∀ m : UInt8, isMk m = true → m ≠ 92 → c ≠ m := fun m h1 h2 e => hnm ⟨by rw [e]; exact h1, by rw [e]; exact h2⟩
        rw [pieceR_cons, if_neg (k 91 (by decide) (by decide)), if_neg (k 60 (by decide) (by decide)), if_neg (k 123 (by decide) (by decide))]
        exact hp
    · have e : pcL ⟨4, [x], 0⟩ = 60 :: (escL (bl x) ++ [62]) := rfl
      rw [e]
      refine ⟨?_, fun _ => rfl, by simp⟩
      have hc := cont_of (bl x) (62 :: r) (stop_mark (by decide) (by decide))
      have e2 : (60 :: (escL (bl x) ++ [62])) ++ r = 60 :: (escL (bl x) ++ 62 :: r) := by simp
      rw [e2, pieceR_cons, if_neg (by decide), if_pos rfl]
      unfold dimR
      rw [hc]
      dsimp only
      rw [if_neg hb, bs_bl]
      exact wantR_self _ _ _
  · simp only at hk h1 hn1 hn2 hs
    subst hk
    obtain rfl : texts = [] := List.length_eq_zero_iff.mp h1
    have e : pcL ⟨2, [], n⟩ = 91 :: (numL n.toNat ++ [93]) := rfl
    rw [e]
    refine ⟨?_, fun _ => rfl, by simp⟩
    have e2 : (91 :: (numL n.toNat ++ [93])) ++ r = 91 :: (numL n.toNat ++ 93 :: r) := by simp
    have hg := gapN_of (n := n.toNat) (by omega) (by omega) r
    rw [e2, pieceR_cons, if_pos rfl]
    unfold gapR
    rw [hg]
    dsimp only
    rw [if_neg (by omega), show ((n.toNat : Nat) : Int) = n by omega]
    exact wantR_self _ _ _
  · simp only at hk h1 h2 hn hs
    subst hk; subst hn
    have e : pcL ⟨3, texts, 0⟩ = 123 :: (joinL (texts.map escB) ++ [125]) := rfl
    rw [e]
    refine ⟨?_, fun _ => rfl, by simp⟩
    have e2 : (123 :: (joinL (texts.map escB) ++ [125])) ++ r = 123 :: (joinL (texts.map escB) ++ 125 :: r) := by simp
    rw [e2, pieceR_cons, if_neg (by decide), if_neg (by decide), if_pos rfl]
    match texts, h1, h2 with
    | x :: xs, h1, h2 =>
      simp only [List.length_cons] at h1 h2
      exact fixR_of xs x 3 [] r (by omega) rfl (by simp; omega)
theorem prK_stop {ps : List Pc} {a : Int} (h : checkB a ps = true) (ha : a = 1) : stopB (prK ps) = true := by
  cases ps with
  | nil => rfl
  | cons p ps =>
    unfold checkB rightB at h
    rw [Bool.and_eq_true, Bool.and_eq_true, decide_eq_true_eq] at h
    have hk : p.kind ≠ 1 := fun e => by have := h.1.2; rw [e, ha] at this; simp at this
    have h2 := pieceR_of p [] h.1.1 (fun _ => rfl)
    rw [prK_cons]
    have h3 := h2.2.1 hk
    cases hq : pcL p with
    | nil => exact absurd hq h2.2.2
    | cons c q => rw [hq] at h3; exact h3
theorem parse_pr : ∀ (ps : List Pc) (a : Int), checkB a ps = true → parseL (prK ps) = .ok ps
  | [], _, _ => rfl
  | p :: ps, a, h => by
    unfold checkB at h
    rw [Bool.and_eq_true] at h
    have hr : rightP p := by
      have := h.1
      unfold rightB at this
      rw [Bool.and_eq_true, decide_eq_true_eq] at this
      exact this.1
    have hp := pieceR_of p (prK ps) hr (fun e => prK_stop h.2 e)
    rw [prK_cons, parseL_ok (fun e => hp.2.2 (List.append_eq_nil_iff.mp e).1) hp.1, parse_pr ps p.kind h.2]; rfl
end Go.Proofs.YtkdpmkjbfkjmdaaDoor.V

namespace Go.Proofs.YtkdpmkjbfkjmdaaDoor.V
set_option linter.unusedVariables false
set_option linter.unusedSimpArgs false
open Go Go.Proofs Go.RowKit
theorem fixR_inv : ∀ (f : Nat) (ts : List ByteArray) (r : List UInt8) {p : Pc} {r' : List UInt8}, fixR f ts r = .ok p r' → ∃ x xs, p = ⟨3, ts ++ x :: xs, 0⟩ ∧ r = joinL ((x :: xs).map escB) ++ 125 :: r' ∧ xs.length ≤ f ∧ 2 ≤ (ts ++ x :: xs).length
  | f, ts, r, p, r', h => by
    rw [fixR_eq] at h
    cases hc : cont r with
    | bad k => rw [hc] at h; cases h
    | ok t r1 =>
      rw [hc] at h
      obtain ⟨hr, hs⟩ := cont_inv _ r (Nat.le_refl _) hc
      have hend : ∀ {r1 : List UInt8}, fixEnd (ts ++ [bs t]) r1 = .ok p r' → r = escL t ++ r1 → ∃ x xs, p = ⟨3, ts ++ x :: xs, 0⟩ ∧ r = joinL ((x :: xs).map escB) ++ 125 :: r' ∧ xs.length ≤ f ∧ 2 ≤ (ts ++ x :: xs).length := by
        intro r1 h e
        unfold fixEnd at h
        split at h
        · cases h
        · rename_i h2
          obtain ⟨_, rfl, rfl⟩ := wantR_le.2 h
          refine ⟨bs t, [], rfl, ?_, Nat.zero_le _, by omega⟩
          rw [e]
          show _ = escL (bl (bs t)) ++ _
          rw [bl_bs]
      match f, r1, h, hr with
      | f, [], h, hr => exact hend (by cases f <;> exact h) hr
      | 0, c :: r2, h, hr => exact hend h hr
      | f + 1, c :: r2, h, hr =>
        have h' : (if c = 124 then fixR f (ts ++ [bs t]) r2 else fixEnd (ts ++ [bs t]) (c :: r2)) = .ok p r' := h
        by_cases hc : c = 124
        · rw [if_pos hc] at h'
          obtain ⟨x, xs, e1, e2, e3, e4⟩ := fixR_inv f _ r2 h'
          refine ⟨bs t, x :: xs, by rw [e1]; simp, ?_, by simp; omega, by simp at e4 ⊢; omega⟩
          rw [hr, e2, hc]
          show _ = (escL (bl (bs t)) ++ 124 :: joinL ((x :: xs).map escB)) ++ _
          rw [bl_bs]; simp
        · rw [if_neg hc] at h'
          exact hend h' hr
theorem plain_inv {l r : List UInt8} {p : Pc} (h : plainR l = .ok p r) : ∃ t, t ≠ [] ∧ p = ⟨1, [bs t], 0⟩ ∧ cont l = .ok t r := by
  rw [plainR_eq] at h
  cases hx : (cont l).full with
  | bad k => rw [hx] at h; cases h
  | ok t r' => rw [hx] at h; cases h; exact ⟨t, (full_ok hx).2, rfl, (full_ok hx).1⟩
theorem bs_ne {t : List UInt8} (h : t ≠ []) : bs t ≠ .empty := fun e => h (bs_inj (b := []) e)
theorem pieceR_inv {l r : List UInt8} {p : Pc} (h : pieceR l = .ok p r) : l = pcL p ++ r ∧ rightP p ∧ (p.kind = 1 → stopB r = true) ∧ (stopB l = true → p.kind ≠ 1) := by
  have hplain : ∀ {l : List UInt8}, plainR l = .ok p r → l = pcL p ++ r ∧ rightP p ∧ (p.kind = 1 → stopB r = true) ∧ (stopB l = true → p.kind ≠ 1) := by
    intro l h
    obtain ⟨t, ht, rfl, hc⟩ := plain_inv h
    obtain ⟨e1, e2⟩ := cont_inv _ l (Nat.le_refl _) hc
    refine ⟨?_, .inl ⟨.inl rfl, rfl, bs_ne ht, rfl⟩, fun _ => e2, fun hs => ?_⟩
    · rw [e1]
      show _ = escL (bl (bs t)) ++ r
      rw [bl_bs]
    · exfalso
      cases l with
      | nil => cases hc; exact ht rfl
      | cons c l =>
        have hs' : (isMk c && decide (c ≠ 92)) = true := hs
        rw [Bool.and_eq_true, decide_eq_true_eq] at hs'
        rw [cont_stop l hs'.2 hs'.1] at hc
        injection hc with e1 e2
        exact ht e1.symm
  cases l with
  | nil => exact hplain h
  | cons c s =>
    rw [pieceR_cons] at h
    by_cases h1 : c = 91
    · rw [if_pos h1] at h
      unfold gapR at h
      by_cases hz : (gapN s).1 = 0
      · rw [if_pos hz] at h; cases h
      · rw [if_neg hz] at h
        obtain ⟨_, rfl, e⟩ := wantR_le.2 h
        obtain ⟨g1, g2⟩ := gapN_inv s hz
        refine ⟨?_, .inr (.inl ⟨rfl, rfl, ?_, ?_⟩), fun e => absurd e (by show ¬ (2 : Int) = 1; decide), fun _ e => absurd e (by show ¬ (2 : Int) = 1; decide)⟩
        · show c :: s = 91 :: (numL ((((gapN s).1 : Nat) : Int)).toNat ++ [93]) ++ r
          rw [Int.toNat_natCast, h1]
          conv => lhs; rw [g1, e]
          simp
        · show (1 : Int) ≤ (((gapN s).1 : Nat) : Int); omega
        · show (((gapN s).1 : Nat) : Int) ≤ 99; omega
    rw [if_neg h1] at h
    by_cases h2 : c = 60
    · rw [if_pos h2, dimR_eq] at h
      cases hx : (cont s).full with
      | bad k => rw [hx] at h; cases h
      | ok t r1 =>
        rw [hx] at h
        obtain ⟨_, rfl, e⟩ := wantR_le.2 h
        obtain ⟨e1, e2⟩ := cont_inv _ s (Nat.le_refl _) (full_ok hx).1
        refine ⟨?_, .inl ⟨.inr rfl, rfl, bs_ne (full_ok hx).2, rfl⟩, fun e => absurd e (by show ¬ (4 : Int) = 1; decide), fun _ e => absurd e (by show ¬ (4 : Int) = 1; decide)⟩
        rw [h2, e1, e]
        show _ = 60 :: (escL (bl (bs t)) ++ [62]) ++ r
        rw [bl_bs]; simp
    rw [if_neg h2] at h
    by_cases h3 : c = 123
    · rw [if_pos h3] at h
      obtain ⟨x, xs, rfl, e2, e3, e4⟩ := fixR_inv 3 [] s h
      refine ⟨?_, .inr (.inr ⟨rfl, e4, ?_, rfl⟩), fun e => absurd e (by show ¬ (3 : Int) = 1; decide), fun _ e => absurd e (by show ¬ (3 : Int) = 1; decide)⟩
      · rw [h3, e2]
        show _ = 123 :: (joinL ((x :: xs).map escB) ++ [125]) ++ r
        simp
      · show (x :: xs).length ≤ 4
        simp; omega
    rw [if_neg h3] at h
    exact hplain h
theorem parse_inv : ∀ (n : Nat) (l : List UInt8), l.length ≤ n → ∀ {ps : List Pc}, parseL l = .ok ps → ∀ a : Int, (a = 1 → stopB l = true) → l = prK ps ∧ checkB a ps = true
  | n, [], _, ps, h, a, ha => by cases h; exact ⟨rfl, rfl⟩
  | 0, c :: l, hn, _, _, _, _ => absurd hn (by simp)
  | n + 1, c :: l, hn, ps, h, a, ha => by
    cases hp : pieceR (c :: l) with
    | bad k => rw [parseL_bad (by simp) hp] at h; cases h
    | ok p r =>
      have hlt := (pieceR_le (c :: l)).2 hp
      rw [parseL_ok (by simp) hp] at h
      cases hr : parseL r with
      | bad k => rw [hr] at h; cases h
      | ok qs =>
        rw [hr] at h
        cases h
        obtain ⟨e1, e2, e3, e4⟩ := pieceR_inv hp
        obtain ⟨f1, f2⟩ := parse_inv n r (by omega) hr p.kind e3
        refine ⟨by rw [prK_cons, ← f1]; exact e1, ?_⟩
        unfold checkB rightB
        rw [f2, Bool.and_true, Bool.and_eq_true, decide_eq_true_eq]
        refine ⟨e2, ?_⟩
        cases hk : decide (p.kind = 1) with
        | false => rfl
        | true =>
          have : ¬ a = 1 := fun e => e4 (ha e) (of_decide_eq_true hk)
          rw [decide_eq_false this]; rfl
theorem check_len : ∀ {ps : List Pc} {a : Int}, checkB a ps = true → ∀ p ∈ ps, rightP p
  | [], _, _, p, hp => by cases hp
  | q :: ps, a, h, p, hp => by
    unfold checkB at h
    rw [Bool.and_eq_true] at h
    rcases List.mem_cons.mp hp with rfl | hp
    · have := h.1
      unfold rightB at this
      rw [Bool.and_eq_true, decide_eq_true_eq] at this
      exact this.1
    · exact check_len h.2 p hp
theorem right_texts {p : Pc} (h : rightP p) : p.texts.length ≤ 4 := by
  rcases h with h | h | h <;> omega
theorem pcL_pos {p : Pc} (h : rightP p) : 1 ≤ (pcL p).length := by
  have := (pieceR_of p [] h (fun _ => rfl)).2.2
  cases hq : pcL p with
  | nil => exact absurd hq this
  | cons c q => simp
theorem prK_len : ∀ {ps : List Pc}, (∀ p ∈ ps, rightP p) → ps.length ≤ (prK ps).length
  | [], _ => Nat.le_refl _
  | p :: ps, h => by
    rw [prK_cons, List.length_append, List.length_cons]
    have := pcL_pos (h p List.mem_cons_self)
    have := prK_len (fun q hq => h q (List.mem_cons_of_mem _ hq))
    omega
/-- How many pieces, how many texts. -/
theorem parseT_len (l : List UInt8) : (parseT l).1.length ≤ 65536 ∧ ∀ p ∈ (parseT l).1, p.texts.length ≤ 4 := by
  unfold parseT
  split
  · exact ⟨Nat.zero_le _, fun p hp => by cases hp⟩
  · rename_i hl
    cases h : parseL l with
    | bad k => exact ⟨Nat.zero_le _, fun p hp => by cases hp⟩
    | ok ps =>
      obtain ⟨e1, e2⟩ := parse_inv _ l (Nat.le_refl _) h 0 (fun h => absurd h (by decide))
      have h3 := check_len e2
      refine ⟨?_, fun p hp => right_texts (h3 p hp)⟩
      have := prK_len h3
      rw [← e1] at this
      show ps.length ≤ 65536
      omega
theorem parse_esc {t : List UInt8} (h : t ≠ []) : parseL (escL t) = .ok [⟨1, [bs t], 0⟩] := by
  have hc : checkB 0 [⟨1, [bs t], 0⟩] = true := by
    unfold checkB rightB
    rw [decide_eq_true (show rightP ⟨1, [bs t], 0⟩ from .inl ⟨.inl rfl, rfl, bs_ne h, rfl⟩)]
    rfl
  have := parse_pr _ 0 hc
  rw [show prK [⟨1, [bs t], 0⟩] = escL t by show escL (bl (bs t)) ++ [] = _; rw [bl_bs]; simp] at this
  exact this
end Go.Proofs.YtkdpmkjbfkjmdaaDoor.V

namespace Go.Proofs.YtkdpmkjbfkjmdaaDoor.V
set_option linter.unusedVariables false
set_option linter.unusedSimpArgs false
open Go Go.Proofs Go.RowKit
set_option maxRecDepth 100000
set_option maxHeartbeats 1000000
theorem pc_push (e : Nat) (ps : List Pc) (q : Pc) : MOle (.row e tPc.sz (ps.length + 1) (joinRow ps.length (tPc.G ps) fun i j => ([List.map (tPc.enc q) (List.range 3)].getD i []).getD j AV.u)) (tPc.R e (ps ++ [q])) := tPc.push e ps q _ (fun j hj => by
  match j, hj with
  | 0, _ => exact Le.refl _
  | 1, _ => exact Le.refl _
  | 2, _ => exact Le.refl _)
theorem rparse_fn (l : List UInt8) : Fn Tryd.prog 11 [.str (bs l)] (parseA l) := by
  refine Fn.of Tryd.f11 _ Tryd.func11 rfl (by decide) (by show 1 ≤ _; decide) tbOk 73 rfl fun S w0 gl => ?_
  have hs := bs_size l
  refine Run.go ?_; (conv => whnf); repeat' (first | ((with_reducible refine Know.mk fun _ => ?_); conv => whnf) | ((with_reducible refine Need.mk ?_ ?_); exact nd; conv => whnf) | ((with_reducible first | refine Both.mk ?_ ?_ | refine Any.mk fun b hb => ?_ | refine AskB.dec (fun hb => ?_) (fun hb => ?_) | refine AskB.ndec (fun hb => ?_) (fun hb => ?_) | refine AskB.mk (fun hb => ?_) (fun hb => ?_)) <;> conv => whnf) | ((with_reducible first | refine Run.drawX rfl (by decide +kernel) ?_ | refine Run.drawT rfl (by decide +kernel) ?_ | refine Run.drawW rfl (by decide +kernel) ?_); conv => whnf) | fail)
  · have hT : parseT l = ([], 0, 1) := if_pos (by omega)
    unfold parseA
    rw [hT]
    exact Run.leave (ts := [2,3,4]) (.inr ⟨_, rfl⟩) rfl Tryd.func11 rfl (resT ⟨tPc.nil, Le.refl _, Le.refl _, trivial⟩)
  have hl : l.length ≤ 65536 := by omega
  have hT : parseT l = match parseL l with
      | .bad k => ([], l.length - k, 50)
      | .ok ps => (ps, 0, 0) := if_neg (by omega)
  refine Run.holdNil 5 1000 34 3 (fun _ _ => .u) rfl ?_
  refine Run.loop [0] (fun (a : List Pc × Nat) => [(5, .row 1000), (6, .int .i64 (a.2 : Int))]) (fun a => [(1000, tPc.R 34 a.1)]) (fun a => a.2 ≤ l.length ∧ a.1.length ≤ a.2 ∧ (parseL (l.drop a.2)).app a.1 = parseL l) (fun a => l.length - a.2) ([], 0) ⟨Nat.zero_le _, Nat.zero_le _, QR.app_nil _⟩ ⟨Le.refl _, Le.refl _, trivial⟩ ⟨⟨rfl, rfl, rfl, fun i j hi hj => absurd hi (Nat.not_lt_zero _)⟩, trivial⟩ ?_
  intro ⟨ps, i⟩ ⟨hi, hpl, hps⟩ IH
  simp only [] at hi hpl hps ⊢
  by_cases hil : i < l.length
  · have hne : l.drop i ≠ [] := fun e => by have := congrArg List.length e; rw [List.length_drop] at this; simp at this; omega
    have hd := drop_get l i hil
    have hbt : bt (bs l) (i : Int).toNat = ((l.getD i 0).toNat : Int) := bt_at l i
    have he : pieceR (l.drop i) = if l.getD i 0 = 91 then gapR (l.drop (i + 1)) else if l.getD i 0 = 60 then dimR (l.drop (i + 1)) else if l.getD i 0 = 123 then fixR 3 [] (l.drop (i + 1)) else plainR (l.drop i) := by
      rw [hd, pieceR_cons]
    have hg := rgap_fn l i hil hl
    have hf := rfix_fn l i hil hl
    have hm := rdim_fn l i hil hl
    have hc := content_fn l i (by omega) hl
    cases hx : pieceR (l.drop i) with
    | bad k =>
      have hb : parseL l = .bad k := by rw [← hps, parseL_bad hne hx]; rfl
      rw [hb] at hT
      have hA : parseA l = tupL [tPc.L [], .int .i64 ((l.length - k : Nat) : Int), .int .i64 50] := by unfold parseA; rw [hT]
      clear IH
      rw [hA]
      by_cases h1 : l.getD i 0 = 91
      · rw [he, if_pos h1] at hx
        rw [hx] at hg
        rw [h1] at hbt
        have hbt : bt (bs l) (i : Int).toNat = 91 := hbt
        refine Run.go ?_; (conv => whnf); repeat' (first | ((with_reducible refine Know.mk fun _ => ?_); conv => whnf) | ((with_reducible refine Need.mk ?_ ?_); exact nd; conv => whnf) | ((with_reducible refine Both.mk ?_ ?_) <;> conv => whnf) | ((with_reducible refine Any.mk fun b hb => ?_); conv => whnf) | ((with_reducible first | refine AskB.dec (fun hb => ?_) (fun hb => ?_) | refine AskB.ndec (fun hb => ?_) (fun hb => ?_) | refine AskB.mk (fun hb => ?_) (fun hb => ?_)) <;> first | (exfalso; omega) | (conv => whnf)) | ((with_reducible first | refine Run.drawX rfl (by decide +kernel) ?_ | refine Run.drawT rfl (by decide +kernel) ?_ | refine Run.drawW rfl (by decide +kernel) ?_); conv => whnf) | fail)
        all_goals try (exfalso; omega)
        refine Run.callBX hg rfl rfl ⟨Le.refl _, Le.refl _, trivial⟩ rfl rfl rfl ?_
        (conv => whnf); repeat' (first | ((with_reducible refine Know.mk fun _ => ?_); conv => whnf) | ((with_reducible refine Need.mk ?_ ?_); exact nd; conv => whnf) | ((with_reducible first | refine Both.mk ?_ ?_ | refine Any.mk fun b hb => ?_ | refine AskB.dec (fun hb => ?_) (fun hb => ?_) | refine AskB.ndec (fun hb => ?_) (fun hb => ?_) | refine AskB.mk (fun hb => ?_) (fun hb => ?_)) <;> conv => whnf) | ((with_reducible first | refine Run.drawX rfl (by decide +kernel) ?_ | refine Run.drawT rfl (by decide +kernel) ?_ | refine Run.drawW rfl (by decide +kernel) ?_); conv => whnf) | fail)
        exact Run.leave (ts := [2,3,4]) (.inr ⟨_, rfl⟩) rfl Tryd.func11 rfl (resT ⟨tPc.nil, Le.refl _, Le.refl _, trivial⟩)
      by_cases h3 : l.getD i 0 = 123
      · rw [he, if_neg h1, if_neg (by rw [h3]; decide), if_pos h3] at hx
        rw [hx] at hf
        rw [h3] at hbt
        have hbt : bt (bs l) (i : Int).toNat = 123 := hbt
        refine Run.go ?_; (conv => whnf); repeat' (first | ((with_reducible refine Know.mk fun _ => ?_); conv => whnf) | ((with_reducible refine Need.mk ?_ ?_); exact nd; conv => whnf) | ((with_reducible refine Both.mk ?_ ?_) <;> conv => whnf) | ((with_reducible refine Any.mk fun b hb => ?_); conv => whnf) | ((with_reducible first | refine AskB.dec (fun hb => ?_) (fun hb => ?_) | refine AskB.ndec (fun hb => ?_) (fun hb => ?_) | refine AskB.mk (fun hb => ?_) (fun hb => ?_)) <;> first | (exfalso; omega) | (conv => whnf)) | ((with_reducible first | refine Run.drawX rfl (by decide +kernel) ?_ | refine Run.drawT rfl (by decide +kernel) ?_ | refine Run.drawW rfl (by decide +kernel) ?_); conv => whnf) | fail)
        all_goals try (exfalso; omega)
        refine Run.callBX hf rfl rfl ⟨Le.refl _, Le.refl _, trivial⟩ rfl rfl rfl ?_
        (conv => whnf); repeat' (first | ((with_reducible refine Know.mk fun _ => ?_); conv => whnf) | ((with_reducible refine Need.mk ?_ ?_); exact nd; conv => whnf) | ((with_reducible first | refine Both.mk ?_ ?_ | refine Any.mk fun b hb => ?_ | refine AskB.dec (fun hb => ?_) (fun hb => ?_) | refine AskB.ndec (fun hb => ?_) (fun hb => ?_) | refine AskB.mk (fun hb => ?_) (fun hb => ?_)) <;> conv => whnf) | ((with_reducible first | refine Run.drawX rfl (by decide +kernel) ?_ | refine Run.drawT rfl (by decide +kernel) ?_ | refine Run.drawW rfl (by decide +kernel) ?_); conv => whnf) | fail)
        exact Run.leave (ts := [2,3,4]) (.inr ⟨_, rfl⟩) rfl Tryd.func11 rfl (resT ⟨tPc.nil, Le.refl _, Le.refl _, trivial⟩)
      by_cases h2 : l.getD i 0 = 60
      · rw [he, if_neg h1, if_pos h2] at hx
        rw [hx] at hm
        rw [h2] at hbt
        have hbt : bt (bs l) (i : Int).toNat = 60 := hbt
        refine Run.go ?_; (conv => whnf); repeat' (first | ((with_reducible refine Know.mk fun _ => ?_); conv => whnf) | ((with_reducible refine Need.mk ?_ ?_); exact nd; conv => whnf) | ((with_reducible refine Both.mk ?_ ?_) <;> conv => whnf) | ((with_reducible refine Any.mk fun b hb => ?_); conv => whnf) | ((with_reducible first | refine AskB.dec (fun hb => ?_) (fun hb => ?_) | refine AskB.ndec (fun hb => ?_) (fun hb => ?_) | refine AskB.mk (fun hb => ?_) (fun hb => ?_)) <;> first | (exfalso; omega) | (conv => whnf)) | ((with_reducible first | refine Run.drawX rfl (by decide +kernel) ?_ | refine Run.drawT rfl (by decide +kernel) ?_ | refine Run.drawW rfl (by decide +kernel) ?_); conv => whnf) | fail)
        all_goals try (exfalso; omega)
        refine Run.callBX hm rfl rfl ⟨Le.refl _, Le.refl _, trivial⟩ rfl rfl rfl ?_
        (conv => whnf); repeat' (first | ((with_reducible refine Know.mk fun _ => ?_); conv => whnf) | ((with_reducible refine Need.mk ?_ ?_); exact nd; conv => whnf) | ((with_reducible first | refine Both.mk ?_ ?_ | refine Any.mk fun b hb => ?_ | refine AskB.dec (fun hb => ?_) (fun hb => ?_) | refine AskB.ndec (fun hb => ?_) (fun hb => ?_) | refine AskB.mk (fun hb => ?_) (fun hb => ?_)) <;> conv => whnf) | ((with_reducible first | refine Run.drawX rfl (by decide +kernel) ?_ | refine Run.drawT rfl (by decide +kernel) ?_ | refine Run.drawW rfl (by decide +kernel) ?_); conv => whnf) | fail)
        exact Run.leave (ts := [2,3,4]) (.inr ⟨_, rfl⟩) rfl Tryd.func11 rfl (resT ⟨tPc.nil, Le.refl _, Le.refl _, trivial⟩)
      rw [he, if_neg h1, if_neg h2, if_neg h3] at hx
      generalize hcc : l.getD i 0 = c at h1 h2 h3 hbt
      have k1 : c.toNat ≠ 91 := fun e => h1 (UInt8.toNat.inj e)
      have k2 : c.toNat ≠ 60 := fun e => h2 (UInt8.toNat.inj e)
      have k3 : c.toNat ≠ 123 := fun e => h3 (UInt8.toNat.inj e)
      cases hy : cont (l.drop i) with
      | bad k' =>
        have : k' = k := by
          unfold plainR at hx; rw [hy] at hx; cases hx; rfl
        subst this
        rw [hy] at hc
        refine Run.go ?_; (conv => whnf); repeat' (first | ((with_reducible refine Know.mk fun _ => ?_); conv => whnf) | ((with_reducible refine Need.mk ?_ ?_); exact nd; conv => whnf) | ((with_reducible refine Both.mk ?_ ?_) <;> conv => whnf) | ((with_reducible refine Any.mk fun b hb => ?_); conv => whnf) | ((with_reducible first | refine AskB.dec (fun hb => ?_) (fun hb => ?_) | refine AskB.ndec (fun hb => ?_) (fun hb => ?_) | refine AskB.mk (fun hb => ?_) (fun hb => ?_)) <;> first | (exfalso; omega) | (conv => whnf)) | ((with_reducible first | refine Run.drawX rfl (by decide +kernel) ?_ | refine Run.drawT rfl (by decide +kernel) ?_ | refine Run.drawW rfl (by decide +kernel) ?_); conv => whnf) | fail)
        all_goals try (exfalso; omega)
        refine Run.callBX hc rfl rfl ⟨Le.refl _, Le.refl _, trivial⟩ rfl rfl rfl ?_
        (conv => whnf); repeat' (first | ((with_reducible refine Know.mk fun _ => ?_); conv => whnf) | ((with_reducible refine Need.mk ?_ ?_); exact nd; conv => whnf) | ((with_reducible first | refine Both.mk ?_ ?_ | refine Any.mk fun b hb => ?_ | refine AskB.dec (fun hb => ?_) (fun hb => ?_) | refine AskB.ndec (fun hb => ?_) (fun hb => ?_) | refine AskB.mk (fun hb => ?_) (fun hb => ?_)) <;> conv => whnf) | ((with_reducible first | refine Run.drawX rfl (by decide +kernel) ?_ | refine Run.drawT rfl (by decide +kernel) ?_ | refine Run.drawW rfl (by decide +kernel) ?_); conv => whnf) | fail)
        exact Run.leave (ts := [2,3,4]) (.inr ⟨_, rfl⟩) rfl Tryd.func11 rfl (resT ⟨tPc.nil, Le.refl _, Le.refl _, trivial⟩)
      | ok t r =>
        have ht : t = [] ∧ r.length = k := by
          unfold plainR at hx; rw [hy] at hx
          by_cases ht : t = []
          · dsimp only at hx
            rw [if_pos ht] at hx; cases hx; exact ⟨ht, rfl⟩
          · dsimp only at hx
            rw [if_neg ht] at hx; cases hx
        obtain ⟨rfl, rfl⟩ := ht
        rw [hy] at hc
        refine Run.go ?_; (conv => whnf); repeat' (first | ((with_reducible refine Know.mk fun _ => ?_); conv => whnf) | ((with_reducible refine Need.mk ?_ ?_); exact nd; conv => whnf) | ((with_reducible refine Both.mk ?_ ?_) <;> conv => whnf) | ((with_reducible refine Any.mk fun b hb => ?_); conv => whnf) | ((with_reducible first | refine AskB.dec (fun hb => ?_) (fun hb => ?_) | refine AskB.ndec (fun hb => ?_) (fun hb => ?_) | refine AskB.mk (fun hb => ?_) (fun hb => ?_)) <;> first | (exfalso; omega) | (conv => whnf)) | ((with_reducible first | refine Run.drawX rfl (by decide +kernel) ?_ | refine Run.drawT rfl (by decide +kernel) ?_ | refine Run.drawW rfl (by decide +kernel) ?_); conv => whnf) | fail)
        all_goals try (exfalso; omega)
        refine Run.callBX hc rfl rfl ⟨Le.refl _, Le.refl _, trivial⟩ rfl rfl rfl ?_
        (conv => whnf); repeat' (first | ((with_reducible refine Know.mk fun _ => ?_); conv => whnf) | ((with_reducible refine Need.mk ?_ ?_); exact nd; conv => whnf) | ((with_reducible first | refine Both.mk ?_ ?_ | refine Any.mk fun b hb => ?_ | refine AskB.dec (fun hb => ?_) (fun hb => ?_) | refine AskB.ndec (fun hb => ?_) (fun hb => ?_) | refine AskB.mk (fun hb => ?_) (fun hb => ?_)) <;> conv => whnf) | ((with_reducible first | refine Run.drawX rfl (by decide +kernel) ?_ | refine Run.drawT rfl (by decide +kernel) ?_ | refine Run.drawW rfl (by decide +kernel) ?_); conv => whnf) | fail)
        · exact Run.leave (ts := [2,3,4]) (.inr ⟨_, rfl⟩) rfl Tryd.func11 rfl (resT ⟨tPc.nil, Le.refl _, Le.refl _, trivial⟩)
        · exact absurd rfl (by assumption)
    | ok q r =>
      have hlt := (pieceR_le (l.drop i)).2 hx
      rw [List.length_drop] at hlt
      have hsr := (pieceR_suf hx).trans (List.drop_suffix _ _)
      have hps2 : (parseL (l.drop (l.length - r.length))).app (ps ++ [q]) = parseL l := by rw [suf_drop hsr, ← hps, parseL_ok hne hx, QR.app_push]
      have IH2 := IH (ps ++ [q], l.length - r.length) (by simp only []; omega) ⟨by simp only []; omega, by simp; omega, hps2⟩
      simp only [] at IH2
      have hpush := pc_push 34 ps q
      by_cases h1 : l.getD i 0 = 91
      · rw [he, if_pos h1] at hx
        rw [hx] at hg
        rw [h1] at hbt
        have hbt : bt (bs l) (i : Int).toNat = 91 := hbt
        refine Run.go ?_; (conv => whnf); repeat' (first | ((with_reducible refine Know.mk fun _ => ?_); conv => whnf) | ((with_reducible refine Need.mk ?_ ?_); exact nd; conv => whnf) | ((with_reducible refine Both.mk ?_ ?_) <;> conv => whnf) | ((with_reducible refine Any.mk fun b hb => ?_); conv => whnf) | ((with_reducible first | refine AskB.dec (fun hb => ?_) (fun hb => ?_) | refine AskB.ndec (fun hb => ?_) (fun hb => ?_) | refine AskB.mk (fun hb => ?_) (fun hb => ?_)) <;> first | (exfalso; omega) | (conv => whnf)) | ((with_reducible first | refine Run.drawX rfl (by decide +kernel) ?_ | refine Run.drawT rfl (by decide +kernel) ?_ | refine Run.drawW rfl (by decide +kernel) ?_); conv => whnf) | fail)
        all_goals try (exfalso; omega)
        refine Run.callBX hg rfl rfl ⟨Le.refl _, Le.refl _, trivial⟩ rfl rfl rfl ?_
        (conv => whnf); repeat' (first | ((with_reducible refine Know.mk fun _ => ?_); conv => whnf) | ((with_reducible refine Need.mk ?_ ?_); exact nd; conv => whnf) | ((with_reducible first | refine Both.mk ?_ ?_ | refine Any.mk fun b hb => ?_ | refine AskB.dec (fun hb => ?_) (fun hb => ?_) | refine AskB.ndec (fun hb => ?_) (fun hb => ?_) | refine AskB.mk (fun hb => ?_) (fun hb => ?_)) <;> conv => whnf) | ((with_reducible first | refine Run.drawX rfl (by decide +kernel) ?_ | refine Run.drawT rfl (by decide +kernel) ?_ | refine Run.drawW rfl (by decide +kernel) ?_); conv => whnf) | fail)
        refine Run.hold (z := 70) 5 1000 (by rfl) (by rfl) (by rfl) ?_
        refine Run.to _ _ ?_ ?_ IH2
        · exact ⟨Le.refl _, Le.refl _, Le.refl _, trivial⟩
        · exact ⟨hpush, trivial⟩
      by_cases h3 : l.getD i 0 = 123
      · rw [he, if_neg h1, if_neg (by rw [h3]; decide), if_pos h3] at hx
        rw [hx] at hf
        rw [h3] at hbt
        have hbt : bt (bs l) (i : Int).toNat = 123 := hbt
        refine Run.go ?_; (conv => whnf); repeat' (first | ((with_reducible refine Know.mk fun _ => ?_); conv => whnf) | ((with_reducible refine Need.mk ?_ ?_); exact nd; conv => whnf) | ((with_reducible refine Both.mk ?_ ?_) <;> conv => whnf) | ((with_reducible refine Any.mk fun b hb => ?_); conv => whnf) | ((with_reducible first | refine AskB.dec (fun hb => ?_) (fun hb => ?_) | refine AskB.ndec (fun hb => ?_) (fun hb => ?_) | refine AskB.mk (fun hb => ?_) (fun hb => ?_)) <;> first | (exfalso; omega) | (conv => whnf)) | ((with_reducible first | refine Run.drawX rfl (by decide +kernel) ?_ | refine Run.drawT rfl (by decide +kernel) ?_ | refine Run.drawW rfl (by decide +kernel) ?_); conv => whnf) | fail)
        all_goals try (exfalso; omega)
        refine Run.callBX hf rfl rfl ⟨Le.refl _, Le.refl _, trivial⟩ rfl rfl rfl ?_
        (conv => whnf); repeat' (first | ((with_reducible refine Know.mk fun _ => ?_); conv => whnf) | ((with_reducible refine Need.mk ?_ ?_); exact nd; conv => whnf) | ((with_reducible first | refine Both.mk ?_ ?_ | refine Any.mk fun b hb => ?_ | refine AskB.dec (fun hb => ?_) (fun hb => ?_) | refine AskB.ndec (fun hb => ?_) (fun hb => ?_) | refine AskB.mk (fun hb => ?_) (fun hb => ?_)) <;> conv => whnf) | ((with_reducible first | refine Run.drawX rfl (by decide +kernel) ?_ | refine Run.drawT rfl (by decide +kernel) ?_ | refine Run.drawW rfl (by decide +kernel) ?_); conv => whnf) | fail)
        refine Run.hold (z := 70) 5 1000 (by rfl) (by rfl) (by rfl) ?_
        refine Run.to _ _ ?_ ?_ IH2
        · exact ⟨Le.refl _, Le.refl _, Le.refl _, trivial⟩
        · exact ⟨hpush, trivial⟩
      by_cases h2 : l.getD i 0 = 60
      · rw [he, if_neg h1, if_pos h2] at hx
        rw [hx] at hm
        rw [h2] at hbt
        have hbt : bt (bs l) (i : Int).toNat = 60 := hbt
        refine Run.go ?_; (conv => whnf); repeat' (first | ((with_reducible refine Know.mk fun _ => ?_); conv => whnf) | ((with_reducible refine Need.mk ?_ ?_); exact nd; conv => whnf) | ((with_reducible refine Both.mk ?_ ?_) <;> conv => whnf) | ((with_reducible refine Any.mk fun b hb => ?_); conv => whnf) | ((with_reducible first | refine AskB.dec (fun hb => ?_) (fun hb => ?_) | refine AskB.ndec (fun hb => ?_) (fun hb => ?_) | refine AskB.mk (fun hb => ?_) (fun hb => ?_)) <;> first | (exfalso; omega) | (conv => whnf)) | ((with_reducible first | refine Run.drawX rfl (by decide +kernel) ?_ | refine Run.drawT rfl (by decide +kernel) ?_ | refine Run.drawW rfl (by decide +kernel) ?_); conv => whnf) | fail)
        all_goals try (exfalso; omega)
        refine Run.callBX hm rfl rfl ⟨Le.refl _, Le.refl _, trivial⟩ rfl rfl rfl ?_
        (conv => whnf); repeat' (first | ((with_reducible refine Know.mk fun _ => ?_); conv => whnf) | ((with_reducible refine Need.mk ?_ ?_); exact nd; conv => whnf) | ((with_reducible first | refine Both.mk ?_ ?_ | refine Any.mk fun b hb => ?_ | refine AskB.dec (fun hb => ?_) (fun hb => ?_) | refine AskB.ndec (fun hb => ?_) (fun hb => ?_) | refine AskB.mk (fun hb => ?_) (fun hb => ?_)) <;> conv => whnf) | ((with_reducible first | refine Run.drawX rfl (by decide +kernel) ?_ | refine Run.drawT rfl (by decide +kernel) ?_ | refine Run.drawW rfl (by decide +kernel) ?_); conv => whnf) | fail)
        refine Run.hold (z := 70) 5 1000 (by rfl) (by rfl) (by rfl) ?_
        refine Run.to _ _ ?_ ?_ IH2
        · exact ⟨Le.refl _, Le.refl _, Le.refl _, trivial⟩
        · exact ⟨hpush, trivial⟩
      rw [he, if_neg h1, if_neg h2, if_neg h3] at hx
      generalize hcc : l.getD i 0 = c at h1 h2 h3 hbt
      have k1 : c.toNat ≠ 91 := fun e => h1 (UInt8.toNat.inj e)
      have k2 : c.toNat ≠ 60 := fun e => h2 (UInt8.toNat.inj e)
      have k3 : c.toNat ≠ 123 := fun e => h3 (UInt8.toNat.inj e)
      cases hy : cont (l.drop i) with
      | bad k' => unfold plainR at hx; rw [hy] at hx; cases hx
      | ok t r' =>
        have ht : t ≠ [] ∧ q = ⟨1, [bs t], 0⟩ ∧ r' = r := by
          unfold plainR at hx; rw [hy] at hx
          by_cases ht : t = []
          · dsimp only at hx
            rw [if_pos ht] at hx; cases hx
          · dsimp only at hx
            rw [if_neg ht] at hx; cases hx; exact ⟨ht, rfl, rfl⟩
        obtain ⟨ht, rfl, rfl⟩ := ht
        rw [hy] at hc
        refine Run.go ?_; (conv => whnf); repeat' (first | ((with_reducible refine Know.mk fun _ => ?_); conv => whnf) | ((with_reducible refine Need.mk ?_ ?_); exact nd; conv => whnf) | ((with_reducible refine Both.mk ?_ ?_) <;> conv => whnf) | ((with_reducible refine Any.mk fun b hb => ?_); conv => whnf) | ((with_reducible first | refine AskB.dec (fun hb => ?_) (fun hb => ?_) | refine AskB.ndec (fun hb => ?_) (fun hb => ?_) | refine AskB.mk (fun hb => ?_) (fun hb => ?_)) <;> first | (exfalso; omega) | (conv => whnf)) | ((with_reducible first | refine Run.drawX rfl (by decide +kernel) ?_ | refine Run.drawT rfl (by decide +kernel) ?_ | refine Run.drawW rfl (by decide +kernel) ?_); conv => whnf) | fail)
        all_goals try (exfalso; omega)
        refine Run.callBX hc rfl rfl ⟨Le.refl _, Le.refl _, trivial⟩ rfl rfl rfl ?_
        (conv => whnf); repeat' (first | ((with_reducible refine Know.mk fun _ => ?_); conv => whnf) | ((with_reducible refine Need.mk ?_ ?_); exact nd; conv => whnf) | ((with_reducible first | refine Both.mk ?_ ?_ | refine Any.mk fun b hb => ?_ | refine AskB.dec (fun hb => ?_) (fun hb => ?_) | refine AskB.ndec (fun hb => ?_) (fun hb => ?_) | refine AskB.mk (fun hb => ?_) (fun hb => ?_)) <;> conv => whnf) | ((with_reducible first | refine Run.drawX rfl (by decide +kernel) ?_ | refine Run.drawT rfl (by decide +kernel) ?_ | refine Run.drawW rfl (by decide +kernel) ?_); conv => whnf) | fail)
        · exact absurd (bs_inj (b := []) (by assumption)) ht
        · refine Run.freeze 35 (by rfl) ?_
          refine Run.go ?_; (conv => whnf); repeat' (first | ((with_reducible refine Know.mk fun _ => ?_); conv => whnf) | ((with_reducible refine Need.mk ?_ ?_); exact nd; conv => whnf) | ((with_reducible first | refine Both.mk ?_ ?_ | refine Any.mk fun b hb => ?_ | refine AskB.dec (fun hb => ?_) (fun hb => ?_) | refine AskB.ndec (fun hb => ?_) (fun hb => ?_) | refine AskB.mk (fun hb => ?_) (fun hb => ?_)) <;> conv => whnf) | ((with_reducible first | refine Run.drawX rfl (by decide +kernel) ?_ | refine Run.drawT rfl (by decide +kernel) ?_ | refine Run.drawW rfl (by decide +kernel) ?_); conv => whnf) | fail)
          refine Run.hold (z := 70) 5 1000 (by rfl) (by rfl) (by rfl) ?_
          refine Run.to _ _ ?_ ?_ IH2
          · exact ⟨Le.refl _, Le.refl _, Le.refl _, trivial⟩
          · exact ⟨tPc.push 34 ps _ _ (fun j hj => by
              match j, hj with
              | 0, _ => exact Le.refl _
              | 1, _ => exact one_sl 5 _ _ (Le.refl _)
              | 2, _ => exact Le.refl _), trivial⟩
  · obtain rfl : i = l.length := by omega
    have hb : parseL l = .ok ps := by rw [← hps, List.drop_length]; simp [parseL, parseF, QR.app]
    rw [hb] at hT
    refine Run.go ?_; (conv => whnf); repeat' (first | ((with_reducible refine Know.mk fun _ => ?_); conv => whnf) | ((with_reducible refine Need.mk ?_ ?_); exact nd; conv => whnf) | ((with_reducible first | refine Both.mk ?_ ?_ | refine Any.mk fun b hb => ?_ | refine AskB.dec (fun hb => ?_) (fun hb => ?_) | refine AskB.ndec (fun hb => ?_) (fun hb => ?_) | refine AskB.mk (fun hb => ?_) (fun hb => ?_)) <;> conv => whnf) | ((with_reducible first | refine Run.drawX rfl (by decide +kernel) ?_ | refine Run.drawT rfl (by decide +kernel) ?_ | refine Run.drawW rfl (by decide +kernel) ?_); conv => whnf) | fail)
    all_goals try (exfalso; omega)
    unfold parseA
    rw [hT]
    exact Run.leave (ts := [2,3,4]) (.inr ⟨_, rfl⟩) rfl Tryd.func11 rfl (resT ⟨Le.refl _, Le.refl _, Le.refl _, trivial⟩)
end Go.Proofs.YtkdpmkjbfkjmdaaDoor.V

namespace Go.Proofs.YtkdpmkjbfkjmdaaDoor.V
set_option linter.unusedVariables false
set_option linter.unusedSimpArgs false
open Go Go.Proofs Go.RowKit
set_option maxRecDepth 100000
set_option maxHeartbeats 1000000
theorem ext_take {α : Type} {a b : List α} {z : α} (hl : a.length = b.length) (h : ∀ i, i < a.length → a.getD i z = b.getD i z) : a = b := by
  apply List.ext_getElem hl
  intro i h1 h2
  have := h i h1
  rwa [List.getD, List.getElem?_eq_getElem h1, List.getD, List.getElem?_eq_getElem h2] at this
theorem samePc_fn (a b : List Pc) (ha : a.length ≤ 1000000) (hta : ∀ p ∈ a, p.texts.length ≤ 1000000) : Fn Tryd.prog 12 [tPc.L a, tPc.L b] (.bool (decide (a = b))) := by
  refine Fn.of Tryd.f12 _ Tryd.func12 rfl (by decide) (by show 2 ≤ _; decide) tbOk 84 rfl fun S w0 gl => ?_
  refine Run.go ?_; (conv => whnf); repeat' (first | ((with_reducible refine Know.mk fun _ => ?_); conv => whnf) | ((with_reducible refine Need.mk ?_ ?_); exact nd; conv => whnf) | ((with_reducible first | refine Both.mk ?_ ?_ | refine Any.mk fun b hb => ?_ | refine AskB.dec (fun hb => ?_) (fun hb => ?_) | refine AskB.ndec (fun hb => ?_) (fun hb => ?_) | refine AskB.mk (fun hb => ?_) (fun hb => ?_)) <;> conv => whnf) | ((with_reducible first | refine Run.drawX rfl (by decide +kernel) ?_ | refine Run.drawT rfl (by decide +kernel) ?_ | refine Run.drawW rfl (by decide +kernel) ?_); conv => whnf) | fail)
  rotate_left
  · refine Run.leave (ts := [4]) (.inr ⟨_, rfl⟩) rfl Tryd.func12 rfl (Le.ff.trans (Le.bool (decide_eq_false ?_).symm))
    intro e; subst e; omega
  have hl : a.length = b.length := by omega
  refine Run.loop [0, 1] (fun (i : Nat) => [(5, .int .i64 (i : Int))]) (fun i => []) (fun i => i ≤ a.length ∧ ∀ k, k < i → a.getD k tPc.z = b.getD k tPc.z) (fun i => a.length - i) 0 ⟨Nat.zero_le _, fun k hk => absurd hk (Nat.not_lt_zero _)⟩ ⟨Le.refl _, trivial⟩ (by trivial) ?_
  intro i ⟨hi, heq⟩ IH
  have hw1 : IntKind.i64.wrap ((i : Int) + 1) = ((i + 1 : Nat) : Int) := wrap64 (by omega) (by omega)
  by_cases hil : i < a.length
  · have htl := hta _ (getD_mem' (z := tPc.z) i hil)
    have hneq : a.getD i tPc.z ≠ b.getD i tPc.z → decide (a = b) = false := fun h => decide_eq_false (fun e => h (by rw [e]))
    refine Run.go ?_; (conv => whnf); repeat' (first | ((with_reducible refine Know.mk fun _ => ?_); conv => whnf) | ((with_reducible refine Need.mk ?_ ?_); exact nd; conv => whnf) | ((with_reducible first | refine Both.mk ?_ ?_ | refine Any.mk fun b hb => ?_ | refine AskB.dec (fun hb => ?_) (fun hb => ?_) | refine AskB.ndec (fun hb => ?_) (fun hb => ?_) | refine AskB.mk (fun hb => ?_) (fun hb => ?_)) <;> conv => whnf) | ((with_reducible first | refine Run.drawX rfl (by decide +kernel) ?_ | refine Run.drawT rfl (by decide +kernel) ?_ | refine Run.drawW rfl (by decide +kernel) ?_); conv => whnf) | fail)
    · simp only [Int.toNat_natCast] at *
      have k1 : (a.getD i tPc.z).kind = (b.getD i tPc.z).kind := by assumption
      have k2 : (a.getD i tPc.z).n = (b.getD i tPc.z).n := by assumption
      have k3 : (a.getD i tPc.z).texts.length = (b.getD i tPc.z).texts.length := by omega
      refine Run.loop [0, 1, 5] (fun (j : Nat) => [(6, .int .i64 (j : Int))]) (fun i => []) (fun j => j ≤ (a.getD i tPc.z).texts.length ∧ ∀ k, k < j → (a.getD i tPc.z).texts.getD k .empty = (b.getD i tPc.z).texts.getD k .empty) (fun j => (a.getD i tPc.z).texts.length - j) 0 ⟨Nat.zero_le _, fun k hk => absurd hk (Nat.not_lt_zero _)⟩ ⟨Le.refl _, trivial⟩ (by trivial) ?_
      intro j ⟨hj, hjeq⟩ IHj
      have hw2 : IntKind.i64.wrap ((j : Int) + 1) = ((j + 1 : Nat) : Int) := wrap64 (by omega) (by omega)
      have k3' : (a.getD (i : Int).toNat tPc.z).texts.length = (b.getD (i : Int).toNat tPc.z).texts.length := k3
      have k4' : (a.getD (i : Int).toNat tPc.z).texts.length = (a.getD i tPc.z).texts.length := rfl
      refine Run.go ?_; (conv => whnf); repeat' (first | ((with_reducible refine Know.mk fun _ => ?_); conv => whnf) | ((with_reducible refine Need.mk ?_ ?_); exact nd; conv => whnf) | ((with_reducible first | refine Both.mk ?_ ?_ | refine Any.mk fun b hb => ?_ | refine AskB.dec (fun hb => ?_) (fun hb => ?_) | refine AskB.ndec (fun hb => ?_) (fun hb => ?_) | refine AskB.mk (fun hb => ?_) (fun hb => ?_)) <;> conv => whnf) | ((with_reducible first | refine Run.drawX rfl (by decide +kernel) ?_ | refine Run.drawT rfl (by decide +kernel) ?_ | refine Run.drawW rfl (by decide +kernel) ?_); conv => whnf) | fail)
      · refine Run.to _ _ ?_ ?_ (IHj (j + 1) (by omega) ⟨by omega, fun k hk => ?_⟩)
        · exact ⟨Le.refl _, Le.refl _, Le.refl _, Le.int hw2, trivial⟩
        · trivial
        · by_cases hkj : k = j
          · subst hkj
            have h : (a.getD (i : Int).toNat tPc.z).texts.getD (k : Int).toNat tS.z = (b.getD (i : Int).toNat tPc.z).texts.getD (k : Int).toNat tS.z := by assumption
            exact h
          · exact hjeq k (by omega)
      · refine Run.leave (ts := [4]) (.inr ⟨_, rfl⟩) rfl Tryd.func12 rfl (Le.ff.trans (Le.bool (hneq ?_).symm))
        intro e
        have h : ¬ (a.getD (i : Int).toNat tPc.z).texts.getD (j : Int).toNat tS.z = (b.getD (i : Int).toNat tPc.z).texts.getD (j : Int).toNat tS.z := by assumption
        exact h (congrArg (fun p : Pc => p.texts.getD j tS.z) e)
      · refine Run.to _ _ ?_ ?_ (IH (i + 1) (by omega) ⟨by omega, fun k hk => ?_⟩)
        · exact ⟨Le.refl _, Le.refl _, Le.int hw1, trivial⟩
        · trivial
        · by_cases hki : k = i
          · subst hki
            have k4 : (a.getD k tPc.z).texts = (b.getD k tPc.z).texts := ext_take k3 (fun q hq => hjeq q (by omega))
            generalize a.getD k tPc.z = A at k1 k2 k4
            generalize b.getD k tPc.z = B at k1 k2 k4
            cases A; cases B
            simp only at k1 k2 k4
            rw [k1, k2, k4]
          · exact heq k (by omega)
    all_goals try (exfalso; omega)
    all_goals
      try simp only [Int.toNat_natCast] at *
      refine Run.leave (ts := [4]) (.inr ⟨_, rfl⟩) rfl Tryd.func12 rfl (Le.ff.trans (Le.bool (hneq ?_).symm))
      intro e
      first
        | exact absurd (congrArg Pc.kind e) (by assumption)
        | exact absurd (congrArg Pc.n e) (by assumption)
        | exact absurd (congrArg (fun p : Pc => (p.texts.length : Int)) e) (by assumption)
  · refine Run.go ?_; (conv => whnf); repeat' (first | ((with_reducible refine Know.mk fun _ => ?_); conv => whnf) | ((with_reducible refine Need.mk ?_ ?_); exact nd; conv => whnf) | ((with_reducible first | refine Both.mk ?_ ?_ | refine Any.mk fun b hb => ?_ | refine AskB.dec (fun hb => ?_) (fun hb => ?_) | refine AskB.ndec (fun hb => ?_) (fun hb => ?_) | refine AskB.mk (fun hb => ?_) (fun hb => ?_)) <;> conv => whnf) | ((with_reducible first | refine Run.drawX rfl (by decide +kernel) ?_ | refine Run.drawT rfl (by decide +kernel) ?_ | refine Run.drawW rfl (by decide +kernel) ?_); conv => whnf) | fail)
    all_goals try (exfalso; omega)
    refine Run.leave (ts := [4]) (.inr ⟨_, rfl⟩) rfl Tryd.func12 rfl (Le.tt.trans (Le.bool (decide_eq_true ?_).symm))
    exact ext_take hl (fun k hk => heq k (by omega))
end Go.Proofs.YtkdpmkjbfkjmdaaDoor.V

namespace Go.Proofs.YtkdpmkjbfkjmdaaDoor.V
set_option linter.unusedVariables false
set_option linter.unusedSimpArgs false
open Go Go.Proofs Go.RowKit
set_option maxRecDepth 100000
set_option maxHeartbeats 1000000
theorem awake05_fn : Fn Tryd.prog 9 [] .tt := by
  have h1 : Fn Tryd.prog 10 [.str (bs [97, 123, 98, 124, 99, 125])] (tupL [tPc.L [⟨1, [bs [97]], 0⟩, ⟨3, [bs [98], bs [99]], 0⟩], .int .i64 0, .int .i64 0]) := by
    have := parse_fn [97, 123, 98, 124, 99, 125]
    unfold parseA at this
    rw [show parseT [97, 123, 98, 124, 99, 125] = ([⟨1, [bs [97]], 0⟩, ⟨3, [bs [98], bs [99]], 0⟩], 0, 0) by decide +kernel] at this
    exact this
  have h2 : Fn Tryd.prog 10 [.str (bs [97, 93])] (tupL [tPc.L [], .int .i64 1, .int .i64 50]) := by
    have := parse_fn [97, 93]
    unfold parseA at this
    rw [show parseT [97, 93] = ([], 1, 50) by decide +kernel] at this
    exact this
  refine Fn.of Tryd.f9 _ Tryd.func9 rfl (by decide) (by show 0 ≤ _; decide) tbOk 51 rfl fun S w0 gl => ?_
  refine Run.go ?_; (conv => whnf); repeat' (first | ((with_reducible refine Know.mk fun _ => ?_); conv => whnf) | ((with_reducible refine Need.mk ?_ ?_); exact nd; conv => whnf) | ((with_reducible first | refine Both.mk ?_ ?_ | refine Any.mk fun b hb => ?_ | refine AskB.dec (fun hb => ?_) (fun hb => ?_) | refine AskB.ndec (fun hb => ?_) (fun hb => ?_) | refine AskB.mk (fun hb => ?_) (fun hb => ?_)) <;> conv => whnf) | ((with_reducible first | refine Run.drawX rfl (by decide +kernel) ?_ | refine Run.drawT rfl (by decide +kernel) ?_ | refine Run.drawW rfl (by decide +kernel) ?_); conv => whnf) | fail)
  refine Run.callBX h1 rfl rfl ⟨Le.refl _, trivial⟩ rfl rfl rfl ?_
  (conv => whnf); repeat' (first | ((with_reducible refine Know.mk fun _ => ?_); conv => whnf) | ((with_reducible refine Need.mk ?_ ?_); exact nd; conv => whnf) | ((with_reducible first | refine Both.mk ?_ ?_ | refine Any.mk fun b hb => ?_ | refine AskB.dec (fun hb => ?_) (fun hb => ?_) | refine AskB.ndec (fun hb => ?_) (fun hb => ?_) | refine AskB.mk (fun hb => ?_) (fun hb => ?_)) <;> conv => whnf) | ((with_reducible first | refine Run.drawX rfl (by decide +kernel) ?_ | refine Run.drawT rfl (by decide +kernel) ?_ | refine Run.drawW rfl (by decide +kernel) ?_); conv => whnf) | fail)
  refine Run.callBX h2 rfl rfl ⟨Le.refl _, trivial⟩ rfl rfl rfl ?_
  (conv => whnf); repeat' (first | ((with_reducible refine Know.mk fun _ => ?_); conv => whnf) | ((with_reducible refine Need.mk ?_ ?_); exact nd; conv => whnf) | ((with_reducible first | refine Both.mk ?_ ?_ | refine Any.mk fun b hb => ?_ | refine AskB.dec (fun hb => ?_) (fun hb => ?_) | refine AskB.ndec (fun hb => ?_) (fun hb => ?_) | refine AskB.mk (fun hb => ?_) (fun hb => ?_)) <;> conv => whnf) | ((with_reducible first | refine Run.drawX rfl (by decide +kernel) ?_ | refine Run.drawT rfl (by decide +kernel) ?_ | refine Run.drawW rfl (by decide +kernel) ?_); conv => whnf) | fail)
  all_goals first
    | exact Run.leave (ts := [0]) (.inr ⟨_, rfl⟩) rfl Tryd.func9 rfl (Le.tt' (by decide))
    | exact absurd rfl (by assumption)
theorem markParses_fn (l : List UInt8) : Fn Tryd.prog 3 [.str (bs l)] .tt := by
  have hlen := parseT_len l
  have hsm := samePc_fn (parseT l).1 (parseT l).1 (by omega) (fun p hp => by have := hlen.2 p hp; omega)
  rw [decide_eq_true rfl] at hsm
  refine Fn.of Tryd.f3 _ Tryd.func3 rfl (by decide) (by show 1 ≤ _; decide) tbOk 36 rfl fun S w0 gl => ?_
  refine Run.go ?_; (conv => whnf); repeat' (first | ((with_reducible refine Know.mk fun _ => ?_); conv => whnf) | ((with_reducible refine Need.mk ?_ ?_); exact nd; conv => whnf) | ((with_reducible first | refine Both.mk ?_ ?_ | refine Any.mk fun b hb => ?_ | refine AskB.dec (fun hb => ?_) (fun hb => ?_) | refine AskB.ndec (fun hb => ?_) (fun hb => ?_) | refine AskB.mk (fun hb => ?_) (fun hb => ?_)) <;> conv => whnf) | ((with_reducible first | refine Run.drawX rfl (by decide +kernel) ?_ | refine Run.drawT rfl (by decide +kernel) ?_ | refine Run.drawW rfl (by decide +kernel) ?_); conv => whnf) | fail)
  refine Run.callBX awake05_fn rfl rfl trivial rfl rfl rfl ?_
  (conv => whnf); repeat' (first | ((with_reducible refine Know.mk fun _ => ?_); conv => whnf) | ((with_reducible refine Need.mk ?_ ?_); exact nd; conv => whnf) | ((with_reducible first | refine Both.mk ?_ ?_ | refine Any.mk fun b hb => ?_ | refine AskB.dec (fun hb => ?_) (fun hb => ?_) | refine AskB.ndec (fun hb => ?_) (fun hb => ?_) | refine AskB.mk (fun hb => ?_) (fun hb => ?_)) <;> conv => whnf) | ((with_reducible first | refine Run.drawX rfl (by decide +kernel) ?_ | refine Run.drawT rfl (by decide +kernel) ?_ | refine Run.drawW rfl (by decide +kernel) ?_); conv => whnf) | fail)
  refine Run.callBX (parse_fn l) rfl rfl ⟨Le.refl _, trivial⟩ rfl rfl rfl ?_
  (conv => whnf); repeat' (first | ((with_reducible refine Know.mk fun _ => ?_); conv => whnf) | ((with_reducible refine Need.mk ?_ ?_); exact nd; conv => whnf) | ((with_reducible first | refine Both.mk ?_ ?_ | refine Any.mk fun b hb => ?_ | refine AskB.dec (fun hb => ?_) (fun hb => ?_) | refine AskB.ndec (fun hb => ?_) (fun hb => ?_) | refine AskB.mk (fun hb => ?_) (fun hb => ?_)) <;> conv => whnf) | ((with_reducible first | refine Run.drawX rfl (by decide +kernel) ?_ | refine Run.drawT rfl (by decide +kernel) ?_ | refine Run.drawW rfl (by decide +kernel) ?_); conv => whnf) | fail)
  refine Run.callBX (rparse_fn l) rfl rfl ⟨Le.refl _, trivial⟩ rfl rfl rfl ?_
  (conv => whnf); repeat' (first | ((with_reducible refine Know.mk fun _ => ?_); conv => whnf) | ((with_reducible refine Need.mk ?_ ?_); exact nd; conv => whnf) | ((with_reducible first | refine Both.mk ?_ ?_ | refine Any.mk fun b hb => ?_ | refine AskB.dec (fun hb => ?_) (fun hb => ?_) | refine AskB.ndec (fun hb => ?_) (fun hb => ?_) | refine AskB.mk (fun hb => ?_) (fun hb => ?_)) <;> conv => whnf) | ((with_reducible first | refine Run.drawX rfl (by decide +kernel) ?_ | refine Run.drawT rfl (by decide +kernel) ?_ | refine Run.drawW rfl (by decide +kernel) ?_); conv => whnf) | fail)
  all_goals try (exact absurd rfl (by assumption))
  refine Run.callBX hsm rfl rfl ⟨Le.refl _, Le.refl _, trivial⟩ rfl rfl rfl ?_
  (conv => whnf); repeat' (first | ((with_reducible refine Know.mk fun _ => ?_); conv => whnf) | ((with_reducible refine Need.mk ?_ ?_); exact nd; conv => whnf) | ((with_reducible first | refine Both.mk ?_ ?_ | refine Any.mk fun b hb => ?_ | refine AskB.dec (fun hb => ?_) (fun hb => ?_) | refine AskB.ndec (fun hb => ?_) (fun hb => ?_) | refine AskB.mk (fun hb => ?_) (fun hb => ?_)) <;> conv => whnf) | ((with_reducible first | refine Run.drawX rfl (by decide +kernel) ?_ | refine Run.drawT rfl (by decide +kernel) ?_ | refine Run.drawW rfl (by decide +kernel) ?_); conv => whnf) | fail)
  exact Run.leave (ts := [2]) (.inr ⟨_, rfl⟩) rfl Tryd.func3 rfl (Le.tt' rfl)
end Go.Proofs.YtkdpmkjbfkjmdaaDoor.V

namespace Go.Proofs.YtkdpmkjbfkjmdaaDoor.V
set_option linter.unusedVariables false
set_option linter.unusedSimpArgs false
open Go Go.Proofs Go.RowKit
set_option maxRecDepth 100000
set_option maxHeartbeats 1000000
theorem escL_take (l : List UInt8) (i : Nat) (h : i < l.length) : escL (l.take (i + 1)) = escL (l.take i) ++ esc1 (l.getD i 0) := by
  rw [take_at l i 0 h, escL_app]
  congr 1
  rw [escL_cons]; simp [escL]
theorem escape_fn (l : List UInt8) (hl : l.length ≤ 2000000) : Fn Tryd.prog 13 [.str (bs l)] (.str (bs (escL l))) := by
  refine Fn.of Tryd.f13 _ Tryd.func13 rfl (by decide) (by show 1 ≤ _; decide) tbOk 21 rfl fun S w0 gl => ?_
  have hs := bs_size l
  refine Run.go ?_; (conv => whnf); repeat' (first | ((with_reducible refine Know.mk fun _ => ?_); conv => whnf) | ((with_reducible refine Need.mk ?_ ?_); exact nd; conv => whnf) | ((with_reducible first | refine Both.mk ?_ ?_ | refine Any.mk fun b hb => ?_ | refine AskB.dec (fun hb => ?_) (fun hb => ?_) | refine AskB.ndec (fun hb => ?_) (fun hb => ?_) | refine AskB.mk (fun hb => ?_) (fun hb => ?_)) <;> conv => whnf) | ((with_reducible first | refine Run.drawX rfl (by decide +kernel) ?_ | refine Run.drawT rfl (by decide +kernel) ?_ | refine Run.drawW rfl (by decide +kernel) ?_); conv => whnf) | fail)
  refine Run.holdBoxNil 3 1 90 5 1 (bytesG .empty) rfl rfl rfl rfl ?_
  refine Run.loop [0, 3, 6] (fun (a : Nat × AV) => [(7, .int .i64 (a.1 : Int))]) (fun a => [(3, .box 60 [a.2, .row 90]), (90, .row 5 1 (bs (escL (l.take a.1))).size (bytesG (bs (escL (l.take a.1)))))]) (fun a => a.1 ≤ l.length ∧ (a.2 = .nilp ∨ a.2 = .box 3 0)) (fun a => l.length - a.1) (0, .nilp) ⟨Nat.zero_le _, .inl rfl⟩ ⟨Le.refl _, trivial⟩ ⟨MOle.refl _, MOle.refl _, trivial⟩ ?_
  intro ⟨i, p⟩ ⟨hi, hp⟩ IH
  simp only [] at hi hp ⊢
  have hw1 : IntKind.i64.wrap ((i : Int) + 1) = ((i + 1 : Nat) : Int) := wrap64 (by omega) (by omega)
  have hsz : (bs (escL (l.take i))).size ≤ 4000000 := by
    rw [bs_size]; have := (escL_len (l.take i)).2; rw [List.length_take] at this; omega
  by_cases hil : i < l.length
  · have hci : bt (bs l) (i : Int).toNat = ((l.getD i 0).toNat : Int) := bt_at l i
    have IH := IH (i + 1, .box 3 0) (by simp only []; omega) ⟨by simp only []; omega, .inr rfl⟩
    simp only [] at IH
    rw [escL_take l i hil] at IH
    generalize escL (l.take i) = X at hsz IH ⊢
    have him := isMark_fn (l.getD i 0)
    generalize l.getD i 0 = c at hci IH him
    refine Run.go ?_; (conv => whnf); repeat' (first | ((with_reducible refine Know.mk fun _ => ?_); conv => whnf) | ((with_reducible refine Need.mk ?_ ?_); exact nd; conv => whnf) | ((with_reducible refine Both.mk ?_ ?_) <;> conv => whnf) | ((with_reducible refine Any.mk fun b hb => ?_); conv => whnf) | ((with_reducible first | refine AskB.dec (fun hb => ?_) (fun hb => ?_) | refine AskB.ndec (fun hb => ?_) (fun hb => ?_) | refine AskB.mk (fun hb => ?_) (fun hb => ?_)) <;> first | (exfalso; omega) | (conv => whnf)) | ((with_reducible first | refine Run.drawX rfl (by decide +kernel) ?_ | refine Run.drawT rfl (by decide +kernel) ?_ | refine Run.drawW rfl (by decide +kernel) ?_); conv => whnf) | fail)
    all_goals try (exfalso; omega)
    refine Run.callBX him rfl rfl ⟨Le.int hci, trivial⟩ rfl rfl rfl ?_
    (conv => whnf); repeat' (first | ((with_reducible refine Know.mk fun _ => ?_); conv => whnf) | ((with_reducible refine Need.mk ?_ ?_); exact nd; conv => whnf) | ((with_reducible first | refine Both.mk ?_ ?_ | refine Any.mk fun b hb => ?_ | refine AskB.dec (fun hb => ?_) (fun hb => ?_) | refine AskB.ndec (fun hb => ?_) (fun hb => ?_) | refine AskB.mk (fun hb => ?_) (fun hb => ?_)) <;> conv => whnf) | ((with_reducible first | refine Run.drawX rfl (by decide +kernel) ?_ | refine Run.drawT rfl (by decide +kernel) ?_ | refine Run.drawW rfl (by decide +kernel) ?_); conv => whnf) | fail)
    · have hm : isMk c = true := by assumption
      rw [show esc1 c = [92, c] from if_pos hm] at IH
      refine Run.bldr 60 5 3 90 p (bs X) (MOle.refl _) (MOle.refl _) ?_
      refine wb3 p _ 92 rfl rfl rfl rfl rfl rfl (by omega) hp ?_
      refine Run.tidy [0, 3, 4, 6, 7] [3, 90] ?_; (conv => whnf)
      refine Run.go ?_; (conv => whnf); repeat' (first | ((with_reducible refine Know.mk fun _ => ?_); conv => whnf) | ((with_reducible refine Need.mk ?_ ?_); exact nd; conv => whnf) | ((with_reducible refine Both.mk ?_ ?_) <;> conv => whnf) | ((with_reducible refine Any.mk fun b hb => ?_); conv => whnf) | ((with_reducible first | refine AskB.dec (fun hb => ?_) (fun hb => ?_) | refine AskB.ndec (fun hb => ?_) (fun hb => ?_) | refine AskB.mk (fun hb => ?_) (fun hb => ?_)) <;> first | (exfalso; omega) | (conv => whnf)) | ((with_reducible first | refine Run.drawX rfl (by decide +kernel) ?_ | refine Run.drawT rfl (by decide +kernel) ?_ | refine Run.drawW rfl (by decide +kernel) ?_); conv => whnf) | fail)
      all_goals try (exfalso; omega)
      refine Run.bldr 60 5 3 90 (.box 3 0) (bs X ++ ⟨#[92]⟩) (MOle.refl _) (MOle.refl _) ?_
      refine wb3 (.box 3 0) _ c rfl rfl rfl rfl rfl ?_ (by rw [ByteArray.size_append]; show _ + 1 + 1 ≤ _; omega) (.inr rfl) ?_
      · show AV.int .u8 (bt (bs l) (i : Int).toNat) = _
        rw [hci]
      refine Run.tidy [0, 3, 6, 7] [3, 90] ?_; (conv => whnf)
      refine Run.go ?_; (conv => whnf); repeat' (first | ((with_reducible refine Know.mk fun _ => ?_); conv => whnf) | ((with_reducible refine Need.mk ?_ ?_); exact nd; conv => whnf) | ((with_reducible first | refine Both.mk ?_ ?_ | refine Any.mk fun b hb => ?_ | refine AskB.dec (fun hb => ?_) (fun hb => ?_) | refine AskB.ndec (fun hb => ?_) (fun hb => ?_) | refine AskB.mk (fun hb => ?_) (fun hb => ?_)) <;> conv => whnf) | ((with_reducible first | refine Run.drawX rfl (by decide +kernel) ?_ | refine Run.drawT rfl (by decide +kernel) ?_ | refine Run.drawW rfl (by decide +kernel) ?_); conv => whnf) | fail)
      refine Run.to _ _ ?_ ?_ IH
      · exact ⟨Le.refl _, Le.refl _, Le.refl _, Le.int hw1, trivial⟩
      · refine ⟨MOle.refl _, ?_, trivial⟩
        rw [show X ++ [92, c] = (X ++ [92]) ++ [c] by simp, ← bs_push, ← bs_push]
        exact MOle.refl _
    · have hm : ¬ isMk c = true := by
        have : isMk c = false := by assumption
        rw [this]; decide
      rw [show esc1 c = [c] from if_neg hm] at IH
      refine Run.bldr 60 5 3 90 p (bs X) (MOle.refl _) (MOle.refl _) ?_
      refine wb3 p _ c rfl rfl rfl rfl rfl ?_ (by omega) hp ?_
      · show AV.int .u8 (bt (bs l) (i : Int).toNat) = _
        rw [hci]
      refine Run.tidy [0, 3, 6, 7] [3, 90] ?_; (conv => whnf)
      refine Run.go ?_; (conv => whnf); repeat' (first | ((with_reducible refine Know.mk fun _ => ?_); conv => whnf) | ((with_reducible refine Need.mk ?_ ?_); exact nd; conv => whnf) | ((with_reducible first | refine Both.mk ?_ ?_ | refine Any.mk fun b hb => ?_ | refine AskB.dec (fun hb => ?_) (fun hb => ?_) | refine AskB.ndec (fun hb => ?_) (fun hb => ?_) | refine AskB.mk (fun hb => ?_) (fun hb => ?_)) <;> conv => whnf) | ((with_reducible first | refine Run.drawX rfl (by decide +kernel) ?_ | refine Run.drawT rfl (by decide +kernel) ?_ | refine Run.drawW rfl (by decide +kernel) ?_); conv => whnf) | fail)
      refine Run.to _ _ ?_ ?_ IH
      · exact ⟨Le.refl _, Le.refl _, Le.refl _, Le.int hw1, trivial⟩
      · refine ⟨MOle.refl _, ?_, trivial⟩
        rw [← bs_push]
        exact MOle.refl _
  · obtain rfl : i = l.length := by omega
    refine Run.go ?_; (conv => whnf); repeat' (first | ((with_reducible refine Know.mk fun _ => ?_); conv => whnf) | ((with_reducible refine Need.mk ?_ ?_); exact nd; conv => whnf) | ((with_reducible first | refine Both.mk ?_ ?_ | refine Any.mk fun b hb => ?_ | refine AskB.dec (fun hb => ?_) (fun hb => ?_) | refine AskB.ndec (fun hb => ?_) (fun hb => ?_) | refine AskB.mk (fun hb => ?_) (fun hb => ?_)) <;> conv => whnf) | ((with_reducible first | refine Run.drawX rfl (by decide +kernel) ?_ | refine Run.drawT rfl (by decide +kernel) ?_ | refine Run.drawW rfl (by decide +kernel) ?_); conv => whnf) | fail)
    all_goals try (exfalso; omega)
    refine Run.bldr 60 5 3 90 p (bs (escL (l.take l.length))) (MOle.refl _) (MOle.refl _) ?_
    refine bs3 p _ rfl rfl rfl rfl rfl ?_
    refine Run.go ?_; (conv => whnf); repeat' (first | ((with_reducible refine Know.mk fun _ => ?_); conv => whnf) | ((with_reducible refine Need.mk ?_ ?_); exact nd; conv => whnf) | ((with_reducible first | refine Both.mk ?_ ?_ | refine Any.mk fun b hb => ?_ | refine AskB.dec (fun hb => ?_) (fun hb => ?_) | refine AskB.ndec (fun hb => ?_) (fun hb => ?_) | refine AskB.mk (fun hb => ?_) (fun hb => ?_)) <;> conv => whnf) | ((with_reducible first | refine Run.drawX rfl (by decide +kernel) ?_ | refine Run.drawT rfl (by decide +kernel) ?_ | refine Run.drawW rfl (by decide +kernel) ?_); conv => whnf) | fail)
    exact Run.leave (ts := [2]) (.inr ⟨_, rfl⟩) rfl Tryd.func13 rfl (Le.str (by rw [List.take_length]))
theorem markEscapes_fn (l : List UInt8) (hl : l.length ≤ 2000000) : Fn Tryd.prog 6 [.str (bs l)] .tt := by
  have hs := bs_size l
  have hle := escL_len l
  have hse := bs_size (escL l)
  have hw : IntKind.i64.wrap (2 * ((bs l).size : Int)) = 2 * ((bs l).size : Int) := wrap64 (by omega) (by omega)
  refine Fn.of Tryd.f6 _ Tryd.func6 rfl (by decide) (by show 1 ≤ _; decide) tbOk 79 rfl fun S w0 gl => ?_
  refine Run.go ?_; (conv => whnf); repeat' (first | ((with_reducible refine Know.mk fun _ => ?_); conv => whnf) | ((with_reducible refine Need.mk ?_ ?_); exact nd; conv => whnf) | ((with_reducible first | refine Both.mk ?_ ?_ | refine Any.mk fun b hb => ?_ | refine AskB.dec (fun hb => ?_) (fun hb => ?_) | refine AskB.ndec (fun hb => ?_) (fun hb => ?_) | refine AskB.mk (fun hb => ?_) (fun hb => ?_)) <;> conv => whnf) | ((with_reducible first | refine Run.drawX rfl (by decide +kernel) ?_ | refine Run.drawT rfl (by decide +kernel) ?_ | refine Run.drawW rfl (by decide +kernel) ?_); conv => whnf) | fail)
  refine Run.callBX awake05_fn rfl rfl trivial rfl rfl rfl ?_
  (conv => whnf); repeat' (first | ((with_reducible refine Know.mk fun _ => ?_); conv => whnf) | ((with_reducible refine Need.mk ?_ ?_); exact nd; conv => whnf) | ((with_reducible first | refine Both.mk ?_ ?_ | refine Any.mk fun b hb => ?_ | refine AskB.dec (fun hb => ?_) (fun hb => ?_) | refine AskB.ndec (fun hb => ?_) (fun hb => ?_) | refine AskB.mk (fun hb => ?_) (fun hb => ?_)) <;> conv => whnf) | ((with_reducible first | refine Run.drawX rfl (by decide +kernel) ?_ | refine Run.drawT rfl (by decide +kernel) ?_ | refine Run.drawW rfl (by decide +kernel) ?_); conv => whnf) | fail)
  refine Run.callBX (escape_fn l hl) rfl rfl ⟨Le.refl _, trivial⟩ rfl rfl rfl ?_
  (conv => whnf); repeat' (first | ((with_reducible refine Know.mk fun _ => ?_); conv => whnf) | ((with_reducible refine Need.mk ?_ ?_); exact nd; conv => whnf) | ((with_reducible first | refine Both.mk ?_ ?_ | refine Any.mk fun b hb => ?_ | refine AskB.dec (fun hb => ?_) (fun hb => ?_) | refine AskB.ndec (fun hb => ?_) (fun hb => ?_) | refine AskB.mk (fun hb => ?_) (fun hb => ?_)) <;> conv => whnf) | ((with_reducible first | refine Run.drawX rfl (by decide +kernel) ?_ | refine Run.drawT rfl (by decide +kernel) ?_ | refine Run.drawW rfl (by decide +kernel) ?_); conv => whnf) | fail)
  all_goals try (exfalso; omega)
  · have he : l = [] := bs_inj (b := []) (by assumption)
    subst he
    exact Run.leave (ts := [2]) (.inr ⟨_, rfl⟩) rfl Tryd.func6 rfl (Le.tt' (by decide))
  all_goals try (exact absurd (show bs l = ⟨#[]⟩ by assumption) (by assumption))
  all_goals try exact Run.leave (ts := [2]) (.inr ⟨_, rfl⟩) rfl Tryd.func6 rfl (Le.refl _)
  have hne : l ≠ [] := fun e => by
    subst e
    exact absurd rfl (show ¬ bs [] = ⟨#[]⟩ by assumption)
  have hpe := parse_fn (escL l)
  unfold parseA at hpe
  rw [show parseT (escL l) = ([⟨1, [bs l], 0⟩], 0, 0) by unfold parseT; rw [if_neg (by omega), parse_esc hne]] at hpe
  refine Run.callBX hpe rfl rfl ⟨Le.refl _, trivial⟩ rfl rfl rfl ?_
  (conv => whnf); repeat' (first | ((with_reducible refine Know.mk fun _ => ?_); conv => whnf) | ((with_reducible refine Need.mk ?_ ?_); exact nd; conv => whnf) | ((with_reducible first | refine Both.mk ?_ ?_ | refine Any.mk fun b hb => ?_ | refine AskB.dec (fun hb => ?_) (fun hb => ?_) | refine AskB.ndec (fun hb => ?_) (fun hb => ?_) | refine AskB.mk (fun hb => ?_) (fun hb => ?_)) <;> conv => whnf) | ((with_reducible first | refine Run.drawX rfl (by decide +kernel) ?_ | refine Run.drawT rfl (by decide +kernel) ?_ | refine Run.drawW rfl (by decide +kernel) ?_); conv => whnf) | fail)
  all_goals first
    | exact absurd rfl (by assumption)
    | exact Run.leave (ts := [2]) (.inr ⟨_, rfl⟩) rfl Tryd.func6 rfl (Le.tt' (decide_eq_true rfl))
end Go.Proofs.YtkdpmkjbfkjmdaaDoor.V

namespace Go.Proofs.YtkdpmkjbfkjmdaaDoor.V
set_option linter.unusedVariables false
set_option linter.unusedSimpArgs false
open Go Go.Proofs Go.RowKit
theorem cont_badof : ∀ (t : List UInt8) (d : UInt8) (v : List UInt8), ¬ isMk d = true → cont (escL t ++ 92 :: d :: v) = .bad (v.length + 1)
  | [], d, v, h => cont_bad v h
  | c :: t, d, v, h => by
    rw [escL_cons, List.append_assoc]
    unfold esc1
    by_cases hc : isMk c = true
    · rw [if_pos hc]
      show cont (92 :: c :: (escL t ++ 92 :: d :: v)) = _
      rw [cont_esc _ hc, cont_badof t d v h]; rfl
    · rw [if_neg hc]
      show cont (c :: (escL t ++ 92 :: d :: v)) = _
      rw [cont_plain _ hc, cont_badof t d v h]; rfl
theorem cont_badinv : ∀ (n : Nat) (l : List UInt8), l.length ≤ n → ∀ {k}, cont l = .bad (k + 1) → ∃ t d v, l = escL t ++ 92 :: d :: v ∧ ¬ isMk d = true ∧ k = v.length
  | n, [], _, k, h => by cases h
  | 0, c :: l, hn, _, _ => absurd hn (by simp)
  | n + 1, c :: l, hn, k, h => by
    have hpush : ∀ (x : CR) (d : UInt8), x.push d = .bad (k + 1) → x = .bad (k + 1) := by
      intro x d hx
      cases x with
      | bad k => cases hx; rfl
      | ok t' r' => cases hx
    simp only [List.length_cons] at hn
    by_cases h2 : isMk c = true
    · by_cases h1 : c = 92
      · subst h1
        cases l with
        | nil => rw [cont_end] at h; cases h
        | cons d l =>
          simp only [List.length_cons] at hn
          by_cases hd : isMk d = true
          · rw [cont_esc l hd] at h
            obtain ⟨t, d', v, e1, e2, e3⟩ := cont_badinv n l (by omega) (hpush _ _ h)
            refine ⟨d :: t, d', v, ?_, e2, e3⟩
            rw [escL_cons, show esc1 d = [92, d] from if_pos hd, e1]; simp
          · rw [cont_bad l hd] at h
            injection h with h
            exact ⟨[], d, l, rfl, hd, by omega⟩
      · rw [cont_stop l h1 h2] at h; cases h
    · rw [cont_plain l h2] at h
      obtain ⟨t, d', v, e1, e2, e3⟩ := cont_badinv n l (by omega) (hpush _ _ h)
      refine ⟨c :: t, d', v, ?_, e2, e3⟩
      rw [escL_cons, show esc1 c = [c] from if_neg h2, e1]; simp
/-- The fault hangs on what stands up to it. -/
def Flt (X : List UInt8 → PR) (l : List UInt8) (k : Nat) : Prop := ∃ u d v, l = u ++ d :: v ∧ k = v.length ∧ ∀ v', X (u ++ d :: v') = .bad (v'.length + 1)
theorem Flt.cont {X : List UInt8 → PR} {l : List UInt8} {k : Nat} (hX : ∀ r k, V.cont r = .bad k → X r = .bad k) (h : V.cont l = .bad (k + 1)) : Flt X l k := by
  obtain ⟨t, d, v, e1, e2, e3⟩ := cont_badinv _ l (Nat.le_refl _) h
  refine ⟨escL t ++ [92], d, v, by rw [e1]; simp, e3, fun v' => ?_⟩
  rw [show escL t ++ [92] ++ d :: v' = escL t ++ 92 :: d :: v' by simp]
  exact hX _ _ (cont_badof t d v' e2)
theorem wantR_flt {c : UInt8} {p : Pc} {r : List UInt8} {k : Nat} (h : wantR c p r = .bad (k + 1)) : ∃ d v, r = d :: v ∧ k = v.length ∧ ∀ v', wantR c p (d :: v') = .bad (v'.length + 1) := by
  cases r with
  | nil => cases h
  | cons d v =>
    have h' : (if d = c then PR.ok p v else .bad (v.length + 1)) = .bad (k + 1) := h
    by_cases hd : d = c
    · rw [if_pos hd] at h'; cases h'
    · rw [if_neg hd] at h'
      injection h' with h'
      exact ⟨d, v, rfl, by omega, fun v' => if_neg hd⟩
theorem fixEnd_flt {ts : List ByteArray} {r : List UInt8} {k : Nat} (h : fixEnd ts r = .bad (k + 1)) : ∃ d v, r = d :: v ∧ k = v.length ∧ ∀ v', fixEnd ts (d :: v') = .bad (v'.length + 1) := by
  unfold fixEnd at h ⊢
  by_cases h2 : ts.length < 2
  · rw [if_pos h2] at h
    injection h with h
    cases r with
    | nil => simp at h
    | cons d v => exact ⟨d, v, rfl, by simp at h; omega, fun v' => by rw [if_pos h2]; rfl⟩
  · rw [if_neg h2] at h
    obtain ⟨d, v, e1, e2, e3⟩ := wantR_flt h
    exact ⟨d, v, e1, e2, fun v' => by rw [if_neg h2]; exact e3 v'⟩
theorem gapR_flt {r : List UInt8} {k : Nat} (h : gapR r = .bad (k + 1)) : Flt gapR r k := by
  have hdig : ∀ c : UInt8, dig c = true ∧ c ≠ 48 → c.toNat - 48 ≠ 0 := fun c hc => by
    have := (dig_iff c).mp hc.1
    have := (ne48 c).mp hc.2
    omega
  unfold gapR at h
  match r with
  | [] => cases h
  | [x] =>
    rw [gapN1] at h
    by_cases hx : dig x = true ∧ x ≠ 48
    · rw [if_pos hx] at h
      simp only [] at h
      rw [if_neg (hdig x hx)] at h; cases h
    · rw [if_neg hx] at h
      simp only [if_true] at h
      injection h with h
      refine ⟨[], x, [], rfl, by simpa using h.symm, fun v' => ?_⟩
      show gapR (x :: v') = _
      unfold gapR
      cases v' with
      | nil => rw [gapN1, if_neg hx]; rfl
      | cons y v' => rw [gapN2, if_neg hx]; rfl
  | x :: y :: r =>
    rw [gapN2] at h
    by_cases hx : dig x = true ∧ x ≠ 48
    · rw [if_pos hx] at h
      have h1 := hdig x hx
      by_cases hy : dig y = true
      · rw [if_pos hy] at h
        simp only [] at h
        have h2 : 10 * (x.toNat - 48) + (y.toNat - 48) ≠ 0 := by omega
        rw [if_neg h2] at h
        obtain ⟨d, v, rfl, e2, e3⟩ := wantR_flt h
        refine ⟨[x, y], d, v, rfl, e2, fun v' => ?_⟩
        show gapR (x :: y :: d :: v') = _
        unfold gapR
        rw [gapN2, if_pos hx, if_pos hy]
        simp only []
        rw [if_neg h2]
        exact e3 v'
      · rw [if_neg hy] at h
        simp only [] at h
        rw [if_neg h1] at h
        obtain ⟨d, v, e1, e2, e3⟩ := wantR_flt h
        injection e1 with e4 e5
        subst e4; subst e5
        refine ⟨[x], y, r, rfl, e2, fun v' => ?_⟩
        show gapR (x :: y :: v') = _
        unfold gapR
        rw [gapN2, if_pos hx, if_neg hy]
        simp only []
        rw [if_neg h1]
        exact e3 v'
    · rw [if_neg hx] at h
      simp only [if_true] at h
      injection h with h
      refine ⟨[], x, y :: r, rfl, by simp at h ⊢; omega, fun v' => ?_⟩
      show gapR (x :: v') = _
      unfold gapR
      cases v' with
      | nil => rw [gapN1, if_neg hx]; rfl
      | cons z v' => rw [gapN2, if_neg hx]; rfl
theorem dimR_flt {r : List UInt8} {k : Nat} (h : dimR r = .bad (k + 1)) : Flt dimR r k := by
  cases hc : cont r with
  | bad j =>
    have : j = k + 1 := by unfold dimR at h; rw [hc] at h; injection h
    subst this
    exact Flt.cont (fun r k h => by unfold dimR; rw [h]) hc
  | ok t r1 =>
    obtain ⟨e1, e2⟩ := cont_inv _ r (Nat.le_refl _) hc
    unfold dimR at h
    rw [hc] at h
    dsimp only at h
    by_cases ht : t = []
    · rw [if_pos ht] at h
      injection h with h
      subst ht
      cases r1 with
      | nil => simp at h
      | cons d v =>
        refine ⟨[], d, v, e1, by simp at h; omega, fun v' => ?_⟩
        show dimR (d :: v') = _
        unfold dimR
        rw [show cont (d :: v') = .ok [] (d :: v') from cont_of [] (d :: v') e2]
        rfl
    · rw [if_neg ht] at h
      obtain ⟨d, v, rfl, e4, e5⟩ := wantR_flt h
      refine ⟨escL t, d, v, e1, e4, fun v' => ?_⟩
      unfold dimR
      rw [cont_of t (d :: v') e2]
      dsimp only
      rw [if_neg ht]
      exact e5 v'
theorem plainR_flt {r : List UInt8} {k : Nat} (h : plainR r = .bad (k + 1)) : Flt plainR r k := by
  cases hc : cont r with
  | bad j =>
    have : j = k + 1 := by unfold plainR at h; rw [hc] at h; injection h
    subst this
    exact Flt.cont (fun r k h => by unfold plainR; rw [h]) hc
  | ok t r1 =>
    obtain ⟨e1, e2⟩ := cont_inv _ r (Nat.le_refl _) hc
    unfold plainR at h
    rw [hc] at h
    dsimp only at h
    by_cases ht : t = []
    · rw [if_pos ht] at h
      injection h with h
      subst ht
      cases r1 with
      | nil => simp at h
      | cons d v =>
        refine ⟨[], d, v, e1, by simp at h; omega, fun v' => ?_⟩
        show plainR (d :: v') = _
        unfold plainR
        rw [show cont (d :: v') = .ok [] (d :: v') from cont_of [] (d :: v') e2]
        rfl
    · rw [if_neg ht] at h; cases h
theorem fixR_flt : ∀ (f : Nat) (ts : List ByteArray) (r : List UInt8) {k : Nat}, fixR f ts r = .bad (k + 1) → Flt (fixR f ts) r k
  | f, ts, r, k, h => by
    cases hc : cont r with
    | bad j =>
      have : j = k + 1 := by rw [fixR_eq, hc] at h; injection h
      subst this
      exact Flt.cont (fun r k h => by rw [fixR_eq, h]) hc
    | ok t r1 =>
      obtain ⟨e1, e2⟩ := cont_inv _ r (Nat.le_refl _) hc
      rw [fixR_eq, hc] at h
      match f, r1, h, e1, e2 with
      | f, [], h, e1, e2 =>
        exfalso
        have : fixA f (ts ++ [bs t]) [] = fixEnd (ts ++ [bs t]) [] := by cases f <;> rfl
        simp only [] at h
        rw [this, fixEnd_nil] at h
        injection h with h
        omega
      | 0, c :: r2, h, e1, e2 =>
        have h : fixEnd (ts ++ [bs t]) (c :: r2) = .bad (k + 1) := h
        obtain ⟨d, v, e3, e4, e5⟩ := fixEnd_flt h
        injection e3 with e6 e7
        subst e6; subst e7
        refine ⟨escL t, c, r2, e1, e4, fun v' => ?_⟩
        rw [fixR_eq, cont_of t (c :: v') e2]
        exact e5 v'
      | f + 1, c :: r2, h, e1, e2 =>
        have h' : (if c = 124 then fixR f (ts ++ [bs t]) r2 else fixEnd (ts ++ [bs t]) (c :: r2)) = .bad (k + 1) := h
        have hA : ∀ v', fixA (f + 1) (ts ++ [bs t]) (c :: v') = if c = 124 then fixR f (ts ++ [bs t]) v' else fixEnd (ts ++ [bs t]) (c :: v') := fun _ => by simp [fixA]
        by_cases hcc : c = 124
        · rw [if_pos hcc] at h'
          obtain ⟨u, d, v, e3, e4, e5⟩ := fixR_flt f _ r2 h'
          refine ⟨escL t ++ c :: u, d, v, by rw [e1, e3]; simp, e4, fun v' => ?_⟩
          rw [show escL t ++ c :: u ++ d :: v' = escL t ++ c :: (u ++ d :: v') by simp, fixR_eq, cont_of t (c :: (u ++ d :: v')) e2]
          show fixA (f + 1) (ts ++ [bs t]) (c :: (u ++ d :: v')) = _
          rw [hA, if_pos hcc]
          exact e5 v'
        · rw [if_neg hcc] at h'
          obtain ⟨d, v, e3, e4, e5⟩ := fixEnd_flt h'
          injection e3 with e6 e7
          subst e6; subst e7
          refine ⟨escL t, c, r2, e1, e4, fun v' => ?_⟩
          rw [fixR_eq, cont_of t (c :: v') e2]
          show fixA (f + 1) (ts ++ [bs t]) (c :: v') = _
          rw [hA, if_neg hcc]
          exact e5 v'
theorem pieceR_flt {l : List UInt8} {k : Nat} (h : pieceR l = .bad (k + 1)) : Flt pieceR l k := by
  cases l with
  | nil => cases h
  | cons c s =>
    rw [pieceR_cons] at h
    have lift : ∀ (X : List UInt8 → PR), (∀ s, pieceR (c :: s) = X s) → X s = .bad (k + 1) → Flt X s k → Flt pieceR (c :: s) k := by
      intro X hX h ⟨u, d, v, e1, e2, e3⟩
      exact ⟨c :: u, d, v, by rw [e1]; rfl, e2, fun v' => by show pieceR (c :: (u ++ d :: v')) = _; rw [hX, e3]⟩
    by_cases h1 : c = 91
    · rw [if_pos h1] at h
      exact lift gapR (fun s => by rw [pieceR_cons, if_pos h1]) h (gapR_flt h)
    rw [if_neg h1] at h
    by_cases h2 : c = 60
    · rw [if_pos h2] at h
      exact lift dimR (fun s => by rw [pieceR_cons, if_neg h1, if_pos h2]) h (dimR_flt h)
    rw [if_neg h2] at h
    by_cases h3 : c = 123
    · rw [if_pos h3] at h
      exact lift (fixR 3 []) (fun s => by rw [pieceR_cons, if_neg h1, if_neg h2, if_pos h3]) h (fixR_flt 3 [] s h)
    rw [if_neg h3] at h
    obtain ⟨u, d, v, e1, e2, e3⟩ := plainR_flt h
    refine ⟨u, d, v, e1, e2, fun v' => ?_⟩
    rw [← e3 v']
    cases u with
    | nil =>
      injection e1 with e4 e5
      subst e4
      show pieceR (c :: v') = plainR (c :: v')
      rw [pieceR_cons, if_neg h1, if_neg h2, if_neg h3]
    | cons a u =>
      injection e1 with e4 e5
      subst e4
      show pieceR (c :: (u ++ d :: v')) = plainR (c :: (u ++ d :: v'))
      rw [pieceR_cons, if_neg h1, if_neg h2, if_neg h3]
theorem parse_flt : ∀ (n : Nat) (l : List UInt8), l.length ≤ n → ∀ {k : Nat}, parseL l = .bad (k + 1) → ∃ u d v, l = u ++ d :: v ∧ k = v.length ∧ ∀ v', parseL (u ++ d :: v') = .bad (v'.length + 1)
  | n, [], _, k, h => by cases h
  | 0, c :: l, hn, _, _ => absurd hn (by simp)
  | n + 1, c :: l, hn, k, h => by
    cases hp : pieceR (c :: l) with
    | bad j =>
      rw [parseL_bad (by simp) hp] at h
      injection h with h
      subst h
      obtain ⟨u, d, v, e1, e2, e3⟩ := pieceR_flt hp
      exact ⟨u, d, v, e1, e2, fun v' => parseL_bad (by simp) (e3 v')⟩
    | ok p r =>
      have hlt := (pieceR_le (c :: l)).2 hp
      rw [parseL_ok (by simp) hp] at h
      have hr : parseL r = .bad (k + 1) := by
        cases hr : parseL r with
        | bad j => rw [hr] at h; exact h
        | ok qs => rw [hr] at h; cases h
      obtain ⟨u, d, v, e1, e2, e3⟩ := parse_flt n r (by omega) hr
      obtain ⟨f1, f2, f3, f4⟩ := pieceR_inv hp
      refine ⟨pcL p ++ u, d, v, by rw [f1, e1]; simp, e2, fun v' => ?_⟩
      have hs : p.kind = 1 → stopB (u ++ d :: v') = true := fun hk => by
        have := f3 hk
        rw [e1] at this
        cases u with
        | nil => exact this
        | cons a u => exact this
      have hpo := (pieceR_of p (u ++ d :: v') f2 hs).1
      rw [List.append_assoc, parseL_ok (by simp) hpo, e3]; rfl
end Go.Proofs.YtkdpmkjbfkjmdaaDoor.V

namespace Go.Proofs.YtkdpmkjbfkjmdaaDoor.V
set_option linter.unusedVariables false
set_option linter.unusedSimpArgs false
open Go Go.Proofs Go.RowKit
set_option maxRecDepth 100000
set_option maxHeartbeats 1000000
theorem parseA_is {l : List UInt8} {ps : List Pc} {n : Nat} {e : Int} (h : parseT l = (ps, n, e)) : Fn Tryd.prog 10 [.str (bs l)] (tupL [tPc.L ps, .int .i64 (n : Int), .int .i64 e]) := by
  have := parse_fn l
  unfold parseA at this
  rwa [h] at this
/-- Where a text has a fault that a byte makes: what stands behind plays no part. -/
theorem fault_law {l : List UInt8} {n : Nat} (h : parseT l = ([], n, 50)) (hn : n < l.length) : ∃ u d v, l = u ++ d :: v ∧ u.length = n ∧ ∀ v', v'.length + n + 1 ≤ 65536 → parseT (u ++ d :: v') = ([], n, 50) := by
  unfold parseT at h
  by_cases hl : 65536 < l.length
  · rw [if_pos hl] at h
    injection h with h1 h2
    injection h2 with h2 h3
    exact absurd h3 (by decide)
  · rw [if_neg hl] at h
    cases hp : parseL l with
    | ok ps => rw [hp] at h; injection h with h1 h2; injection h2 with h2 h3; exact absurd h3 (by decide)
    | bad k =>
      rw [hp] at h
      injection h with h1 h2
      injection h2 with h2 h3
      obtain ⟨k, rfl⟩ : ∃ j, k = j + 1 := ⟨k - 1, by omega⟩
      obtain ⟨u, d, v, e1, e2, e3⟩ := parse_flt _ l (Nat.le_refl _) hp
      have hlen : l.length = u.length + (v.length + 1) := by rw [e1]; simp
      refine ⟨u, d, v, e1, by omega, fun v' hv => ?_⟩
      unfold parseT
      have hlen' : (u ++ d :: v').length = u.length + (v'.length + 1) := by simp
      rw [if_neg (by omega), e3]
      show ([], (u ++ d :: v').length - (v'.length + 1), (50 : Int)) = _
      rw [show (u ++ d :: v').length - (v'.length + 1) = n by omega]
theorem bs_app (a b : List UInt8) : bs a ++ bs b = bs (a ++ b) := by
  apply ByteArray.ext
  apply Array.ext'
  simp [bs]
theorem markFaults_fn (l t : List UInt8) (hl : l.length ≤ 2000000) (ht : t.length ≤ 2000000) : Fn Tryd.prog 4 [.str (bs l), .str (bs t)] .tt := by
  have hs := bs_size l
  have hs2 := bs_size t
  obtain ⟨ps, n, e, hT⟩ : ∃ ps n e, parseT l = (ps, n, e) := ⟨_, _, _, rfl⟩
  have hpf := parseA_is hT
  have hcase : e ≠ 50 ∨ (e = 50 ∧ ps = [] ∧ n ≤ l.length) := by
    unfold parseT at hT
    split at hT
    · injection hT with h1 h2; injection h2 with h2 h3; left; rw [← h3]; decide
    · split at hT
      · injection hT with h1 h2; injection h2 with h2 h3
        right; exact ⟨h3.symm, h1.symm, by omega⟩
      · injection hT with h1 h2; injection h2 with h2 h3; left; rw [← h3]; decide
  by_cases he : e = 50
  · obtain ⟨_, rfl, hnl⟩ := hcase.resolve_left (fun h => h he)
    subst he
    by_cases hn : n < l.length
    · obtain ⟨u, d, v, e1, e2, e3⟩ := fault_law hT hn
      have hw1 : IntKind.i64.wrap (65536 - (n : Int)) = 65536 - (n : Int) := wrap64 (by omega) (by omega)
      have hw2 : IntKind.i64.wrap (65536 - (n : Int) - 1) = 65536 - (n : Int) - 1 := wrap64 (by omega) (by omega)
      have hw3 : IntKind.i64.wrap ((n : Int) + 1) = ((n + 1 : Nat) : Int) := wrap64 (by omega) (by omega)
      have hw4 : IntKind.i64.wrap (IntKind.i64.wrap (65536 - (n : Int)) - 1) = 65536 - (n : Int) - 1 := by rw [hw1, hw2]
      have hX : (bs l).extract 0 (IntKind.i64.wrap ((n : Int) + 1)).toNat = bs (u ++ [d]) := by
        rw [hw3, Int.toNat_natCast, bs_extract, List.drop_zero, e1, ← e2]
        congr 1
        rw [show u ++ d :: v = (u ++ [d]) ++ v by simp, show u.length + 1 - 0 = (u ++ [d]).length by simp, List.take_left]
      have hXs : ((bs l).extract 0 (IntKind.i64.wrap ((n : Int) + 1)).toNat).size + (bs t).size ≤ 9223372036854775807 := by
        rw [hX, bs_size, bs_size]; simp; omega
      refine Fn.of Tryd.f4 _ Tryd.func4 rfl (by decide) (by show 2 ≤ _; decide) tbOk 70 rfl fun S w0 gl => ?_
      refine Run.go ?_; (conv => whnf); repeat' (first | ((with_reducible refine Know.mk fun _ => ?_); conv => whnf) | ((with_reducible refine Need.mk ?_ ?_); exact nd; conv => whnf) | ((with_reducible first | refine Both.mk ?_ ?_ | refine Any.mk fun b hb => ?_ | refine AskB.dec (fun hb => ?_) (fun hb => ?_) | refine AskB.ndec (fun hb => ?_) (fun hb => ?_) | refine AskB.mk (fun hb => ?_) (fun hb => ?_)) <;> conv => whnf) | ((with_reducible first | refine Run.drawX rfl (by decide +kernel) ?_ | refine Run.drawT rfl (by decide +kernel) ?_ | refine Run.drawW rfl (by decide +kernel) ?_); conv => whnf) | fail)
      refine Run.callBX awake05_fn rfl rfl trivial rfl rfl rfl ?_
      (conv => whnf); repeat' (first | ((with_reducible refine Know.mk fun _ => ?_); conv => whnf) | ((with_reducible refine Need.mk ?_ ?_); exact nd; conv => whnf) | ((with_reducible first | refine Both.mk ?_ ?_ | refine Any.mk fun b hb => ?_ | refine AskB.dec (fun hb => ?_) (fun hb => ?_) | refine AskB.ndec (fun hb => ?_) (fun hb => ?_) | refine AskB.mk (fun hb => ?_) (fun hb => ?_)) <;> conv => whnf) | ((with_reducible first | refine Run.drawX rfl (by decide +kernel) ?_ | refine Run.drawT rfl (by decide +kernel) ?_ | refine Run.drawW rfl (by decide +kernel) ?_); conv => whnf) | fail)
      refine Run.callBX hpf rfl rfl ⟨Le.refl _, trivial⟩ rfl rfl rfl ?_
      (conv => whnf); repeat' (first | ((with_reducible refine Know.mk fun _ => ?_); conv => whnf) | ((with_reducible refine Need.mk ?_ ?_); exact nd; conv => whnf) | ((with_reducible first | refine Both.mk ?_ ?_ | refine Any.mk fun b hb => ?_ | refine AskB.dec (fun hb => ?_) (fun hb => ?_) | refine AskB.ndec (fun hb => ?_) (fun hb => ?_) | refine AskB.mk (fun hb => ?_) (fun hb => ?_)) <;> conv => whnf) | ((with_reducible first | refine Run.drawX rfl (by decide +kernel) ?_ | refine Run.drawT rfl (by decide +kernel) ?_ | refine Run.drawW rfl (by decide +kernel) ?_); conv => whnf) | fail)
      all_goals try (exfalso; omega)
      all_goals try exact Run.leave (ts := [4]) (.inr ⟨_, rfl⟩) rfl Tryd.func4 rfl (Le.tt' (decide_eq_true (by omega)))
      have hpt := parseA_is (e3 t (by omega))
      refine Run.callBX hpt rfl rfl ⟨Le.str ?_, trivial⟩ rfl rfl rfl ?_
      · rw [hX, bs_app]; simp
      (conv => whnf); repeat' (first | ((with_reducible refine Know.mk fun _ => ?_); conv => whnf) | ((with_reducible refine Need.mk ?_ ?_); exact nd; conv => whnf) | ((with_reducible first | refine Both.mk ?_ ?_ | refine Any.mk fun b hb => ?_ | refine AskB.dec (fun hb => ?_) (fun hb => ?_) | refine AskB.ndec (fun hb => ?_) (fun hb => ?_) | refine AskB.mk (fun hb => ?_) (fun hb => ?_)) <;> conv => whnf) | ((with_reducible first | refine Run.drawX rfl (by decide +kernel) ?_ | refine Run.drawT rfl (by decide +kernel) ?_ | refine Run.drawW rfl (by decide +kernel) ?_); conv => whnf) | fail)
      all_goals first
        | exact absurd rfl (by assumption)
        | exact Run.leave (ts := [4]) (.inr ⟨_, rfl⟩) rfl Tryd.func4 rfl (Le.refl _)
        | exact Run.leave (ts := [4]) (.inr ⟨_, rfl⟩) rfl Tryd.func4 rfl (Le.tt' (decide_eq_true rfl))
    · obtain rfl : n = l.length := by omega
      refine Fn.of Tryd.f4 _ Tryd.func4 rfl (by decide) (by show 2 ≤ _; decide) tbOk 70 rfl fun S w0 gl => ?_
      refine Run.go ?_; (conv => whnf); repeat' (first | ((with_reducible refine Know.mk fun _ => ?_); conv => whnf) | ((with_reducible refine Need.mk ?_ ?_); exact nd; conv => whnf) | ((with_reducible first | refine Both.mk ?_ ?_ | refine Any.mk fun b hb => ?_ | refine AskB.dec (fun hb => ?_) (fun hb => ?_) | refine AskB.ndec (fun hb => ?_) (fun hb => ?_) | refine AskB.mk (fun hb => ?_) (fun hb => ?_)) <;> conv => whnf) | ((with_reducible first | refine Run.drawX rfl (by decide +kernel) ?_ | refine Run.drawT rfl (by decide +kernel) ?_ | refine Run.drawW rfl (by decide +kernel) ?_); conv => whnf) | fail)
      refine Run.callBX awake05_fn rfl rfl trivial rfl rfl rfl ?_
      (conv => whnf); repeat' (first | ((with_reducible refine Know.mk fun _ => ?_); conv => whnf) | ((with_reducible refine Need.mk ?_ ?_); exact nd; conv => whnf) | ((with_reducible first | refine Both.mk ?_ ?_ | refine Any.mk fun b hb => ?_ | refine AskB.dec (fun hb => ?_) (fun hb => ?_) | refine AskB.ndec (fun hb => ?_) (fun hb => ?_) | refine AskB.mk (fun hb => ?_) (fun hb => ?_)) <;> conv => whnf) | ((with_reducible first | refine Run.drawX rfl (by decide +kernel) ?_ | refine Run.drawT rfl (by decide +kernel) ?_ | refine Run.drawW rfl (by decide +kernel) ?_); conv => whnf) | fail)
      refine Run.callBX hpf rfl rfl ⟨Le.refl _, trivial⟩ rfl rfl rfl ?_
      (conv => whnf); repeat' (first | ((with_reducible refine Know.mk fun _ => ?_); conv => whnf) | ((with_reducible refine Need.mk ?_ ?_); exact nd; conv => whnf) | ((with_reducible first | refine Both.mk ?_ ?_ | refine Any.mk fun b hb => ?_ | refine AskB.dec (fun hb => ?_) (fun hb => ?_) | refine AskB.ndec (fun hb => ?_) (fun hb => ?_) | refine AskB.mk (fun hb => ?_) (fun hb => ?_)) <;> conv => whnf) | ((with_reducible first | refine Run.drawX rfl (by decide +kernel) ?_ | refine Run.drawT rfl (by decide +kernel) ?_ | refine Run.drawW rfl (by decide +kernel) ?_); conv => whnf) | fail)
      all_goals try (exfalso; omega)
      all_goals try exact Run.leave (ts := [4]) (.inr ⟨_, rfl⟩) rfl Tryd.func4 rfl (Le.tt' (decide_eq_true (by omega)))
      all_goals try exact Run.leave (ts := [4]) (.inr ⟨_, rfl⟩) rfl Tryd.func4 rfl (Le.refl _)
  · refine Fn.of Tryd.f4 _ Tryd.func4 rfl (by decide) (by show 2 ≤ _; decide) tbOk 70 rfl fun S w0 gl => ?_
    refine Run.go ?_; (conv => whnf); repeat' (first | ((with_reducible refine Know.mk fun _ => ?_); conv => whnf) | ((with_reducible refine Need.mk ?_ ?_); exact nd; conv => whnf) | ((with_reducible first | refine Both.mk ?_ ?_ | refine Any.mk fun b hb => ?_ | refine AskB.dec (fun hb => ?_) (fun hb => ?_) | refine AskB.ndec (fun hb => ?_) (fun hb => ?_) | refine AskB.mk (fun hb => ?_) (fun hb => ?_)) <;> conv => whnf) | ((with_reducible first | refine Run.drawX rfl (by decide +kernel) ?_ | refine Run.drawT rfl (by decide +kernel) ?_ | refine Run.drawW rfl (by decide +kernel) ?_); conv => whnf) | fail)
    refine Run.callBX awake05_fn rfl rfl trivial rfl rfl rfl ?_
    (conv => whnf); repeat' (first | ((with_reducible refine Know.mk fun _ => ?_); conv => whnf) | ((with_reducible refine Need.mk ?_ ?_); exact nd; conv => whnf) | ((with_reducible first | refine Both.mk ?_ ?_ | refine Any.mk fun b hb => ?_ | refine AskB.dec (fun hb => ?_) (fun hb => ?_) | refine AskB.ndec (fun hb => ?_) (fun hb => ?_) | refine AskB.mk (fun hb => ?_) (fun hb => ?_)) <;> conv => whnf) | ((with_reducible first | refine Run.drawX rfl (by decide +kernel) ?_ | refine Run.drawT rfl (by decide +kernel) ?_ | refine Run.drawW rfl (by decide +kernel) ?_); conv => whnf) | fail)
    refine Run.callBX hpf rfl rfl ⟨Le.refl _, trivial⟩ rfl rfl rfl ?_
    (conv => whnf); repeat' (first | ((with_reducible refine Know.mk fun _ => ?_); conv => whnf) | ((with_reducible refine Need.mk ?_ ?_); exact nd; conv => whnf) | ((with_reducible first | refine Both.mk ?_ ?_ | refine Any.mk fun b hb => ?_ | refine AskB.dec (fun hb => ?_) (fun hb => ?_) | refine AskB.ndec (fun hb => ?_) (fun hb => ?_) | refine AskB.mk (fun hb => ?_) (fun hb => ?_)) <;> conv => whnf) | ((with_reducible first | refine Run.drawX rfl (by decide +kernel) ?_ | refine Run.drawT rfl (by decide +kernel) ?_ | refine Run.drawW rfl (by decide +kernel) ?_); conv => whnf) | fail)
    all_goals try (exfalso; omega)
    all_goals try exact Run.leave (ts := [4]) (.inr ⟨_, rfl⟩) rfl Tryd.func4 rfl (Le.tt' (decide_eq_true (by omega)))
    all_goals try exact Run.leave (ts := [4]) (.inr ⟨_, rfl⟩) rfl Tryd.func4 rfl (Le.refl _)
end Go.Proofs.YtkdpmkjbfkjmdaaDoor.V

