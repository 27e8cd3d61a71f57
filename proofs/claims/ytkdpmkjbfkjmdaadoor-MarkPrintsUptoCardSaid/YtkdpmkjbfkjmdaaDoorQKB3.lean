/-
The texts BKc, VS, BKd, BKe, BKf, BKg, BKh, BKi, BKj, BKk, BKl, BKp, BKw, BKq, BKx, VU, BKy, BLa, BKn, BKr, BKs, BKt, BKu, BKz, BLb, of each what the law needs.
-/
import Derived.Test.YtkdpmkjbfkjmdaaDoorQKB2
namespace Go.Proofs.YtkdpmkjbfkjmdaaDoor.V
set_option linter.unusedVariables false
set_option linter.unusedSimpArgs false
open Go Go.Proofs Go.RowKit
set_option maxRecDepth 100000
set_option maxHeartbeats 1000000
theorem wb3 {N : Nat} {w0 : World} {S : Nat → Prop} {gl : GlobOk S w0} {f : FuncId} {R : Ending → World → Prop} {kp : Kept} {ops : Array Oper} {i : Nat} {rest : List Nat} {k : List Item} {env : Env} {h : Heap} {o : Oper} {x y : Operand}
    (p : AV) (t : ByteArray) (u : UInt8) (ho : ops.toList[i]? = some o) (hc : calls? o = some (26, [x, y])) (hd : okD ⟨Tryd.prog, TB, tbOk, N, w0, S, gl, f, R, kp⟩ o.dst = true) (hr : ready env ops o = true) (hx : ev (scrubE 900 env) x = .box 3 0) (hy : ev (scrubE 900 env) y = .int .u8 (u.toNat : Int))
    (hs : t.size + 1 ≤ 34359738368) (hp : p = .nilp ∨ p = .box 3 0)
    (next : Run ⟨Tryd.prog, TB, tbOk, N, w0, S, gl, f, R, kp⟩ (.inRegion ops rest :: k) (putE (envB 90 env) o.dst .u) (bldr 60 5 3 90 (heapB 90 h) (.box 3 0) (t ++ ⟨#[u]⟩))) :
    Run ⟨Tryd.prog, TB, tbOk, N, w0, S, gl, f, R, kp⟩ (.inRegion ops (i :: rest) :: k) env (bldr 60 5 3 90 h p t) := by
  refine Run.inline 900 Tryd.f26 _ 17 ho hc Tryd.func26 rfl (by decide) rfl (by show 2 ≤ 17; decide) hd hr (fun a hsz hdf => ?_)
  simp only [List.map, hx, hy]
  have fin : ∀ (E : Env) (H : Heap) (X : AV), (∀ i, E i = scrub 14 (scrub 13 (scrub 901 (scrub 900 (env i))))) → (∀ id, Nat.beq id 3 = false → Nat.beq id 90 = false → Nat.beq id 14 = false → Nat.beq id 13 = false → Nat.beq id 901 = false → Nat.beq id 900 = false → H id = scrubM 90 (scrubM 14 (scrubM 13 (scrubM 901 (scrubM 900 (h id)))))) →
      MOle (H 3) (.box 60 [.box 3 0, .row 90]) → MOle (H 90) (.row 5 1 (t ++ ⟨#[u]⟩).size (bytesG (t ++ ⟨#[u]⟩))) → Run ⟨Tryd.prog, TB, tbOk, N, w0, S, gl, f, R, kp⟩ (.inRegion ops rest :: k) (scrubE 90 (putE E o.dst X)) H := by
    intro E H X hE hH h5 h90
    refine Run.weaken (fun i => ?_) (fun id => ?_) next
    · cases hdst : o.dst with
      | none => show Le (scrub 90 (E i)) _; rw [hE]; exact Le.refl _
      | some d =>
        show Le (scrub 90 (upd E d X i)) (upd (envB 90 env) d .u i)
        by_cases e : i = d
        · subst e; rw [upd_same, upd_same]; exact Le.u _
        · rw [upd_other _ _ e, upd_other _ _ e, hE]; exact Le.refl _
    · unfold bldr heapB
      cases e5 : Nat.beq id 3 with
      | true => have := Nat.eq_of_beq_eq_true e5; subst this; exact h5
      | false =>
      cases e90 : Nat.beq id 90 with
      | true => have := Nat.eq_of_beq_eq_true e90; subst this; exact h90
      | false =>
      cases e900 : Nat.beq id 900 with
      | true => simp only [upd, e5, e90, e900, cond_true, cond_false]; exact mole_dead _
      | false =>
      cases e901 : Nat.beq id 901 with
      | true => simp only [upd, e5, e90, e900, e901, cond_true, cond_false]; exact mole_dead _
      | false =>
      cases e13 : Nat.beq id 13 with
      | true => simp only [upd, e5, e90, e900, e901, e13, cond_true, cond_false]; exact mole_dead _
      | false =>
      cases e14 : Nat.beq id 14 with
      | true => simp only [upd, e5, e90, e900, e901, e13, e14, cond_true, cond_false]; exact mole_dead _
      | false =>
        rw [hH id e5 e90 e14 e13 e901 e900]
        simp only [upd, e5, e90, e900, e901, e13, e14, cond_true, cond_false]
        exact MOle.refl _
  rcases hp with rfl | rfl
  · refine Run.go ?_; (conv => whnf); repeat' (first | ((with_reducible refine Know.mk fun _ => ?_); conv => whnf) | ((with_reducible refine Need.mk ?_ ?_); exact nd; conv => whnf) | ((with_reducible first | refine Both.mk ?_ ?_ | refine Any.mk fun b hb => ?_ | refine AskB.dec (fun hb => ?_) (fun hb => ?_) | refine AskB.ndec (fun hb => ?_) (fun hb => ?_) | refine AskB.mk (fun hb => ?_) (fun hb => ?_)) <;> conv => whnf) | ((with_reducible first | refine Run.drawX rfl (by decide +kernel) ?_ | refine Run.drawT rfl (by decide +kernel) ?_ | refine Run.drawW rfl (by decide +kernel) ?_); conv => whnf) | fail)
    refine Run.inline 901 Tryd.f43 _ 20 rfl rfl Tryd.func43 rfl (by decide) rfl (by decide) rfl rfl (fun a2 hsz2 hdf2 => ?_)
    refine Run.go ?_; (conv => whnf); repeat' (first | ((with_reducible refine Know.mk fun _ => ?_); conv => whnf) | ((with_reducible refine Need.mk ?_ ?_); exact nd; conv => whnf) | ((with_reducible first | refine Both.mk ?_ ?_ | refine Any.mk fun b hb => ?_ | refine AskB.dec (fun hb => ?_) (fun hb => ?_) | refine AskB.ndec (fun hb => ?_) (fun hb => ?_) | refine AskB.mk (fun hb => ?_) (fun hb => ?_)) <;> conv => whnf) | ((with_reducible first | refine Run.drawX rfl (by decide +kernel) ?_ | refine Run.drawT rfl (by decide +kernel) ?_ | refine Run.drawW rfl (by decide +kernel) ?_); conv => whnf) | fail)
    refine Run.toUnsafe (id := 3) (l := [.nilp, .row 90]) (e := 60) (t := 60) (src := 57) (dst := 81) (x := .tmp 8) rfl rfl rfl rfl rfl rfl (by decide) (by kernel_rfl) (by kernel_rfl) (j := (Tryd.prog.info? 60).get (by kernel_rfl)) (by kernel_rfl) (by decide +kernel) ?_
    refine Run.noEscape (f := 50) (x := .tmp 9) rfl rfl rfl rfl Tryd.func50 (by kernel_rfl) (by kernel_rfl) (by kernel_rfl) (by kernel_rfl) ?_
    refine Run.fromUnsafe (id := 3) (l := [.nilp, .row 90]) (e := 60) (u := 60) (src := 81) (dst := 57) (x := .tmp 10) rfl rfl rfl rfl rfl rfl (by kernel_rfl) (by kernel_rfl) (j := (Tryd.prog.info? 60).get (by kernel_rfl)) (by kernel_rfl) (by kernel_rfl) ?_
    refine Run.go ?_; (conv => whnf); repeat' (first | ((with_reducible refine Know.mk fun _ => ?_); conv => whnf) | ((with_reducible refine Need.mk ?_ ?_); exact nd; conv => whnf) | ((with_reducible first | refine Both.mk ?_ ?_ | refine Any.mk fun b hb => ?_ | refine AskB.dec (fun hb => ?_) (fun hb => ?_) | refine AskB.ndec (fun hb => ?_) (fun hb => ?_) | refine AskB.mk (fun hb => ?_) (fun hb => ?_)) <;> conv => whnf) | ((with_reducible first | refine Run.drawX rfl (by decide +kernel) ?_ | refine Run.drawT rfl (by decide +kernel) ?_ | refine Run.drawW rfl (by decide +kernel) ?_); conv => whnf) | fail)
    refine Run.back 901 (ts := []) hsz2 hdf2 (.inl rfl) (by rfl) Tryd.func43 rfl ?_
    refine Run.go ?_; (conv => whnf); repeat' (first | ((with_reducible refine Know.mk fun _ => ?_); conv => whnf) | ((with_reducible refine Need.mk ?_ ?_); exact nd; conv => whnf) | ((with_reducible first | refine Both.mk ?_ ?_ | refine Any.mk fun b hb => ?_ | refine AskB.dec (fun hb => ?_) (fun hb => ?_) | refine AskB.ndec (fun hb => ?_) (fun hb => ?_) | refine AskB.mk (fun hb => ?_) (fun hb => ?_)) <;> conv => whnf) | ((with_reducible first | refine Run.drawX rfl (by decide +kernel) ?_ | refine Run.drawT rfl (by decide +kernel) ?_ | refine Run.drawW rfl (by decide +kernel) ?_); conv => whnf) | fail)
    refine Run.back 900 (ts := [4]) hsz hdf (.inr ⟨_, rfl⟩) (by rfl) Tryd.func26 rfl ?_
    refine Run.holdBoxRow 3 1 90 14 (by rfl) (by rfl) (by rfl) rfl rfl rfl ?_
    refine fin _ _ _ (fun i => rfl) (fun id e5 e90 e14 e13 e901 e900 => ?_) (MOle.refl _) (bytesG_push 5 t u _ rfl)
    simp only [upd, scrubH, scrubM, bldr, e5, e90, e14, e13, e901, e900, cond_false]
  · refine Run.go ?_; (conv => whnf); repeat' (first | ((with_reducible refine Know.mk fun _ => ?_); conv => whnf) | ((with_reducible refine Need.mk ?_ ?_); exact nd; conv => whnf) | ((with_reducible first | refine Both.mk ?_ ?_ | refine Any.mk fun b hb => ?_ | refine AskB.dec (fun hb => ?_) (fun hb => ?_) | refine AskB.ndec (fun hb => ?_) (fun hb => ?_) | refine AskB.mk (fun hb => ?_) (fun hb => ?_)) <;> conv => whnf) | ((with_reducible first | refine Run.drawX rfl (by decide +kernel) ?_ | refine Run.drawT rfl (by decide +kernel) ?_ | refine Run.drawW rfl (by decide +kernel) ?_); conv => whnf) | fail)
    refine Run.inline 901 Tryd.f43 _ 20 rfl rfl Tryd.func43 rfl (by decide) rfl (by decide) rfl rfl (fun a2 hsz2 hdf2 => ?_)
    refine Run.go ?_; (conv => whnf); repeat' (first | ((with_reducible refine Know.mk fun _ => ?_); conv => whnf) | ((with_reducible refine Need.mk ?_ ?_); exact nd; conv => whnf) | ((with_reducible first | refine Both.mk ?_ ?_ | refine Any.mk fun b hb => ?_ | refine AskB.dec (fun hb => ?_) (fun hb => ?_) | refine AskB.ndec (fun hb => ?_) (fun hb => ?_) | refine AskB.mk (fun hb => ?_) (fun hb => ?_)) <;> conv => whnf) | ((with_reducible first | refine Run.drawX rfl (by decide +kernel) ?_ | refine Run.drawT rfl (by decide +kernel) ?_ | refine Run.drawW rfl (by decide +kernel) ?_); conv => whnf) | fail)
    refine Run.back 901 (ts := []) hsz2 hdf2 (.inl rfl) (by rfl) Tryd.func43 rfl ?_
    refine Run.go ?_; (conv => whnf); repeat' (first | ((with_reducible refine Know.mk fun _ => ?_); conv => whnf) | ((with_reducible refine Need.mk ?_ ?_); exact nd; conv => whnf) | ((with_reducible first | refine Both.mk ?_ ?_ | refine Any.mk fun b hb => ?_ | refine AskB.dec (fun hb => ?_) (fun hb => ?_) | refine AskB.ndec (fun hb => ?_) (fun hb => ?_) | refine AskB.mk (fun hb => ?_) (fun hb => ?_)) <;> conv => whnf) | ((with_reducible first | refine Run.drawX rfl (by decide +kernel) ?_ | refine Run.drawT rfl (by decide +kernel) ?_ | refine Run.drawW rfl (by decide +kernel) ?_); conv => whnf) | fail)
    refine Run.back 900 (ts := [4]) hsz hdf (.inr ⟨_, rfl⟩) (by rfl) Tryd.func26 rfl ?_
    refine Run.holdBoxRow 3 1 90 14 (by rfl) (by rfl) (by rfl) rfl rfl rfl ?_
    refine fin _ _ _ (fun i => rfl) (fun id e5 e90 e14 e13 e901 e900 => ?_) (MOle.refl _) (bytesG_push 5 t u _ rfl)
    simp only [upd, scrubH, scrubM, bldr, e5, e90, e14, e13, e901, e900, cond_false]

theorem bs3 {N : Nat} {w0 : World} {S : Nat → Prop} {gl : GlobOk S w0} {f : FuncId} {R : Ending → World → Prop} {kp : Kept} {ops : Array Oper} {i : Nat} {rest : List Nat} {k : List Item} {env : Env} {h : Heap} {o : Oper} {x : Operand}
    (p : AV) (t : ByteArray) (ho : ops.toList[i]? = some o) (hc : calls? o = some (27, [x])) (hd : okD ⟨Tryd.prog, TB, tbOk, N, w0, S, gl, f, R, kp⟩ o.dst = true) (hr : ready env ops o = true) (hx : ev (scrubE 900 env) x = .box 3 0)
    (next : Run ⟨Tryd.prog, TB, tbOk, N, w0, S, gl, f, R, kp⟩ (.inRegion ops rest :: k) (putE (scrubE 900 env) o.dst (.str t)) (upd (upd (upd (scrubH 900 h) 900 .dead) 3 .dead) 90 .dead)) :
    Run ⟨Tryd.prog, TB, tbOk, N, w0, S, gl, f, R, kp⟩ (.inRegion ops (i :: rest) :: k) env (bldr 60 5 3 90 h p t) := by
  refine Run.inline 900 Tryd.f27 _ 14 ho hc Tryd.func27 rfl (by decide) rfl (by show 1 ≤ 14; decide) hd hr (fun a hsz hdf => ?_)
  simp only [List.map, hx]
  have fin : ∀ (H : Heap), (∀ id, Nat.beq id 3 = false → Nat.beq id 90 = false → Nat.beq id 900 = false → H id = scrubM 900 (h id)) →
      Run ⟨Tryd.prog, TB, tbOk, N, w0, S, gl, f, R, kp⟩ (.inRegion ops rest :: k) (putE (scrubE 900 env) o.dst (.str t)) H := by
    intro H hH
    refine Run.weaken (fun i => Le.refl _) (fun id => ?_) next
    cases e5 : Nat.beq id 3 with
    | true => simp only [upd, e5, cond_true, cond_false]; cases Nat.beq id 90 <;> exact mole_dead _
    | false =>
    cases e90 : Nat.beq id 90 with
    | true => simp only [upd, e5, e90, cond_true, cond_false]; exact mole_dead _
    | false =>
    cases e900 : Nat.beq id 900 with
    | true => simp only [upd, e5, e90, e900, cond_true, cond_false]; exact mole_dead _
    | false =>
      rw [hH id e5 e90 e900]
      simp only [upd, e5, e90, e900, cond_true, cond_false]
      exact MOle.refl _
  refine Run.go ?_; (conv => whnf); repeat' (first | ((with_reducible refine Know.mk fun _ => ?_); conv => whnf) | ((with_reducible refine Need.mk ?_ ?_); exact nd; conv => whnf) | ((with_reducible first | refine Both.mk ?_ ?_ | refine Any.mk fun b hb => ?_ | refine AskB.dec (fun hb => ?_) (fun hb => ?_) | refine AskB.ndec (fun hb => ?_) (fun hb => ?_) | refine AskB.mk (fun hb => ?_) (fun hb => ?_)) <;> conv => whnf) | ((with_reducible first | refine Run.drawX rfl (by decide +kernel) ?_ | refine Run.drawT rfl (by decide +kernel) ?_ | refine Run.drawW rfl (by decide +kernel) ?_); conv => whnf) | fail)
  · refine Run.unsafeString0 (i := 10) (rest := [11]) (k := [.code .ret]) (x := .tmp 7) (y := .tmp 12) (c := ⟨.builtin .unsafeString, #[.tmp 7, .tmp 12], #[77, 3]⟩) rfl rfl rfl rfl rfl rfl rfl (.inl rfl) (by show AV.int .i64 (t.size : Int) = _; rw [hb]; rfl) ?_
    have ht : t = .empty := by simpa using hb
    refine Run.go ?_; (conv => whnf); repeat' (first | ((with_reducible refine Know.mk fun _ => ?_); conv => whnf) | ((with_reducible refine Need.mk ?_ ?_); exact nd; conv => whnf) | ((with_reducible first | refine Both.mk ?_ ?_ | refine Any.mk fun b hb => ?_ | refine AskB.dec (fun hb => ?_) (fun hb => ?_) | refine AskB.ndec (fun hb => ?_) (fun hb => ?_) | refine AskB.mk (fun hb => ?_) (fun hb => ?_)) <;> conv => whnf) | ((with_reducible first | refine Run.drawX rfl (by decide +kernel) ?_ | refine Run.drawT rfl (by decide +kernel) ?_ | refine Run.drawW rfl (by decide +kernel) ?_); conv => whnf) | fail)
    refine Run.back 900 (ts := [2]) hsz hdf (.inr ⟨_, rfl⟩) (by rfl) Tryd.func27 rfl ?_
    rw [ht] at fin next ⊢
    exact fin _ (fun id e5 e90 e900 => by simp only [upd, scrubH, bldr, e5, e90, e900, cond_false])
  · refine Run.unsafeString (i := 10) (rest := [11]) (k := [.code .ret]) (x := .tmp 7) (y := .tmp 12) (c := ⟨.builtin .unsafeString, #[.tmp 7, .tmp 12], #[77, 3]⟩) t rfl rfl rfl rfl rfl rfl rfl rfl rfl (e := 5) (n := t.size) (q := 90) (get := bytesG t) rfl rfl hb (fun _ _ => rfl) (by kernel_rfl) (by kernel_rfl) ?_
    refine Run.go ?_; (conv => whnf); repeat' (first | ((with_reducible refine Know.mk fun _ => ?_); conv => whnf) | ((with_reducible refine Need.mk ?_ ?_); exact nd; conv => whnf) | ((with_reducible first | refine Both.mk ?_ ?_ | refine Any.mk fun b hb => ?_ | refine AskB.dec (fun hb => ?_) (fun hb => ?_) | refine AskB.ndec (fun hb => ?_) (fun hb => ?_) | refine AskB.mk (fun hb => ?_) (fun hb => ?_)) <;> conv => whnf) | ((with_reducible first | refine Run.drawX rfl (by decide +kernel) ?_ | refine Run.drawT rfl (by decide +kernel) ?_ | refine Run.drawW rfl (by decide +kernel) ?_); conv => whnf) | fail)
    refine Run.back 900 (ts := [2]) hsz hdf (.inr ⟨_, rfl⟩) (by rfl) Tryd.func27 rfl ?_
    exact fin _ (fun id e5 e90 e900 => by simp only [upd, scrubH, bldr, e5, e90, e900, cond_false])
theorem isMark_fn (c : UInt8) : Fn Tryd.prog 25 [.int .u8 (c.toNat : Int)] (.bool (isMk c)) := by
  refine Fn.of Tryd.f25 _ Tryd.func25 rfl (by decide) (by show 1 ≤ _; decide) tbOk 6 rfl fun S w0 gl => ?_
  refine Run.go ?_; (conv => whnf); repeat' (first | ((with_reducible refine Know.mk fun _ => ?_); conv => whnf) | ((with_reducible refine Need.mk ?_ ?_); exact nd; conv => whnf) | ((with_reducible first | refine Both.mk ?_ ?_ | refine Any.mk fun b hb => ?_ | refine AskB.dec (fun hb => ?_) (fun hb => ?_) | refine AskB.ndec (fun hb => ?_) (fun hb => ?_) | refine AskB.mk (fun hb => ?_) (fun hb => ?_)) <;> conv => whnf) | ((with_reducible first | refine Run.drawX rfl (by decide +kernel) ?_ | refine Run.drawT rfl (by decide +kernel) ?_ | refine Run.drawW rfl (by decide +kernel) ?_); conv => whnf) | fail)
  refine Run.callBX (ib47_fn marksL _) rfl rfl ⟨Le.refl _, Le.refl _, trivial⟩ rfl rfl rfl ?_
  (conv => whnf); repeat' (first | ((with_reducible refine Know.mk fun _ => ?_); conv => whnf) | ((with_reducible refine Need.mk ?_ ?_); exact nd; conv => whnf) | ((with_reducible first | refine Both.mk ?_ ?_ | refine Any.mk fun b hb => ?_ | refine AskB.dec (fun hb => ?_) (fun hb => ?_) | refine AskB.ndec (fun hb => ?_) (fun hb => ?_) | refine AskB.mk (fun hb => ?_) (fun hb => ?_)) <;> conv => whnf) | ((with_reducible first | refine Run.drawX rfl (by decide +kernel) ?_ | refine Run.drawT rfl (by decide +kernel) ?_ | refine Run.drawW rfl (by decide +kernel) ?_); conv => whnf) | fail)
  refine Run.leave (ts := [2]) (.inr ⟨_, rfl⟩) rfl Tryd.func25 rfl (Le.bool ?_)
  rw [← isMk_ge, Int.toNat_natCast, Nat.toUInt8, u8_ofNat]
def CR.n (l : List UInt8) : CR → Nat
  | .bad k => l.length - k
  | .ok t r => l.length - r.length
def CR.res (l : List UInt8) : CR → Res
  | .bad k => .pan (flt (l.length - k))
  | .ok t r => .ret (.str (bs t))
theorem drop_get (l : List UInt8) (i : Nat) (h : i < l.length) : l.drop i = l.getD i 0 :: l.drop (i + 1) := drop_at l i 0 h
theorem u8_eq {x : Int} {c : UInt8} {n : Nat} (h : x = (c.toNat : Int)) (h2 : x = (n : Int)) (hn : n < 256) : c = UInt8.ofNat n := by
  have h3 : c.toNat = n := by omega
  rw [← h3, u8_ofNat]
theorem u8_ne {x : Int} {c : UInt8} {n : Nat} (h : x = (c.toNat : Int)) (h2 : ¬ x = (n : Int)) (hn : n < 256) : c ≠ UInt8.ofNat n := by
  intro e
  apply h2
  rw [h, e, UInt8.toNat_ofNat']
  rw [Nat.mod_eq_of_lt hn]
theorem hR_bad {S : Nat → Prop} {w : World} {g : Nat} {t : TypeId} {l : List UInt8} {x : CR} {k n : Nat} (h : x = .bad k) (hn : l.length - k = n) : PostM S w g t (stA l (x.n l)) (x.res l) = PostM S w g t (stA l n) (.pan (flt n)) := by
  subst h; subst hn; rfl
theorem hR_ok {S : Nat → Prop} {w : World} {g : Nat} {t : TypeId} {l t' r : List UInt8} {x : CR} {n : Nat} (h : x = .ok t' r) (hn : l.length - r.length = n) : PostM S w g t (stA l (x.n l)) (x.res l) = PostM S w g t (stA l n) (.ret (.str (bs t'))) := by
  subst h; subst hn; rfl
theorem said_fn (l : List UInt8) (i0 : Nat) (h0 : i0 ≤ l.length) (hl : l.length ≤ 65536) : FnM Tryd.prog 41 51 (stA l i0) [] (stA l ((cont (l.drop i0)).n l)) ((cont (l.drop i0)).res l) := by
  refine FnM.of Tryd.f41 _ Tryd.func41 rfl (by decide) (by show 1 ≤ _; decide) tbOk 79 rfl fun S w g gl hg => ?_
  have hs := bs_size l
  refine Run.go ?_; (conv => whnf); repeat' (first | ((with_reducible refine Know.mk fun _ => ?_); conv => whnf) | ((with_reducible refine Need.mk ?_ ?_); exact nd; conv => whnf) | ((with_reducible first | refine Both.mk ?_ ?_ | refine Any.mk fun b hb => ?_ | refine AskB.dec (fun hb => ?_) (fun hb => ?_) | refine AskB.ndec (fun hb => ?_) (fun hb => ?_) | refine AskB.mk (fun hb => ?_) (fun hb => ?_)) <;> conv => whnf) | ((with_reducible first | refine Run.drawX rfl (by decide +kernel) ?_ | refine Run.drawT rfl (by decide +kernel) ?_ | refine Run.drawW rfl (by decide +kernel) ?_); conv => whnf) | fail)
  refine Run.holdBoxNil 3 1 90 5 1 (bytesG .empty) rfl rfl rfl rfl ?_
  refine Run.loop [0, 3] (fun (a : Nat × AV × List UInt8) => []) (fun a => [(300, .box 51 (stA l a.1)), (301, .raw w (g + 1) w.heap.size), (3, .box 60 [a.2.1, .row 90]), (90, .row 5 1 (bs a.2.2).size (bytesG (bs a.2.2)))]) (fun a => a.1 ≤ l.length ∧ (a.2.1 = .nilp ∨ a.2.1 = .box 3 0) ∧ (cont (l.drop a.1)).app a.2.2 = cont (l.drop i0) ∧ a.2.2.length ≤ a.1) (fun a => l.length - a.1) (i0, .nilp, []) ⟨h0, .inl rfl, CR.app_nil _, Nat.zero_le _⟩ (by trivial) ⟨MOle.refl _, MOle.refl _, MOle.refl _, MOle.refl _, trivial⟩ ?_
  intro ⟨i, p, b⟩ ⟨hi, hp, hc, hbi⟩ IH
  simp only [] at hi hp hc hbi ⊢
  have hbs := bs_size b
  have hw1 : IntKind.i64.wrap ((i : Int) + 1) = ((i + 1 : Nat) : Int) := wrap64 (by omega) (by omega)
  by_cases hil : i < l.length
  · have hdi := drop_get l i hil
    have hci : bt (bs l) (i : Int).toNat = ((l.getD i 0).toNat : Int) := bt_at l i
    have hdi1 : i + 1 < l.length → bt (bs l) (IntKind.i64.wrap ((i : Int) + 1)).toNat = ((l.getD (i + 1) 0).toNat : Int) := fun _ => by rw [hw1]; exact bt_at l (i + 1)
    refine Run.go ?_; (conv => whnf); repeat' (first | ((with_reducible refine Know.mk fun _ => ?_); conv => whnf) | ((with_reducible refine Need.mk ?_ ?_); exact nd; conv => whnf) | ((with_reducible first | refine Both.mk ?_ ?_ | refine Any.mk fun b hb => ?_ | refine AskB.dec (fun hb => ?_) (fun hb => ?_) | refine AskB.ndec (fun hb => ?_) (fun hb => ?_) | refine AskB.mk (fun hb => ?_) (fun hb => ?_)) <;> conv => whnf) | ((with_reducible first | refine Run.drawX rfl (by decide +kernel) ?_ | refine Run.drawT rfl (by decide +kernel) ?_ | refine Run.drawW rfl (by decide +kernel) ?_); conv => whnf) | fail)
    · have hcc : l.getD i 0 = 92 := u8_eq hci (n := 92) (by assumption) (by decide)
      have hk : cont (l.drop i0) = .bad 0 := by
        rw [← hc, hdi, hcc, show l.drop (i + 1) = [] from List.drop_of_length_le (by omega), cont_end]; rfl
      refine Run.callMP 300 (fail_fn l (i + 1)) rfl rfl rfl (st_le hw1) rfl (by trivial) rfl rfl ?_
      apply Raises.lent (hw0 := by rfl) (hkeep := by rfl) (henv := by rfl) (hraw := by rfl) (hg := hg) (hf := Tryd.func41)
      · exact hR_bad hk (by omega)
      · exact MOle.refl _
      · rfl
    · have hcc : l.getD i 0 = 92 := u8_eq hci (n := 92) (by assumption) (by decide)
      have hi1 : i + 1 < l.length := by omega
      refine CallQ.flat (isMark_fn (l.getD (i + 1) 0)) rfl ⟨Le.int (hdi1 hi1), trivial⟩ rfl ?_
      (conv => whnf); repeat' (first | ((with_reducible refine Know.mk fun _ => ?_); conv => whnf) | ((with_reducible refine Need.mk ?_ ?_); exact nd; conv => whnf) | ((with_reducible first | refine Both.mk ?_ ?_ | refine Any.mk fun b hb => ?_ | refine AskB.dec (fun hb => ?_) (fun hb => ?_) | refine AskB.ndec (fun hb => ?_) (fun hb => ?_) | refine AskB.mk (fun hb => ?_) (fun hb => ?_)) <;> conv => whnf) | ((with_reducible first | refine Run.drawX rfl (by decide +kernel) ?_ | refine Run.drawT rfl (by decide +kernel) ?_ | refine Run.drawW rfl (by decide +kernel) ?_); conv => whnf) | fail)
      · have hd : ¬ isMk (l.getD (i + 1) 0) = true := by
          have : (!isMk (l.getD (i + 1) 0)) = true := by assumption
          simpa using this
        have hk : cont (l.drop i0) = .bad (l.drop (i + 2)).length.succ := by
          rw [← hc, hdi, hcc, drop_get l (i + 1) hi1, cont_bad _ hd]; rfl
        refine Run.callMP 300 (fail_fn l (i + 1)) rfl rfl rfl (st_le hw1) rfl (by trivial) rfl rfl ?_
        apply Raises.lent (hw0 := by rfl) (hkeep := by rfl) (henv := by rfl) (hraw := by rfl) (hg := hg) (hf := Tryd.func41)
        · exact hR_bad hk (by rw [List.length_drop]; omega)
        · exact MOle.refl _
        · rfl
      · have hd : isMk (l.getD (i + 1) 0) = true := by
          have : (!isMk (l.getD (i + 1) 0)) = false := by assumption
          simpa using this
        have hk : (cont (l.drop (i + 2))).app (b ++ [l.getD (i + 1) 0]) = cont (l.drop i0) := by
          rw [← hc, hdi, hcc, drop_get l (i + 1) hi1, cont_esc _ hd, CR.app_push]
        have hw2 : IntKind.i64.wrap (IntKind.i64.wrap ((i : Int) + 1) + 1) = ((i + 2 : Nat) : Int) := by rw [hw1]; exact wrap64 (by omega) (by omega)
        refine Run.bldr 60 5 3 90 p (bs b) (MOle.refl _) (MOle.refl _) ?_
        refine wb3 p _ (l.getD (i + 1) 0) rfl rfl rfl rfl rfl ?_ (by omega) hp ?_
        · show AV.int .u8 (bt (bs l) (IntKind.i64.wrap ((i : Int) + 1)).toNat) = _
          rw [hdi1 hi1]
        refine Run.tidy [0, 3] [300, 301, 3, 90] ?_; (conv => whnf)
        refine Run.go ?_; (conv => whnf); repeat' (first | ((with_reducible refine Know.mk fun _ => ?_); conv => whnf) | ((with_reducible refine Need.mk ?_ ?_); exact nd; conv => whnf) | ((with_reducible first | refine Both.mk ?_ ?_ | refine Any.mk fun b hb => ?_ | refine AskB.dec (fun hb => ?_) (fun hb => ?_) | refine AskB.ndec (fun hb => ?_) (fun hb => ?_) | refine AskB.mk (fun hb => ?_) (fun hb => ?_)) <;> conv => whnf) | ((with_reducible first | refine Run.drawX rfl (by decide +kernel) ?_ | refine Run.drawT rfl (by decide +kernel) ?_ | refine Run.drawW rfl (by decide +kernel) ?_); conv => whnf) | fail)
        refine Run.to _ _ ?_ ?_ (IH (i + 2, .box 3 0, b ++ [l.getD (i + 1) 0]) (by simp only []; omega) ⟨by simp only []; omega, .inr rfl, hk, by simp; omega⟩)
        · exact ⟨Le.refl _, Le.refl _, trivial⟩
        · refine ⟨st_le hw2, MOle.refl _, MOle.refl _, ?_, trivial⟩
          rw [← bs_push]
          exact MOle.refl _
    · refine Run.callBX (isMark_fn (l.getD i 0)) rfl rfl ⟨Le.int hci, trivial⟩ rfl rfl rfl ?_
      (conv => whnf); repeat' (first | ((with_reducible refine Know.mk fun _ => ?_); conv => whnf) | ((with_reducible refine Need.mk ?_ ?_); exact nd; conv => whnf) | ((with_reducible first | refine Both.mk ?_ ?_ | refine Any.mk fun b hb => ?_ | refine AskB.dec (fun hb => ?_) (fun hb => ?_) | refine AskB.ndec (fun hb => ?_) (fun hb => ?_) | refine AskB.mk (fun hb => ?_) (fun hb => ?_)) <;> conv => whnf) | ((with_reducible first | refine Run.drawX rfl (by decide +kernel) ?_ | refine Run.drawT rfl (by decide +kernel) ?_ | refine Run.drawW rfl (by decide +kernel) ?_); conv => whnf) | fail)
      · have hm : isMk (l.getD i 0) = true := by assumption
        have hne : l.getD i 0 ≠ 92 := u8_ne hci (n := 92) (by assumption) (by decide)
        have hk : cont (l.drop i0) = .ok b (l.drop i) := by
          rw [← hc, hdi, cont_stop _ hne hm]
          simp [CR.app]
        refine Run.bldr 60 5 3 90 p (bs b) (MOle.refl _) (MOle.refl _) ?_
        refine bs3 p _ rfl rfl rfl rfl rfl ?_
        refine Run.go ?_; (conv => whnf); repeat' (first | ((with_reducible refine Know.mk fun _ => ?_); conv => whnf) | ((with_reducible refine Need.mk ?_ ?_); exact nd; conv => whnf) | ((with_reducible first | refine Both.mk ?_ ?_ | refine Any.mk fun b hb => ?_ | refine AskB.dec (fun hb => ?_) (fun hb => ?_) | refine AskB.ndec (fun hb => ?_) (fun hb => ?_) | refine AskB.mk (fun hb => ?_) (fun hb => ?_)) <;> conv => whnf) | ((with_reducible first | refine Run.drawX rfl (by decide +kernel) ?_ | refine Run.drawT rfl (by decide +kernel) ?_ | refine Run.drawW rfl (by decide +kernel) ?_); conv => whnf) | fail)
        apply Run.leaveM (ts := [2]) (hk := by first | exact .inr ⟨_, rfl⟩ | exact .inl rfl) (hw0 := by rfl) (hkeep := by rfl) (henv := by rfl) (hraw := by rfl) (hg := hg) (hf := Tryd.func41) (hres := by rfl)
        · exact hR_ok (n := i) hk (by rw [List.length_drop]; omega)
        · exact MOle.refl _
        · rfl
        · exact Le.refl _
      · have hm : ¬ isMk (l.getD i 0) = true := by
          have : isMk (l.getD i 0) = false := by assumption
          rw [this]; decide
        have hk : (cont (l.drop (i + 1))).app (b ++ [l.getD i 0]) = cont (l.drop i0) := by
          rw [← hc, hdi, cont_plain _ hm, CR.app_push]
        refine Run.bldr 60 5 3 90 p (bs b) (MOle.refl _) (MOle.refl _) ?_
        refine wb3 p _ (l.getD i 0) rfl rfl rfl rfl rfl ?_ (by omega) hp ?_
        · show AV.int .u8 (bt (bs l) (i : Int).toNat) = _
          rw [hci]
        refine Run.tidy [0, 3] [300, 301, 3, 90] ?_; (conv => whnf)
        refine Run.go ?_; (conv => whnf); repeat' (first | ((with_reducible refine Know.mk fun _ => ?_); conv => whnf) | ((with_reducible refine Need.mk ?_ ?_); exact nd; conv => whnf) | ((with_reducible first | refine Both.mk ?_ ?_ | refine Any.mk fun b hb => ?_ | refine AskB.dec (fun hb => ?_) (fun hb => ?_) | refine AskB.ndec (fun hb => ?_) (fun hb => ?_) | refine AskB.mk (fun hb => ?_) (fun hb => ?_)) <;> conv => whnf) | ((with_reducible first | refine Run.drawX rfl (by decide +kernel) ?_ | refine Run.drawT rfl (by decide +kernel) ?_ | refine Run.drawW rfl (by decide +kernel) ?_); conv => whnf) | fail)
        refine Run.to _ _ ?_ ?_ (IH (i + 1, .box 3 0, b ++ [l.getD i 0]) (by simp only []; omega) ⟨by simp only []; omega, .inr rfl, hk, by simp; omega⟩)
        · exact ⟨Le.refl _, Le.refl _, trivial⟩
        · refine ⟨st_le hw1, MOle.refl _, MOle.refl _, ?_, trivial⟩
          rw [← bs_push]
          exact MOle.refl _
    · exfalso; omega
  · refine Run.go ?_; (conv => whnf); repeat' (first | ((with_reducible refine Know.mk fun _ => ?_); conv => whnf) | ((with_reducible refine Need.mk ?_ ?_); exact nd; conv => whnf) | ((with_reducible first | refine Both.mk ?_ ?_ | refine Any.mk fun b hb => ?_ | refine AskB.dec (fun hb => ?_) (fun hb => ?_) | refine AskB.ndec (fun hb => ?_) (fun hb => ?_) | refine AskB.mk (fun hb => ?_) (fun hb => ?_)) <;> conv => whnf) | ((with_reducible first | refine Run.drawX rfl (by decide +kernel) ?_ | refine Run.drawT rfl (by decide +kernel) ?_ | refine Run.drawW rfl (by decide +kernel) ?_); conv => whnf) | fail)
    all_goals try (exfalso; omega)
    refine Run.bldr 60 5 3 90 p (bs b) (MOle.refl _) (MOle.refl _) ?_
    refine bs3 p _ rfl rfl rfl rfl rfl ?_
    refine Run.go ?_; (conv => whnf); repeat' (first | ((with_reducible refine Know.mk fun _ => ?_); conv => whnf) | ((with_reducible refine Need.mk ?_ ?_); exact nd; conv => whnf) | ((with_reducible first | refine Both.mk ?_ ?_ | refine Any.mk fun b hb => ?_ | refine AskB.dec (fun hb => ?_) (fun hb => ?_) | refine AskB.ndec (fun hb => ?_) (fun hb => ?_) | refine AskB.mk (fun hb => ?_) (fun hb => ?_)) <;> conv => whnf) | ((with_reducible first | refine Run.drawX rfl (by decide +kernel) ?_ | refine Run.drawT rfl (by decide +kernel) ?_ | refine Run.drawW rfl (by decide +kernel) ?_); conv => whnf) | fail)
    have hk : cont (l.drop i0) = .ok b [] := by
      rw [← hc, List.drop_of_length_le (by omega)]
      simp [cont, CR.app]
    apply Run.leaveM (ts := [2]) (hk := by first | exact .inr ⟨_, rfl⟩ | exact .inl rfl) (hw0 := by rfl) (hkeep := by rfl) (henv := by rfl) (hraw := by rfl) (hg := hg) (hf := Tryd.func41) (hres := by rfl)
    · exact hR_ok (n := i) hk (by simp; omega)
    · exact MOle.refl _
    · rfl
    · exact Le.refl _
end Go.Proofs.YtkdpmkjbfkjmdaaDoor.V

namespace Go.Proofs.YtkdpmkjbfkjmdaaDoor.V
set_option linter.unusedVariables false
set_option linter.unusedSimpArgs false
open Go Go.RowKit
structure StatS (ops : Array Oper) (all : List Nat) : Prop where
  edge : ∀ (i : Nat) o, ops[i]? = some o → ∀ e ∈ o.after, Region.binds .any e = true → e.on < i
  look : ∀ (i : Nat) o, i < ops.size → ops[i]? = some o → ∀ s ∈ looks ops o, ∀ j, j < ops.size → dstOf ops j = some s → ∃ e ∈ o.after, Region.binds .any e = true ∧ e.on = j
  one : ∀ i j d, i < ops.size → j < ops.size → dstOf ops i = some d → dstOf ops j = some d → i = j
section
variable {C : Ctx} {ops : Array Oper}
def drawStatS (ops : Array Oper) : Bool := (List.range ops.size).all fun i => match ops.toList[i]? with
  | none => false
  | some o => (o.after.toList.all fun e => !Region.binds .any e || Nat.blt e.on i) &&
    ((looks ops o).all fun s => (List.range ops.size).all fun j => match dstOf ops j with
      | some d => !(Nat.beq d s) || (o.after.toList.any fun e => Region.binds .any e && Nat.beq e.on j)
      | none => true) &&
    ((List.range ops.size).all fun j => Nat.beq j i || match dstOf ops j, o.dst with
      | some d, some d' => !(Nat.beq d d')
      | _, _ => true)
end
end Go.Proofs.YtkdpmkjbfkjmdaaDoor.V

namespace Go.Proofs.YtkdpmkjbfkjmdaaDoor.V
set_option linter.unusedVariables false
set_option linter.unusedSimpArgs false
open Go Go.Proofs Go.RowKit
set_option maxRecDepth 100000
set_option maxHeartbeats 1000000
/-- What says that the syntax is wrong. -/
def synE : AV := .val (.iface 84 (.int .i64 2))
theorem clone0_fn : Fn Tryd.prog 65 [.str .empty] (.str .empty) := by
  refine Fn.of Tryd.f65 _ Tryd.func65 rfl (by decide) (by show 1 ≤ _; decide) tbOk 18 rfl fun S w0 gl => ?_
  have h1 : ByteArray.empty.size = 0 := rfl
  refine Run.go ?_; (conv => whnf); repeat' (first | ((with_reducible refine Know.mk fun _ => ?_); conv => whnf) | ((with_reducible refine Need.mk ?_ ?_); exact nd; conv => whnf) | ((with_reducible refine Both.mk ?_ ?_) <;> conv => whnf) | ((with_reducible refine Any.mk fun b hb => ?_); conv => whnf) | ((with_reducible first | refine AskB.dec (fun hb => ?_) (fun hb => ?_) | refine AskB.ndec (fun hb => ?_) (fun hb => ?_) | refine AskB.mk (fun hb => ?_) (fun hb => ?_)) <;> first | (exfalso; omega) | (conv => whnf)) | ((with_reducible first | refine Run.drawX rfl (by decide +kernel) ?_ | refine Run.drawT rfl (by decide +kernel) ?_ | refine Run.drawW rfl (by decide +kernel) ?_); conv => whnf) | fail)
  all_goals try (exfalso; omega)
  exact Run.leave (ts := [2]) (.inr ⟨_, rfl⟩) rfl Tryd.func65 rfl (Le.refl _)
theorem synt0_fn (s : ByteArray) : Fn Tryd.prog 54 [.str s, .str .empty] .u := by
  refine Fn.of Tryd.f54 _ Tryd.func54 rfl (by decide) (by show 2 ≤ _; decide) tbOk 11 rfl fun S w0 gl => ?_
  refine Run.go ?_; (conv => whnf); repeat' (first | ((with_reducible refine Know.mk fun _ => ?_); conv => whnf) | ((with_reducible refine Need.mk ?_ ?_); exact nd; conv => whnf) | ((with_reducible first | refine Both.mk ?_ ?_ | refine Any.mk fun b hb => ?_ | refine AskB.dec (fun hb => ?_) (fun hb => ?_) | refine AskB.ndec (fun hb => ?_) (fun hb => ?_) | refine AskB.mk (fun hb => ?_) (fun hb => ?_)) <;> conv => whnf) | ((with_reducible first | refine Run.drawX rfl (by decide +kernel) ?_ | refine Run.drawT rfl (by decide +kernel) ?_ | refine Run.drawW rfl (by decide +kernel) ?_); conv => whnf) | fail)
  refine CallQ.flat clone0_fn rfl ⟨Le.refl _, trivial⟩ rfl ?_
  (conv => whnf); repeat' (first | ((with_reducible refine Know.mk fun _ => ?_); conv => whnf) | ((with_reducible refine Need.mk ?_ ?_); exact nd; conv => whnf) | ((with_reducible first | refine Both.mk ?_ ?_ | refine Any.mk fun b hb => ?_ | refine AskB.dec (fun hb => ?_) (fun hb => ?_) | refine AskB.ndec (fun hb => ?_) (fun hb => ?_) | refine AskB.mk (fun hb => ?_) (fun hb => ?_)) <;> conv => whnf) | ((with_reducible first | refine Run.drawX rfl (by decide +kernel) ?_ | refine Run.drawT rfl (by decide +kernel) ?_ | refine Run.drawW rfl (by decide +kernel) ?_); conv => whnf) | fail)
  exact Run.leave (ts := [4]) (.inr ⟨_, rfl⟩) rfl Tryd.func54 rfl (Le.u _)
theorem toErr0_fn (s : ByteArray) : Fn Tryd.prog 48 [.str s, .str .empty, .int .i64 0, .int .i64 0, synE] .u := by
  refine Fn.of Tryd.f48 _ Tryd.func48 rfl (by decide) (by show 5 ≤ _; decide) tbOk 43 rfl fun S w0 gl => ?_
  refine Run.go ?_; (conv => whnf); repeat' (first | ((with_reducible refine Know.mk fun _ => ?_); conv => whnf) | ((with_reducible refine Need.mk ?_ ?_); exact nd; conv => whnf) | ((with_reducible first | refine Both.mk ?_ ?_ | refine Any.mk fun b hb => ?_ | refine AskB.dec (fun hb => ?_) (fun hb => ?_) | refine AskB.ndec (fun hb => ?_) (fun hb => ?_) | refine AskB.mk (fun hb => ?_) (fun hb => ?_)) <;> conv => whnf) | ((with_reducible first | refine Run.drawX rfl (by decide +kernel) ?_ | refine Run.drawT rfl (by decide +kernel) ?_ | refine Run.drawW rfl (by decide +kernel) ?_); conv => whnf) | fail)
  refine Run.mkIf (t := 84) (n := 2) rfl rfl rfl (kd' := .i64) (by kernel_rfl) rfl rfl ?_
  refine Run.binIf (b := true) (vx := .iface 84 (.int .i64 2)) (vy := .iface 84 (.int .i64 2)) rfl rfl rfl rfl (fun w => if_eq (by kernel_rfl) (kd := .i64) (by kernel_rfl) rfl (by kernel_rfl) w) rfl rfl ?_
  refine Run.go ?_; (conv => whnf); repeat' (first | ((with_reducible refine Know.mk fun _ => ?_); conv => whnf) | ((with_reducible refine Need.mk ?_ ?_); exact nd; conv => whnf) | ((with_reducible first | refine Both.mk ?_ ?_ | refine Any.mk fun b hb => ?_ | refine AskB.dec (fun hb => ?_) (fun hb => ?_) | refine AskB.ndec (fun hb => ?_) (fun hb => ?_) | refine AskB.mk (fun hb => ?_) (fun hb => ?_)) <;> conv => whnf) | ((with_reducible first | refine Run.drawX rfl (by decide +kernel) ?_ | refine Run.drawT rfl (by decide +kernel) ?_ | refine Run.drawW rfl (by decide +kernel) ?_); conv => whnf) | fail)
  all_goals try (cases hb; done)
  refine Run.callBX (synt0_fn s) rfl rfl ⟨Le.refl _, Le.refl _, trivial⟩ rfl rfl rfl ?_
  (conv => whnf); repeat' (first | ((with_reducible refine Know.mk fun _ => ?_); conv => whnf) | ((with_reducible refine Need.mk ?_ ?_); exact nd; conv => whnf) | ((with_reducible first | refine Both.mk ?_ ?_ | refine Any.mk fun b hb => ?_ | refine AskB.dec (fun hb => ?_) (fun hb => ?_) | refine AskB.ndec (fun hb => ?_) (fun hb => ?_) | refine AskB.mk (fun hb => ?_) (fun hb => ?_)) <;> conv => whnf) | ((with_reducible first | refine Run.drawX rfl (by decide +kernel) ?_ | refine Run.drawT rfl (by decide +kernel) ?_ | refine Run.drawW rfl (by decide +kernel) ?_); conv => whnf) | fail)
  refine Run.mkIfU (t := 87) (e := 101) rfl rfl (by kernel_rfl) rfl rfl ?_
  refine Run.go ?_; (conv => whnf); repeat' (first | ((with_reducible refine Know.mk fun _ => ?_); conv => whnf) | ((with_reducible refine Need.mk ?_ ?_); exact nd; conv => whnf) | ((with_reducible first | refine Both.mk ?_ ?_ | refine Any.mk fun b hb => ?_ | refine AskB.dec (fun hb => ?_) (fun hb => ?_) | refine AskB.ndec (fun hb => ?_) (fun hb => ?_) | refine AskB.mk (fun hb => ?_) (fun hb => ?_)) <;> conv => whnf) | ((with_reducible first | refine Run.drawX rfl (by decide +kernel) ?_ | refine Run.drawT rfl (by decide +kernel) ?_ | refine Run.drawW rfl (by decide +kernel) ?_); conv => whnf) | fail)
  exact Run.leave (ts := [10]) (.inr ⟨_, rfl⟩) rfl Tryd.func48 rfl (Le.refl _)
theorem pint0_fn : Fn Tryd.prog 53 [.str .empty, .int .i64 10, .int .i64 0] (tupL [.int .i64 0, synE]) := by
  refine Fn.of Tryd.f53 _ Tryd.func53 rfl (by decide) (by show 3 ≤ _; decide) tbOk 73 rfl fun S w0 gl => ?_
  refine Run.go ?_; (conv => whnf); repeat' (first | ((with_reducible refine Know.mk fun _ => ?_); conv => whnf) | ((with_reducible refine Need.mk ?_ ?_); exact nd; conv => whnf) | ((with_reducible refine Both.mk ?_ ?_) <;> conv => whnf) | ((with_reducible refine Any.mk fun b hb => ?_); conv => whnf) | ((with_reducible first | refine AskB.dec (fun hb => ?_) (fun hb => ?_) | refine AskB.ndec (fun hb => ?_) (fun hb => ?_) | refine AskB.mk (fun hb => ?_) (fun hb => ?_)) <;> first | (exfalso; omega) | (conv => whnf)) | ((with_reducible first | refine Run.drawX rfl (by decide +kernel) ?_ | refine Run.drawT rfl (by decide +kernel) ?_ | refine Run.drawW rfl (by decide +kernel) ?_); conv => whnf) | fail)
  · refine Run.mkIf (t := 84) (n := 2) rfl rfl rfl (kd' := .i64) (by kernel_rfl) rfl rfl ?_
    refine Run.go ?_; (conv => whnf); repeat' (first | ((with_reducible refine Know.mk fun _ => ?_); conv => whnf) | ((with_reducible refine Need.mk ?_ ?_); exact nd; conv => whnf) | ((with_reducible first | refine Both.mk ?_ ?_ | refine Any.mk fun b hb => ?_ | refine AskB.dec (fun hb => ?_) (fun hb => ?_) | refine AskB.ndec (fun hb => ?_) (fun hb => ?_) | refine AskB.mk (fun hb => ?_) (fun hb => ?_)) <;> conv => whnf) | ((with_reducible first | refine Run.drawX rfl (by decide +kernel) ?_ | refine Run.drawT rfl (by decide +kernel) ?_ | refine Run.drawW rfl (by decide +kernel) ?_); conv => whnf) | fail)
    exact Run.leave (ts := [6,7]) (.inr ⟨_, rfl⟩) rfl Tryd.func53 rfl (resT ⟨Le.refl _, Le.refl _, trivial⟩)
  all_goals exact absurd rfl (by assumption)
theorem atoiI0_fn : Fn Tryd.prog 47 [.str .empty] (tupL [.int .i64 0, synE]) := by
  refine Fn.of Tryd.f47 _ Tryd.func47 rfl (by decide) (by show 1 ≤ _; decide) tbOk 77 rfl fun S w0 gl => ?_
  have h1 : ByteArray.empty.size = 0 := rfl
  refine Run.go ?_; (conv => whnf); repeat' (first | ((with_reducible refine Know.mk fun _ => ?_); conv => whnf) | ((with_reducible refine Need.mk ?_ ?_); exact nd; conv => whnf) | ((with_reducible refine Both.mk ?_ ?_) <;> conv => whnf) | ((with_reducible refine Any.mk fun b hb => ?_); conv => whnf) | ((with_reducible first | refine AskB.dec (fun hb => ?_) (fun hb => ?_) | refine AskB.ndec (fun hb => ?_) (fun hb => ?_) | refine AskB.mk (fun hb => ?_) (fun hb => ?_)) <;> first | (exfalso; omega) | (conv => whnf)) | ((with_reducible first | refine Run.drawX rfl (by decide +kernel) ?_ | refine Run.drawT rfl (by decide +kernel) ?_ | refine Run.drawW rfl (by decide +kernel) ?_); conv => whnf) | fail)
  all_goals try (exfalso; omega)
  refine Run.callBX pint0_fn rfl rfl ⟨Le.refl _, Le.refl _, Le.refl _, trivial⟩ rfl rfl rfl ?_
  (conv => whnf); repeat' (first | ((with_reducible refine Know.mk fun _ => ?_); conv => whnf) | ((with_reducible refine Need.mk ?_ ?_); exact nd; conv => whnf) | ((with_reducible first | refine Both.mk ?_ ?_ | refine Any.mk fun b hb => ?_ | refine AskB.dec (fun hb => ?_) (fun hb => ?_) | refine AskB.ndec (fun hb => ?_) (fun hb => ?_) | refine AskB.mk (fun hb => ?_) (fun hb => ?_)) <;> conv => whnf) | ((with_reducible first | refine Run.drawX rfl (by decide +kernel) ?_ | refine Run.drawT rfl (by decide +kernel) ?_ | refine Run.drawW rfl (by decide +kernel) ?_); conv => whnf) | fail)
  exact Run.leave (ts := [2,3]) (.inr ⟨_, rfl⟩) rfl Tryd.func47 rfl (resT ⟨Le.refl _, Le.refl _, trivial⟩)
theorem atoi0_fn : Fn Tryd.prog 37 [.str .empty] (tupL [.int .i64 0, .u]) := by
  refine Fn.of Tryd.f37 _ Tryd.func37 rfl (by decide) (by show 1 ≤ _; decide) tbOk 18 rfl fun S w0 gl => ?_
  refine Run.go ?_; (conv => whnf); repeat' (first | ((with_reducible refine Know.mk fun _ => ?_); conv => whnf) | ((with_reducible refine Need.mk ?_ ?_); exact nd; conv => whnf) | ((with_reducible first | refine Both.mk ?_ ?_ | refine Any.mk fun b hb => ?_ | refine AskB.dec (fun hb => ?_) (fun hb => ?_) | refine AskB.ndec (fun hb => ?_) (fun hb => ?_) | refine AskB.mk (fun hb => ?_) (fun hb => ?_)) <;> conv => whnf) | ((with_reducible first | refine Run.drawX rfl (by decide +kernel) ?_ | refine Run.drawT rfl (by decide +kernel) ?_ | refine Run.drawW rfl (by decide +kernel) ?_); conv => whnf) | fail)
  refine Run.callBX atoiI0_fn rfl rfl ⟨Le.refl _, trivial⟩ rfl rfl rfl ?_
  (conv => whnf); repeat' (first | ((with_reducible refine Know.mk fun _ => ?_); conv => whnf) | ((with_reducible refine Need.mk ?_ ?_); exact nd; conv => whnf) | ((with_reducible first | refine Both.mk ?_ ?_ | refine Any.mk fun b hb => ?_ | refine AskB.dec (fun hb => ?_) (fun hb => ?_) | refine AskB.ndec (fun hb => ?_) (fun hb => ?_) | refine AskB.mk (fun hb => ?_) (fun hb => ?_)) <;> conv => whnf) | ((with_reducible first | refine Run.drawX rfl (by decide +kernel) ?_ | refine Run.drawT rfl (by decide +kernel) ?_ | refine Run.drawW rfl (by decide +kernel) ?_); conv => whnf) | fail)
  refine Run.binIf (b := true) (vx := .iface 84 (.int .i64 2)) (vy := .nilIface) rfl rfl rfl rfl (fun w => if_nil (by kernel_rfl) w) rfl rfl ?_
  refine Run.go ?_; (conv => whnf); repeat' (first | ((with_reducible refine Know.mk fun _ => ?_); conv => whnf) | ((with_reducible refine Need.mk ?_ ?_); exact nd; conv => whnf) | ((with_reducible first | refine Both.mk ?_ ?_ | refine Any.mk fun b hb => ?_ | refine AskB.dec (fun hb => ?_) (fun hb => ?_) | refine AskB.ndec (fun hb => ?_) (fun hb => ?_) | refine AskB.mk (fun hb => ?_) (fun hb => ?_)) <;> conv => whnf) | ((with_reducible first | refine Run.drawX rfl (by decide +kernel) ?_ | refine Run.drawT rfl (by decide +kernel) ?_ | refine Run.drawW rfl (by decide +kernel) ?_); conv => whnf) | fail)
  all_goals try (cases hb; done)
  refine Run.callBX (toErr0_fn _) rfl rfl ⟨Le.refl _, Le.refl _, Le.refl _, Le.refl _, Le.refl _, trivial⟩ rfl rfl rfl ?_
  (conv => whnf); repeat' (first | ((with_reducible refine Know.mk fun _ => ?_); conv => whnf) | ((with_reducible refine Need.mk ?_ ?_); exact nd; conv => whnf) | ((with_reducible first | refine Both.mk ?_ ?_ | refine Any.mk fun b hb => ?_ | refine AskB.dec (fun hb => ?_) (fun hb => ?_) | refine AskB.ndec (fun hb => ?_) (fun hb => ?_) | refine AskB.mk (fun hb => ?_) (fun hb => ?_)) <;> conv => whnf) | ((with_reducible first | refine Run.drawX rfl (by decide +kernel) ?_ | refine Run.drawT rfl (by decide +kernel) ?_ | refine Run.drawW rfl (by decide +kernel) ?_); conv => whnf) | fail)
  exact Run.leave (ts := [2,3]) (.inr ⟨_, rfl⟩) rfl Tryd.func37 rfl (resT ⟨Le.refl _, Le.refl _, trivial⟩)
/-- Digits, as a number. -/
def valD (l : List UInt8) : Nat := l.foldl (fun n d => 10 * n + (d.toNat - 48)) 0
theorem valD_push (l : List UInt8) (d : UInt8) : valD (l ++ [d]) = 10 * valD l + (d.toNat - 48) := by unfold valD; rw [List.foldl_append]; rfl
theorem valD_lt : ∀ l : List UInt8, (∀ c ∈ l, dig c = true) → valD l < 10 ^ l.length := by
  intro l h
  have key : ∀ (l : List UInt8) (n m : Nat), (∀ c ∈ l, dig c = true) → n < m → l.foldl (fun n d => 10 * n + (d.toNat - 48)) n < m * 10 ^ l.length := by
    intro l
    induction l with
    | nil => intro n m _ h; simpa using h
    | cons c l ih =>
      intro n m hc hn
      have hd : 48 ≤ c.toNat ∧ c.toNat ≤ 57 := of_decide_eq_true (hc c List.mem_cons_self)
      have := ih (10 * n + (c.toNat - 48)) (m * 10) (fun x hx => hc x (List.mem_cons_of_mem _ hx)) (by omega)
      rw [List.foldl_cons, List.length_cons, Nat.pow_succ]
      calc _ < m * 10 * 10 ^ l.length := this
        _ = m * (10 ^ l.length * 10) := by rw [Nat.mul_assoc, Nat.mul_comm 10]
  have := key l 0 1 h (by omega)
  simpa [valD] using this
theorem if_nilnil {P : Program} {t : TypeId} {x : Operand} {c : Value} (ht : P.underlying t = some (.interface (P.methodsAt t))) (w : World) : (do eqGuard .neq t x (.const c) .nilIface .nilIface; binOp .neq t .nilIface .nilIface : Sem Value).run P w = .ok (.bool false) w := by
  simp only [Sem.run_bind, eqGuard]
  simp [run_neq_nil_nil w t ht]
theorem atoiI_dig (l : List UInt8) (h1 : 1 ≤ l.length) (h2 : l.length ≤ 9) (hd : ∀ i, i < l.length → dig (l.getD i 0) = true) : Fn Tryd.prog 47 [.str (bs l)] (tupL [.int .i64 (valD l : Int), .nilif]) := by
  have hd' : ∀ i, i < l.length → 48 ≤ bt (bs l) i ∧ bt (bs l) i ≤ 57 := fun i hi => by
    have : 48 ≤ (l.getD i 0).toNat ∧ (l.getD i 0).toNat ≤ 57 := of_decide_eq_true (hd i hi)
    rw [bt_at]; omega
  have h0 : 48 ≤ bt (bs l) (Int.toNat 0) ∧ bt (bs l) (Int.toNat 0) ≤ 57 := hd' 0 (by omega)
  have hval : ∀ i, i ≤ l.length → valD (l.take i) ≤ 1000000000 := fun i hi => by
    have hdd : ∀ c ∈ l.take i, dig c = true := fun c hc => by
      obtain ⟨j, hj, rfl⟩ := List.getElem_of_mem (List.mem_of_mem_take hc)
      have := hd j hj
      rwa [List.getD, List.getElem?_eq_getElem hj] at this
    have h := valD_lt _ hdd
    have h3 : 10 ^ (l.take i).length ≤ 10 ^ 9 := Nat.pow_le_pow_right (by decide) (by rw [List.length_take]; omega)
    have h4 : (10 : Nat) ^ 9 = 1000000000 := by decide
    omega
  refine Fn.of Tryd.f47 _ Tryd.func47 rfl (by decide) (by show 1 ≤ _; decide) tbOk 77 rfl fun S w0 gl => ?_
  have hs := bs_size l
  refine Run.go ?_; (conv => whnf); repeat' (first | ((with_reducible refine Know.mk fun _ => ?_); conv => whnf) | ((with_reducible refine Need.mk ?_ ?_); exact nd; conv => whnf) | ((with_reducible refine Both.mk ?_ ?_) <;> conv => whnf) | ((with_reducible refine Any.mk fun b hb => ?_); conv => whnf) | ((with_reducible first | refine AskB.dec (fun hb => ?_) (fun hb => ?_) | refine AskB.ndec (fun hb => ?_) (fun hb => ?_) | refine AskB.mk (fun hb => ?_) (fun hb => ?_)) <;> first | (exfalso; omega) | (conv => whnf)) | ((with_reducible first | refine Run.drawX rfl (by decide +kernel) ?_ | refine Run.drawT rfl (by decide +kernel) ?_ | refine Run.drawW rfl (by decide +kernel) ?_); conv => whnf) | fail)
  all_goals try (exfalso; omega)
  refine Run.toBytesR (d := 47) (e := 5) (bs l) rfl rfl rfl rfl rfl rfl (by kernel_rfl) (by kernel_rfl) (by kernel_rfl) ?_
  refine Run.go ?_; (conv => whnf); repeat' (first | ((with_reducible refine Know.mk fun _ => ?_); conv => whnf) | ((with_reducible refine Need.mk ?_ ?_); exact nd; conv => whnf) | ((with_reducible first | refine Both.mk ?_ ?_ | refine Any.mk fun b hb => ?_ | refine AskB.dec (fun hb => ?_) (fun hb => ?_) | refine AskB.ndec (fun hb => ?_) (fun hb => ?_) | refine AskB.mk (fun hb => ?_) (fun hb => ?_)) <;> conv => whnf) | ((with_reducible first | refine Run.drawX rfl (by decide +kernel) ?_ | refine Run.drawT rfl (by decide +kernel) ?_ | refine Run.drawW rfl (by decide +kernel) ?_); conv => whnf) | fail)
  refine Run.loop [5, 48] (fun (i : Nat) => [(6, .int .i64 (valD (l.take i) : Int)), (47, .row 47), (49, .int .i64 (i : Int))]) (fun i => [(47, .row 5 1 (bs l).size (bytesG (bs l)))]) (fun i => i ≤ l.length) (fun i => l.length - i) 0 (Nat.zero_le _) ⟨Le.refl _, Le.refl _, Le.refl _, trivial⟩ ⟨MOle.refl _, trivial⟩ ?_
  intro i hi IH
  have hwi : IntKind.i64.wrap ((i : Int) + 1) = ((i + 1 : Nat) : Int) := wrap64 (by omega) (by omega)
  by_cases hil : i < l.length
  · have hdi := hd' i hil
    rw [bt_at] at hdi
    have hw0 : IntKind.u8.wrap (bt (bs l) (i : Int).toNat - 48) = (((l.getD i 0).toNat - 48 : Nat) : Int) := by
      rw [bt_at, Int.toNat_natCast]
      have e1 : ((l.getD i 0).toNat : Int) - 48 = (((l.getD i 0).toNat - 48 : Nat) : Int) := by omega
      rw [e1]
      exact IntWalk.u8_in _ ⟨by omega, by omega⟩
    refine Run.go ?_; (conv => whnf); repeat' (first | ((with_reducible refine Know.mk fun _ => ?_); conv => whnf) | ((with_reducible refine Need.mk ?_ ?_); exact nd; conv => whnf) | ((with_reducible refine Both.mk ?_ ?_) <;> conv => whnf) | ((with_reducible refine Any.mk fun b hb => ?_); conv => whnf) | ((with_reducible first | refine AskB.dec (fun hb => ?_) (fun hb => ?_) | refine AskB.ndec (fun hb => ?_) (fun hb => ?_) | refine AskB.mk (fun hb => ?_) (fun hb => ?_)) <;> first | (exfalso; omega) | (conv => whnf)) | ((with_reducible first | refine Run.drawX rfl (by decide +kernel) ?_ | refine Run.drawT rfl (by decide +kernel) ?_ | refine Run.drawW rfl (by decide +kernel) ?_); conv => whnf) | fail)
    all_goals try (exfalso; omega)
    refine Run.to _ _ ?_ ?_ (IH (i + 1) (by omega) (by omega))
    · refine ⟨Le.refl _, Le.refl _, Le.int ?_, Le.refl _, Le.int hwi, trivial⟩
      have hv := hval i hi
      rw [hw0, take_at l i 0 hil, valD_push, wrap64 (x := (((l.getD i 0).toNat - 48 : Nat) : Int)) (by omega) (by omega), wrap64 (x := (valD (l.take i) : Int) * 10) (by omega) (by omega), wrap64 (by omega) (by omega)]
      omega
    · exact ⟨MOle.refl _, trivial⟩
  · obtain rfl : i = l.length := by omega
    refine Run.go ?_; (conv => whnf); repeat' (first | ((with_reducible refine Know.mk fun _ => ?_); conv => whnf) | ((with_reducible refine Need.mk ?_ ?_); exact nd; conv => whnf) | ((with_reducible refine Both.mk ?_ ?_) <;> conv => whnf) | ((with_reducible refine Any.mk fun b hb => ?_); conv => whnf) | ((with_reducible first | refine AskB.dec (fun hb => ?_) (fun hb => ?_) | refine AskB.ndec (fun hb => ?_) (fun hb => ?_) | refine AskB.mk (fun hb => ?_) (fun hb => ?_)) <;> first | (exfalso; omega) | (conv => whnf)) | ((with_reducible first | refine Run.drawX rfl (by decide +kernel) ?_ | refine Run.drawT rfl (by decide +kernel) ?_ | refine Run.drawW rfl (by decide +kernel) ?_); conv => whnf) | fail)
    all_goals try (exfalso; omega)
    exact Run.leave (ts := [2,3]) (.inr ⟨_, rfl⟩) rfl Tryd.func47 rfl (resT ⟨Le.int (by rw [List.take_length]), Le.refl _, trivial⟩)
theorem atoi_dig (l : List UInt8) (h1 : 1 ≤ l.length) (h2 : l.length ≤ 9) (hd : ∀ i, i < l.length → dig (l.getD i 0) = true) : Fn Tryd.prog 37 [.str (bs l)] (tupL [.int .i64 (valD l : Int), .nilif]) := by
  refine Fn.of Tryd.f37 _ Tryd.func37 rfl (by decide) (by show 1 ≤ _; decide) tbOk 18 rfl fun S w0 gl => ?_
  refine Run.go ?_; (conv => whnf); repeat' (first | ((with_reducible refine Know.mk fun _ => ?_); conv => whnf) | ((with_reducible refine Need.mk ?_ ?_); exact nd; conv => whnf) | ((with_reducible first | refine Both.mk ?_ ?_ | refine Any.mk fun b hb => ?_ | refine AskB.dec (fun hb => ?_) (fun hb => ?_) | refine AskB.ndec (fun hb => ?_) (fun hb => ?_) | refine AskB.mk (fun hb => ?_) (fun hb => ?_)) <;> conv => whnf) | ((with_reducible first | refine Run.drawX rfl (by decide +kernel) ?_ | refine Run.drawT rfl (by decide +kernel) ?_ | refine Run.drawW rfl (by decide +kernel) ?_); conv => whnf) | fail)
  refine Run.callBX (atoiI_dig l h1 h2 hd) rfl rfl ⟨Le.refl _, trivial⟩ rfl rfl rfl ?_
  (conv => whnf); repeat' (first | ((with_reducible refine Know.mk fun _ => ?_); conv => whnf) | ((with_reducible refine Need.mk ?_ ?_); exact nd; conv => whnf) | ((with_reducible first | refine Both.mk ?_ ?_ | refine Any.mk fun b hb => ?_ | refine AskB.dec (fun hb => ?_) (fun hb => ?_) | refine AskB.ndec (fun hb => ?_) (fun hb => ?_) | refine AskB.mk (fun hb => ?_) (fun hb => ?_)) <;> conv => whnf) | ((with_reducible first | refine Run.drawX rfl (by decide +kernel) ?_ | refine Run.drawT rfl (by decide +kernel) ?_ | refine Run.drawW rfl (by decide +kernel) ?_); conv => whnf) | fail)
  refine Run.binIf (b := false) (vx := .nilIface) (vy := .nilIface) rfl rfl rfl rfl (fun w => if_nilnil (by kernel_rfl) w) rfl rfl ?_
  refine Run.go ?_; (conv => whnf); repeat' (first | ((with_reducible refine Know.mk fun _ => ?_); conv => whnf) | ((with_reducible refine Need.mk ?_ ?_); exact nd; conv => whnf) | ((with_reducible first | refine Both.mk ?_ ?_ | refine Any.mk fun b hb => ?_ | refine AskB.dec (fun hb => ?_) (fun hb => ?_) | refine AskB.ndec (fun hb => ?_) (fun hb => ?_) | refine AskB.mk (fun hb => ?_) (fun hb => ?_)) <;> conv => whnf) | ((with_reducible first | refine Run.drawX rfl (by decide +kernel) ?_ | refine Run.drawT rfl (by decide +kernel) ?_ | refine Run.drawW rfl (by decide +kernel) ?_); conv => whnf) | fail)
  all_goals try (cases hb; done)
  exact Run.leave (ts := [2,3]) (.inr ⟨_, rfl⟩) rfl Tryd.func37 rfl (resT ⟨Le.refl _, Le.refl _, trivial⟩)
end Go.Proofs.YtkdpmkjbfkjmdaaDoor.V

namespace Go.Proofs.YtkdpmkjbfkjmdaaDoor.V
set_option linter.unusedVariables false
set_option linter.unusedSimpArgs false
open Go Go.Proofs Go.RowKit
set_option maxRecDepth 100000
set_option maxHeartbeats 1000000
def tPc : Ty Pc := ⟨3, fun p j => match j with | 0 => .int .i64 p.kind | 1 => tS.L p.texts | _ => .int .i64 p.n, ⟨0, [], 0⟩⟩
/-- A content that must say something. -/
def CR.full : CR → CR
  | .bad k => .bad k
  | .ok t r => if t = [] then .bad r.length else .ok t r
def CR.resF (l : List UInt8) : CR → Res
  | .bad k => .pan (flt (l.length - k))
  | .ok t r => .ret (tS.L [bs t])
def PR.n (l : List UInt8) : PR → Nat
  | .bad k => l.length - k
  | .ok p r => l.length - r.length
def PR.res (l : List UInt8) : PR → Res
  | .bad k => .pan (flt (l.length - k))
  | .ok p r => .ret (.agg 3 (tPc.enc p))
theorem one_sl (e : TypeId) (x : ByteArray) (g : Nat → Nat → AV) (h : Le (g 0 0) (.str x)) : Le (.sl 1 1 g) (tS.L [x]) := Le.sl fun i j hi hj => by
  obtain rfl : i = 0 := by omega
  obtain rfl : j = 0 := by omega
  exact h
theorem full_fn (l : List UInt8) (i : Nat) (hi : i ≤ l.length) (hl : l.length ≤ 65536) : FnM Tryd.prog 40 51 (stA l i) [] (stA l ((cont (l.drop i)).full.n l)) ((cont (l.drop i)).full.resF l) := by
  have h := said_fn l i hi hl
  cases hc : cont (l.drop i) with
  | bad k =>
    rw [hc] at h
    refine FnM.of Tryd.f40 _ Tryd.func40 rfl (by decide) (by show 1 ≤ _; decide) tbOk 12 rfl fun S w g gl hg => ?_
    refine Run.go ?_; (conv => whnf); repeat' (first | ((with_reducible refine Know.mk fun _ => ?_); conv => whnf) | ((with_reducible refine Need.mk ?_ ?_); exact nd; conv => whnf) | ((with_reducible first | refine Both.mk ?_ ?_ | refine Any.mk fun b hb => ?_ | refine AskB.dec (fun hb => ?_) (fun hb => ?_) | refine AskB.ndec (fun hb => ?_) (fun hb => ?_) | refine AskB.mk (fun hb => ?_) (fun hb => ?_)) <;> conv => whnf) | ((with_reducible first | refine Run.drawX rfl (by decide +kernel) ?_ | refine Run.drawT rfl (by decide +kernel) ?_ | refine Run.drawW rfl (by decide +kernel) ?_); conv => whnf) | fail)
    refine Run.callMP 300 h rfl rfl rfl (MOle.refl _) rfl (by trivial) rfl rfl ?_
    apply Raises.lent (hw0 := by rfl) (hkeep := by rfl) (henv := by rfl) (hraw := by rfl) (hg := hg) (hf := Tryd.func40)
    · rfl
    · exact MOle.refl _
    · rfl
  | ok t r =>
    rw [hc] at h
    refine FnM.of Tryd.f40 _ Tryd.func40 rfl (by decide) (by show 1 ≤ _; decide) tbOk 12 rfl fun S w g gl hg => ?_
    refine Run.go ?_; (conv => whnf); repeat' (first | ((with_reducible refine Know.mk fun _ => ?_); conv => whnf) | ((with_reducible refine Need.mk ?_ ?_); exact nd; conv => whnf) | ((with_reducible first | refine Both.mk ?_ ?_ | refine Any.mk fun b hb => ?_ | refine AskB.dec (fun hb => ?_) (fun hb => ?_) | refine AskB.ndec (fun hb => ?_) (fun hb => ?_) | refine AskB.mk (fun hb => ?_) (fun hb => ?_)) <;> conv => whnf) | ((with_reducible first | refine Run.drawX rfl (by decide +kernel) ?_ | refine Run.drawT rfl (by decide +kernel) ?_ | refine Run.drawW rfl (by decide +kernel) ?_); conv => whnf) | fail)
    refine Run.callM 300 h rfl rfl rfl (MOle.refl _) rfl (by trivial) rfl rfl rfl ?_
    refine Run.go ?_; (conv => whnf); repeat' (first | ((with_reducible refine Know.mk fun _ => ?_); conv => whnf) | ((with_reducible refine Need.mk ?_ ?_); exact nd; conv => whnf) | ((with_reducible first | refine Both.mk ?_ ?_ | refine Any.mk fun b hb => ?_ | refine AskB.dec (fun hb => ?_) (fun hb => ?_) | refine AskB.ndec (fun hb => ?_) (fun hb => ?_) | refine AskB.mk (fun hb => ?_) (fun hb => ?_)) <;> conv => whnf) | ((with_reducible first | refine Run.drawX rfl (by decide +kernel) ?_ | refine Run.drawT rfl (by decide +kernel) ?_ | refine Run.drawW rfl (by decide +kernel) ?_); conv => whnf) | fail)
    · have ht : t = [] := bs_inj (by assumption)
      subst ht
      refine Run.callMP 300 (fail_fn l (l.length - r.length)) rfl rfl rfl (MOle.refl _) rfl (by trivial) rfl rfl ?_
      apply Raises.lent (hw0 := by rfl) (hkeep := by rfl) (henv := by rfl) (hraw := by rfl) (hg := hg) (hf := Tryd.func40)
      · rfl
      · exact MOle.refl _
      · rfl
    · have ht : t ≠ [] := fun e => by
        subst e
        exact absurd rfl (by assumption)
      have hf : (CR.ok t r).full = .ok t r := if_neg ht
      apply Run.leaveM (ts := [2]) (hk := by first | exact .inr ⟨_, rfl⟩ | exact .inl rfl) (hw0 := by rfl) (hkeep := by rfl) (henv := by rfl) (hraw := by rfl) (hg := hg) (hf := Tryd.func40) (hres := by rfl)
      · show PostM S w g _ (stA l ((CR.ok t r).full.n l)) ((CR.ok t r).full.resF l) = _
        rw [hf]; rfl
      · exact MOle.refl _
      · rfl
      · exact one_sl 5 _ _ (Le.refl _)
end Go.Proofs.YtkdpmkjbfkjmdaaDoor.V

namespace Go.Proofs.YtkdpmkjbfkjmdaaDoor.V
set_option linter.unusedVariables false
set_option linter.unusedSimpArgs false
open Go Go.Proofs Go.RowKit
set_option maxRecDepth 100000
set_option maxHeartbeats 1000000
theorem suf_drop {l r : List UInt8} (h : r <:+ l) : l.drop (l.length - r.length) = r := (List.suffix_iff_eq_drop.mp h).symm
theorem suf_le {l r : List UInt8} (h : r <:+ l) : r.length ≤ l.length := h.length_le
theorem suf_cons {l r : List UInt8} {c : UInt8} (h : (c :: r) <:+ l) : r <:+ l := (List.suffix_cons c r).trans h
theorem suf_at {l r : List UInt8} {c : UInt8} (h : (c :: r) <:+ l) : l.getD (l.length - (c :: r).length) 0 = c := by
  have h1 := suf_drop h
  have h2 := suf_le h
  rw [drop_get l _ (by simp only [List.length_cons] at h2 ⊢; omega)] at h1
  exact (List.cons.inj h1).1
theorem cont_suf : ∀ (n : Nat) (l : List UInt8), l.length ≤ n → ∀ {t r}, cont l = .ok t r → r <:+ l
  | n, [], _, t, r, h => by cases h; exact List.suffix_refl _
  | 0, c :: l, hn, _, _, _ => absurd hn (by simp)
  | n + 1, c :: l, hn, t, r, h => by
    have hpush : ∀ (x : CR) (d : UInt8), x.push d = .ok t r → ∃ t', x = .ok t' r := by
      intro x d hx
      cases x with
      | bad k => cases hx
      | ok t' r' => cases hx; exact ⟨t', rfl⟩
    simp only [List.length_cons] at hn
    by_cases h2 : isMk c = true
    · by_cases h1 : c = 92
      · subst h1
        cases l with
        | nil => rw [cont_end] at h; cases h
        | cons d l =>
          simp only [List.length_cons] at hn
          by_cases hd : isMk d = true
          · rw [cont_esc l hd] at h
            obtain ⟨t', h'⟩ := hpush _ _ h
            exact (cont_suf n l (by omega) h').trans ((List.suffix_cons d l).trans (List.suffix_cons 92 _))
          · rw [cont_bad l hd] at h; cases h
      · rw [cont_stop l h1 h2] at h
        cases h
        exact List.suffix_refl _
    · rw [cont_plain l h2] at h
      obtain ⟨t', h'⟩ := hpush _ _ h
      exact (cont_suf n l (by omega) h').trans (List.suffix_cons c l)
theorem full_ok {x : CR} {t r : List UInt8} (h : x.full = .ok t r) : x = .ok t r ∧ t ≠ [] := by
  cases x with
  | bad k => cases h
  | ok t' r' =>
    have h' : (if t' = [] then CR.bad r'.length else CR.ok t' r') = .ok t r := h
    by_cases ht : t' = []
    · rw [if_pos ht] at h'; cases h'
    · rw [if_neg ht] at h'; cases h'; exact ⟨rfl, ht⟩
theorem dimR_eq (r : List UInt8) : dimR r = match (cont r).full with
    | .bad k => .bad k
    | .ok t r' => wantR 62 ⟨4, [bs t], 0⟩ r' := by
  unfold dimR CR.full
  cases cont r with
  | bad k => rfl
  | ok t r' => dsimp only; split <;> rfl
theorem plainR_eq (r : List UInt8) : plainR r = match (cont r).full with
    | .bad k => .bad k
    | .ok t r' => .ok ⟨1, [bs t], 0⟩ r' := by
  unfold plainR CR.full
  cases cont r with
  | bad k => rfl
  | ok t r' => dsimp only; split <;> rfl
def PR.resW (l : List UInt8) : PR → Res
  | .bad k => .pan (flt (l.length - k))
  | .ok p r => .ret (.tup 0 fun _ => .u)
theorem want_fn (l r : List UInt8) (c : UInt8) (p : Pc) (hr : r <:+ l) (hl : l.length ≤ 65536) : FnM Tryd.prog 39 51 (stA l (l.length - r.length)) [.int .u8 (c.toNat : Int)] (stA l ((wantR c p r).n l)) ((wantR c p r).resW l) := by
  cases r with
  | nil => exact want_no l _ c (by simp) hl (.inl (by simp))
  | cons d r =>
    have h1 := suf_at hr
    have h2 := suf_le hr
    simp only [List.length_cons] at h2
    rw [show wantR c p (d :: r) = if d = c then .ok p r else .bad (r.length + 1) from rfl]
    by_cases hd : d = c
    · rw [if_pos hd]
      have h3 : l.length - (d :: r).length + 1 = l.length - r.length := by simp only [List.length_cons]; omega
      have := want_yes l (l.length - (d :: r).length) c (by simp only [List.length_cons]; omega) hl (by rw [h1, hd])
      rw [h3] at this
      exact this
    · rw [if_neg hd]
      exact want_no l _ c (by omega) hl (.inr (by rw [h1]; exact hd))
theorem peek_is (l : List UInt8) (i : Nat) (c : UInt8) (hi : i ≤ l.length) (hl : l.length ≤ 65536) (hc : l.getD i 0 = c) : FnM Tryd.prog 36 51 (stA l i) [] (stA l i) (.ret (.int .u8 (c.toNat : Int))) := by
  have := peek_fn l i hi hl
  unfold pk at this
  rwa [hc] at this
theorem pc_le {g : Nat → AV} {p : Pc} (h0 : Le (g 0) (.int .i64 p.kind)) (h1 : Le (g 1) (tS.L p.texts)) (h2 : Le (g 2) (.int .i64 p.n)) : Le (.agg 3 g) (.agg 3 (tPc.enc p)) := Le.agg fun j hj => by
  match j, hj with
  | 0, _ => exact h0
  | 1, _ => exact h1
  | 2, _ => exact h2
theorem hR_pbad {S : Nat → Prop} {w : World} {g : Nat} {t : TypeId} {l : List UInt8} {x : PR} {k n : Nat} (h : x = .bad k) (hn : l.length - k = n) : PostM S w g t (stA l (x.n l)) (x.res l) = PostM S w g t (stA l n) (.pan (flt n)) := by
  subst h; subst hn; rfl
theorem hR_pok {S : Nat → Prop} {w : World} {g : Nat} {t : TypeId} {l r : List UInt8} {x : PR} {p : Pc} (h : x = .ok p r) : PostM S w g t (stA l (x.n l)) (x.res l) = PostM S w g t (stA l (l.length - r.length)) (.ret (.agg 3 (tPc.enc p))) := by
  subst h; rfl
theorem piece_plain (l : List UInt8) (i : Nat) (hi : i < l.length) (hl : l.length ≤ 65536) (h1 : l.getD i 0 ≠ 91) (h2 : l.getD i 0 ≠ 60) (h3 : l.getD i 0 ≠ 123) : FnM Tryd.prog 20 51 (stA l i) [] (stA l ((plainR (l.drop i)).n l)) ((plainR (l.drop i)).res l) := by
  have hpk := peek_is l i _ (by omega) hl rfl
  have hf := full_fn l i (by omega) hl
  generalize hcc : l.getD i 0 = c at h1 h2 h3 hpk
  have k1 : c.toNat ≠ 91 := fun e => h1 (UInt8.toNat.inj e)
  have k2 : c.toNat ≠ 60 := fun e => h2 (UInt8.toNat.inj e)
  have k3 : c.toNat ≠ 123 := fun e => h3 (UInt8.toNat.inj e)
  refine FnM.of Tryd.f20 _ Tryd.func20 rfl (by decide) (by show 1 ≤ _; decide) tbOk 187 rfl fun S w g gl hg => ?_
  refine Run.go ?_; (conv => whnf); repeat' (first | ((with_reducible refine Know.mk fun _ => ?_); conv => whnf) | ((with_reducible refine Need.mk ?_ ?_); exact nd; conv => whnf) | ((with_reducible first | refine Both.mk ?_ ?_ | refine Any.mk fun b hb => ?_ | refine AskB.dec (fun hb => ?_) (fun hb => ?_) | refine AskB.ndec (fun hb => ?_) (fun hb => ?_) | refine AskB.mk (fun hb => ?_) (fun hb => ?_)) <;> conv => whnf) | ((with_reducible first | refine Run.drawX rfl (by decide +kernel) ?_ | refine Run.drawT rfl (by decide +kernel) ?_ | refine Run.drawW rfl (by decide +kernel) ?_); conv => whnf) | fail)
  refine Run.callM 300 hpk rfl rfl rfl (MOle.refl _) rfl (by trivial) rfl rfl rfl ?_
  refine Run.go ?_; (conv => whnf); repeat' (first | ((with_reducible refine Know.mk fun _ => ?_); conv => whnf) | ((with_reducible refine Need.mk ?_ ?_); exact nd; conv => whnf) | ((with_reducible refine Both.mk ?_ ?_) <;> conv => whnf) | ((with_reducible refine Any.mk fun b hb => ?_); conv => whnf) | ((with_reducible first | refine AskB.dec (fun hb => ?_) (fun hb => ?_) | refine AskB.ndec (fun hb => ?_) (fun hb => ?_) | refine AskB.mk (fun hb => ?_) (fun hb => ?_)) <;> first | (exfalso; omega) | (conv => whnf)) | ((with_reducible first | refine Run.drawX rfl (by decide +kernel) ?_ | refine Run.drawT rfl (by decide +kernel) ?_ | refine Run.drawW rfl (by decide +kernel) ?_); conv => whnf) | fail)
  all_goals try (exfalso; omega)
  have he := plainR_eq (l.drop i)
  cases hx : (cont (l.drop i)).full with
  | bad k =>
    rw [hx] at hf he
    refine Run.callMP 300 hf rfl rfl rfl (MOle.refl _) rfl (by trivial) rfl rfl ?_
    apply Raises.lent (hw0 := by rfl) (hkeep := by rfl) (henv := by rfl) (hraw := by rfl) (hg := hg) (hf := Tryd.func20)
    · exact hR_pbad he rfl
    · exact MOle.refl _
    · rfl
  | ok t r =>
    rw [hx] at hf he
    refine Run.callM 300 hf rfl rfl rfl (MOle.refl _) rfl (by trivial) rfl rfl rfl ?_
    refine Run.go ?_; (conv => whnf); repeat' (first | ((with_reducible refine Know.mk fun _ => ?_); conv => whnf) | ((with_reducible refine Need.mk ?_ ?_); exact nd; conv => whnf) | ((with_reducible first | refine Both.mk ?_ ?_ | refine Any.mk fun b hb => ?_ | refine AskB.dec (fun hb => ?_) (fun hb => ?_) | refine AskB.ndec (fun hb => ?_) (fun hb => ?_) | refine AskB.mk (fun hb => ?_) (fun hb => ?_)) <;> conv => whnf) | ((with_reducible first | refine Run.drawX rfl (by decide +kernel) ?_ | refine Run.drawT rfl (by decide +kernel) ?_ | refine Run.drawW rfl (by decide +kernel) ?_); conv => whnf) | fail)
    apply Run.leaveMC (hk := by first | exact .inr ⟨_, rfl⟩ | exact .inl rfl) (hw0 := by rfl) (hkeep := by rfl) (henv := by rfl) (hraw := by rfl) (hg := hg) (hf := Tryd.func20) (hres := by rfl) (hp := by rfl) (hag := by rfl) (hm := Nat.le_of_ble_eq_true rfl)
    · exact hR_pok he
    · exact MOle.refl _
    · rfl
    · exact pc_le (Le.refl _) (Le.refl _) (Le.refl _)
theorem piece_dim (l : List UInt8) (i : Nat) (hi : i < l.length) (hl : l.length ≤ 65536) (h1 : l.getD i 0 = 60) : FnM Tryd.prog 20 51 (stA l i) [] (stA l ((dimR (l.drop (i + 1))).n l)) ((dimR (l.drop (i + 1))).res l) := by
  have hpk : FnM Tryd.prog 36 51 (stA l i) [] (stA l i) (.ret (.int .u8 60)) := peek_is l i 60 (by omega) hl h1
  have hf := full_fn l (i + 1) (by omega) hl
  have hw1 : IntKind.i64.wrap ((i : Int) + 1) = ((i + 1 : Nat) : Int) := wrap64 (by omega) (by omega)
  refine FnM.of Tryd.f20 _ Tryd.func20 rfl (by decide) (by show 1 ≤ _; decide) tbOk 187 rfl fun S w g gl hg => ?_
  refine Run.go ?_; (conv => whnf); repeat' (first | ((with_reducible refine Know.mk fun _ => ?_); conv => whnf) | ((with_reducible refine Need.mk ?_ ?_); exact nd; conv => whnf) | ((with_reducible first | refine Both.mk ?_ ?_ | refine Any.mk fun b hb => ?_ | refine AskB.dec (fun hb => ?_) (fun hb => ?_) | refine AskB.ndec (fun hb => ?_) (fun hb => ?_) | refine AskB.mk (fun hb => ?_) (fun hb => ?_)) <;> conv => whnf) | ((with_reducible first | refine Run.drawX rfl (by decide +kernel) ?_ | refine Run.drawT rfl (by decide +kernel) ?_ | refine Run.drawW rfl (by decide +kernel) ?_); conv => whnf) | fail)
  refine Run.callM 300 hpk rfl rfl rfl (MOle.refl _) rfl (by trivial) rfl rfl rfl ?_
  refine Run.go ?_; (conv => whnf); repeat' (first | ((with_reducible refine Know.mk fun _ => ?_); conv => whnf) | ((with_reducible refine Need.mk ?_ ?_); exact nd; conv => whnf) | ((with_reducible refine Both.mk ?_ ?_) <;> conv => whnf) | ((with_reducible refine Any.mk fun b hb => ?_); conv => whnf) | ((with_reducible first | refine AskB.dec (fun hb => ?_) (fun hb => ?_) | refine AskB.ndec (fun hb => ?_) (fun hb => ?_) | refine AskB.mk (fun hb => ?_) (fun hb => ?_)) <;> first | (exfalso; omega) | (conv => whnf)) | ((with_reducible first | refine Run.drawX rfl (by decide +kernel) ?_ | refine Run.drawT rfl (by decide +kernel) ?_ | refine Run.drawW rfl (by decide +kernel) ?_); conv => whnf) | fail)
  all_goals try (exfalso; omega)
  have he := dimR_eq (l.drop (i + 1))
  cases hx : (cont (l.drop (i + 1))).full with
  | bad k =>
    rw [hx] at hf he
    refine Run.callMP 300 hf rfl rfl rfl (st_le hw1) rfl (by trivial) rfl rfl ?_
    apply Raises.lent (hw0 := by rfl) (hkeep := by rfl) (henv := by rfl) (hraw := by rfl) (hg := hg) (hf := Tryd.func20)
    · exact hR_pbad he rfl
    · exact MOle.refl _
    · rfl
  | ok t r =>
    rw [hx] at hf he
    simp only [] at he
    have hsr : r <:+ l := (cont_suf _ _ (Nat.le_refl _) (full_ok hx).1).trans (List.drop_suffix _ _)
    have hwt := want_fn l r 62 ⟨4, [bs t], 0⟩ hsr hl
    refine Run.callM 300 hf rfl rfl rfl (st_le hw1) rfl (by trivial) rfl rfl rfl ?_
    refine Run.go ?_; (conv => whnf); repeat' (first | ((with_reducible refine Know.mk fun _ => ?_); conv => whnf) | ((with_reducible refine Need.mk ?_ ?_); exact nd; conv => whnf) | ((with_reducible first | refine Both.mk ?_ ?_ | refine Any.mk fun b hb => ?_ | refine AskB.dec (fun hb => ?_) (fun hb => ?_) | refine AskB.ndec (fun hb => ?_) (fun hb => ?_) | refine AskB.mk (fun hb => ?_) (fun hb => ?_)) <;> conv => whnf) | ((with_reducible first | refine Run.drawX rfl (by decide +kernel) ?_ | refine Run.drawT rfl (by decide +kernel) ?_ | refine Run.drawW rfl (by decide +kernel) ?_); conv => whnf) | fail)
    cases hy : wantR 62 ⟨4, [bs t], 0⟩ r with
    | bad k =>
      rw [hy] at hwt he
      refine Run.callMP 300 hwt rfl rfl rfl (MOle.refl _) rfl ⟨Le.refl _, trivial⟩ rfl rfl ?_
      apply Raises.lent (hw0 := by rfl) (hkeep := by rfl) (henv := by rfl) (hraw := by rfl) (hg := hg) (hf := Tryd.func20)
      · exact hR_pbad he rfl
      · exact MOle.refl _
      · rfl
    | ok q r2 =>
      obtain ⟨hlt, rfl, rfl⟩ := wantR_le.2 hy
      rw [hy] at hwt he
      refine Run.callM 300 hwt rfl rfl rfl (MOle.refl _) rfl ⟨Le.refl _, trivial⟩ rfl rfl rfl ?_
      refine Run.go ?_; (conv => whnf); repeat' (first | ((with_reducible refine Know.mk fun _ => ?_); conv => whnf) | ((with_reducible refine Need.mk ?_ ?_); exact nd; conv => whnf) | ((with_reducible first | refine Both.mk ?_ ?_ | refine Any.mk fun b hb => ?_ | refine AskB.dec (fun hb => ?_) (fun hb => ?_) | refine AskB.ndec (fun hb => ?_) (fun hb => ?_) | refine AskB.mk (fun hb => ?_) (fun hb => ?_)) <;> conv => whnf) | ((with_reducible first | refine Run.drawX rfl (by decide +kernel) ?_ | refine Run.drawT rfl (by decide +kernel) ?_ | refine Run.drawW rfl (by decide +kernel) ?_); conv => whnf) | fail)
      apply Run.leaveMC (hk := by first | exact .inr ⟨_, rfl⟩ | exact .inl rfl) (hw0 := by rfl) (hkeep := by rfl) (henv := by rfl) (hraw := by rfl) (hg := hg) (hf := Tryd.func20) (hres := by rfl) (hp := by rfl) (hag := by rfl) (hm := Nat.le_of_ble_eq_true rfl)
      · exact hR_pok he
      · exact MOle.refl _
      · rfl
      · exact pc_le (Le.refl _) (Le.refl _) (Le.refl _)
end Go.Proofs.YtkdpmkjbfkjmdaaDoor.V

namespace Go.Proofs.YtkdpmkjbfkjmdaaDoor.V
set_option linter.unusedVariables false
set_option linter.unusedSimpArgs false
open Go Go.Proofs Go.RowKit
set_option maxRecDepth 100000
set_option maxHeartbeats 1000000
/-- How many digits are taken. -/
def ndL : List UInt8 → Nat
  | [] => 0
  | [d] => if dig d = true ∧ d ≠ 48 then 1 else 0
  | d :: e :: r => if dig d = true ∧ d ≠ 48 then (if dig e = true then 2 else 1) else 0
theorem dig_iff (c : UInt8) : dig c = true ↔ 48 ≤ c.toNat ∧ c.toNat ≤ 57 := decide_eq_true_iff
theorem ne48 (c : UInt8) : c ≠ 48 ↔ c.toNat ≠ 48 := ⟨fun h e => h (UInt8.toNat.inj e), fun h e => h (by rw [e]; rfl)⟩
theorem ndL1 (d : UInt8) : ndL [d] = if dig d = true ∧ d ≠ 48 then 1 else 0 := rfl
theorem ndL2 (d e : UInt8) (r : List UInt8) : ndL (d :: e :: r) = if dig d = true ∧ d ≠ 48 then (if dig e = true then 2 else 1) else 0 := rfl
theorem gapN1 (d : UInt8) : gapN [d] = if dig d = true ∧ d ≠ 48 then (d.toNat - 48, []) else (0, [d]) := rfl
theorem gapN2 (d e : UInt8) (r : List UInt8) : gapN (d :: e :: r) = if dig d = true ∧ d ≠ 48 then (if dig e = true then (10 * (d.toNat - 48) + (e.toNat - 48), r) else (d.toNat - 48, e :: r)) else (0, d :: e :: r) := rfl
theorem gapN_eq (r : List UInt8) : gapN r = (valD (r.take (ndL r)), r.drop (ndL r)) := by
  match r with
  | [] => rfl
  | [d] =>
    rw [ndL1, gapN1]
    split <;> simp [valD]
  | d :: e :: r =>
    rw [ndL2, gapN2]
    split
    · split <;> simp [valD]
    · simp [valD]
theorem nd_step (r : List UInt8) (j : Nat) (hj : j ≤ ndL r) : j < ndL r ↔ j < 2 ∧ j < r.length ∧ 48 ≤ (r.getD j 0).toNat ∧ (r.getD j 0).toNat ≤ 57 ∧ ¬ (j = 0 ∧ (r.getD j 0).toNat = 48) := by
  match r with
  | [] => simp [ndL]
  | [d] =>
    simp only [ndL1, dig_iff, ne48] at hj ⊢
    match j with
    | 0 =>
      simp only [List.getD_cons_zero, List.length_cons, List.length_nil]
      by_cases h : (48 ≤ d.toNat ∧ d.toNat ≤ 57) ∧ d.toNat ≠ 48
      · rw [if_pos h]
        exact ⟨fun _ => by omega, fun _ => by omega⟩
      · rw [if_neg h]
        exact ⟨fun h' => absurd h' (Nat.lt_irrefl _), fun ⟨_, _, a, b, c⟩ => absurd ⟨⟨a, b⟩, fun e => c ⟨trivial, e⟩⟩ h⟩
    | j + 1 => simp only [List.length_cons, List.length_nil]; split at hj <;> split <;> omega
  | d :: e :: r =>
    simp only [ndL2, dig_iff, ne48] at hj ⊢
    match j with
    | 0 =>
      simp only [List.getD_cons_zero, List.length_cons]
      by_cases h : (48 ≤ d.toNat ∧ d.toNat ≤ 57) ∧ d.toNat ≠ 48
      · rw [if_pos h]
        exact ⟨fun _ => by omega, fun _ => by split <;> omega⟩
      · rw [if_neg h]
        exact ⟨fun h' => absurd h' (Nat.lt_irrefl _), fun ⟨_, _, a, b, c⟩ => absurd ⟨⟨a, b⟩, fun e => c ⟨trivial, e⟩⟩ h⟩
    | 1 => simp only [List.getD_cons_succ, List.getD_cons_zero, List.length_cons]; split at hj <;> (try split at hj) <;> (try split) <;> (try split) <;> omega
    | j + 2 => simp only [List.length_cons]; split at hj <;> (try split at hj) <;> (try split) <;> (try split) <;> omega
theorem nd_le (r : List UInt8) : ndL r ≤ r.length ∧ ndL r ≤ 2 := by
  match r with
  | [] => exact ⟨Nat.le_refl _, by decide⟩
  | [d] => rw [ndL1]; split <;> simp
  | d :: e :: r => rw [ndL2]; split <;> (try split) <;> simp
theorem nd_dig (r : List UInt8) (j : Nat) (hj : j < ndL r) : dig (r.getD j 0) = true := by
  have := (nd_step r j (by omega)).mp hj
  rw [dig_iff]; omega
theorem Fn.up {P : Program} {f : FuncId} {args : List AV} {r r' : AV} (h : Fn P f args r) (hle : Le r r') : Fn P f args r' :=
  ⟨h.there, fun S w vs h1 h2 h3 h4 cs => by
    obtain ⟨e, w', fr, ⟨v, rfl, hb, hv⟩, rest⟩ := h.calls S w vs h1 h2 h3 h4 cs
    exact ⟨_, w', fr, ⟨v, rfl, hb, hle _ _ _ _ hv⟩, rest⟩⟩
theorem atoi_nd (r : List UInt8) : Fn Tryd.prog 37 [.str (bs (r.take (ndL r)))] (tupL [.int .i64 (valD (r.take (ndL r)) : Int), .u]) := by
  have h := nd_le r
  by_cases h0 : ndL r = 0
  · rw [h0]; exact atoi0_fn
  · refine (atoi_dig _ (by rw [List.length_take]; omega) (by rw [List.length_take]; omega) (fun i hi => ?_)).up (Le.tupL ⟨Le.refl _, Le.u _, trivial⟩)
    rw [List.length_take] at hi
    have := nd_dig r i (by omega)
    rw [List.getD, List.getElem?_take, if_pos (by omega)]
    exact this
theorem piece_gap (l : List UInt8) (i : Nat) (hi : i < l.length) (hl : l.length ≤ 65536) (h1 : l.getD i 0 = 91) : FnM Tryd.prog 20 51 (stA l i) [] (stA l ((gapR (l.drop (i + 1))).n l)) ((gapR (l.drop (i + 1))).res l) := by
  have hpk : FnM Tryd.prog 36 51 (stA l i) [] (stA l i) (.ret (.int .u8 91)) := peek_is l i 91 (by omega) hl h1
  have hw1 : IntKind.i64.wrap ((i : Int) + 1) = ((i + 1 : Nat) : Int) := wrap64 (by omega) (by omega)
  have hs := bs_size l
  generalize hr : l.drop (i + 1) = r
  have hrl : r.length = l.length - (i + 1) := by rw [← hr, List.length_drop]
  have hnl := nd_le r
  have hst := nd_step r
  have hat := atoi_nd r
  have hgn := gapN_eq r
  generalize ndL r = m at hnl hst hat hgn
  have hv99 : valD (r.take m) ≤ 99 := by have := (gapN_le r).2; rw [hgn] at this; exact this
  have hgl : ((gapN r).2).length = l.length - (i + 1 + m) := by rw [hgn, List.length_drop]; omega
  have hgv : (gapN r).1 = valD (r.take m) := by rw [hgn]
  have hgs : (gapN r).2 <:+ l := by rw [hgn, ← hr]; exact (List.drop_suffix _ _).trans (List.drop_suffix _ _)
  have hwt := want_fn l (gapN r).2 93 ⟨2, [], ((gapN r).1 : Int)⟩ hgs hl
  have hfl := fail_fn l (i + 1 + m)
  rw [hgl, show l.length - (l.length - (i + 1 + m)) = i + 1 + m by omega] at hwt
  refine FnM.of Tryd.f20 _ Tryd.func20 rfl (by decide) (by show 1 ≤ _; decide) tbOk 187 rfl fun S w g gl hg => ?_
  refine Run.go ?_; (conv => whnf); repeat' (first | ((with_reducible refine Know.mk fun _ => ?_); conv => whnf) | ((with_reducible refine Need.mk ?_ ?_); exact nd; conv => whnf) | ((with_reducible first | refine Both.mk ?_ ?_ | refine Any.mk fun b hb => ?_ | refine AskB.dec (fun hb => ?_) (fun hb => ?_) | refine AskB.ndec (fun hb => ?_) (fun hb => ?_) | refine AskB.mk (fun hb => ?_) (fun hb => ?_)) <;> conv => whnf) | ((with_reducible first | refine Run.drawX rfl (by decide +kernel) ?_ | refine Run.drawT rfl (by decide +kernel) ?_ | refine Run.drawW rfl (by decide +kernel) ?_); conv => whnf) | fail)
  refine Run.callM 300 hpk rfl rfl rfl (MOle.refl _) rfl (by trivial) rfl rfl rfl ?_
  refine Run.go ?_; (conv => whnf); repeat' (first | ((with_reducible refine Know.mk fun _ => ?_); conv => whnf) | ((with_reducible refine Need.mk ?_ ?_); exact nd; conv => whnf) | ((with_reducible refine Both.mk ?_ ?_) <;> conv => whnf) | ((with_reducible refine Any.mk fun b hb => ?_); conv => whnf) | ((with_reducible first | refine AskB.dec (fun hb => ?_) (fun hb => ?_) | refine AskB.ndec (fun hb => ?_) (fun hb => ?_) | refine AskB.mk (fun hb => ?_) (fun hb => ?_)) <;> first | (exfalso; omega) | (conv => whnf)) | ((with_reducible first | refine Run.drawX rfl (by decide +kernel) ?_ | refine Run.drawT rfl (by decide +kernel) ?_ | refine Run.drawW rfl (by decide +kernel) ?_); conv => whnf) | fail)
  all_goals try (exfalso; omega)
  refine Run.loop [0, 2] (fun (j : Nat) => [(3, .int .i64 ((i + 1 : Nat) : Int))]) (fun j => [(300, .box 51 (stA l (i + 1 + j))), (301, .raw w (g + 1) w.heap.size), (2, .box 34 [.int .i64 0, .nils, .int .i64 0])]) (fun j => j ≤ m) (fun j => m - j) 0 (Nat.zero_le _) ⟨Le.int hw1, trivial⟩ ⟨st_le hw1, MOle.refl _, MOle.refl _, trivial⟩ ?_
  intro j hj IH
  have hnd := hst j hj
  have hw2 : IntKind.i64.wrap (((i + 1 : Nat) : Int) + 2) = ((i + 3 : Nat) : Int) := wrap64 (by omega) (by omega)
  have hw3 : IntKind.i64.wrap (((i + 1 + j : Nat) : Int) + 1) = ((i + 1 + (j + 1) : Nat) : Int) := by rw [wrap64 (by omega) (by omega)]; omega
  have hbt : bt (bs l) (((i + 1 + j : Nat) : Int)).toNat = ((l.getD (i + 1 + j) 0).toNat : Int) := bt_at l _
  have hrj : r.getD j 0 = l.getD (i + 1 + j) 0 := by
    rw [← hr, List.getD, List.getElem?_drop]; rfl
  rw [hrj] at hnd
  generalize (l.getD (i + 1 + j) 0).toNat = x at hbt hnd
  refine Run.go ?_; (conv => whnf); repeat' (first | ((with_reducible refine Know.mk fun _ => ?_); conv => whnf) | ((with_reducible refine Need.mk ?_ ?_); exact nd; conv => whnf) | ((with_reducible refine Both.mk ?_ ?_) <;> conv => whnf) | ((with_reducible refine Any.mk fun b hb => ?_); conv => whnf) | ((with_reducible first | refine AskB.dec (fun hb => ?_) (fun hb => ?_) | refine AskB.ndec (fun hb => ?_) (fun hb => ?_) | refine AskB.mk (fun hb => ?_) (fun hb => ?_)) <;> first | (exfalso; omega) | (conv => whnf)) | ((with_reducible first | refine Run.drawX rfl (by decide +kernel) ?_ | refine Run.drawT rfl (by decide +kernel) ?_ | refine Run.drawW rfl (by decide +kernel) ?_); conv => whnf) | fail)
  all_goals try (exfalso; omega)
  all_goals first
    | (refine Run.to _ _ ?_ ?_ (IH (j + 1) (by omega) (by omega))
       · exact ⟨Le.refl _, Le.refl _, Le.refl _, trivial⟩
       · exact ⟨st_le hw3, MOle.refl _, MOle.refl _, trivial⟩)
    | skip
  all_goals
    obtain rfl : j = m := by omega
    refine CallQ.flat hat rfl ⟨Le.str ?_, trivial⟩ rfl ?_
    · rw [bs_extract, ← hr]
      simp only [Int.toNat_natCast]
      rw [show i + 1 + j - (i + 1) = j by omega]
    (conv => whnf); repeat' (first | ((with_reducible refine Know.mk fun _ => ?_); conv => whnf) | ((with_reducible refine Need.mk ?_ ?_); exact nd; conv => whnf) | ((with_reducible first | refine Both.mk ?_ ?_ | refine Any.mk fun b hb => ?_ | refine AskB.dec (fun hb => ?_) (fun hb => ?_) | refine AskB.ndec (fun hb => ?_) (fun hb => ?_) | refine AskB.mk (fun hb => ?_) (fun hb => ?_)) <;> conv => whnf) | ((with_reducible first | refine Run.drawX rfl (by decide +kernel) ?_ | refine Run.drawT rfl (by decide +kernel) ?_ | refine Run.drawW rfl (by decide +kernel) ?_); conv => whnf) | fail)
    · have hz : (gapN r).1 = 0 := by rw [hgv]; omega
      refine Run.callMP 300 hfl rfl rfl rfl (MOle.refl _) rfl (by trivial) rfl rfl ?_
      apply Raises.lent (hw0 := by rfl) (hkeep := by rfl) (henv := by rfl) (hraw := by rfl) (hg := hg) (hf := Tryd.func20)
      · exact hR_pbad (k := l.length - (i + 1 + j)) (by unfold gapR; rw [if_pos hz, hgl]) (by omega)
      · exact MOle.refl _
      · rfl
    · have hz : ¬ (gapN r).1 = 0 := by rw [hgv]; omega
      have he : gapR r = wantR 93 ⟨2, [], ((gapN r).1 : Int)⟩ (gapN r).2 := by unfold gapR; rw [if_neg hz]
      cases hy : wantR 93 ⟨2, [], ((gapN r).1 : Int)⟩ (gapN r).2 with
      | bad k =>
        rw [hy] at hwt he
        refine Run.callMP 300 hwt rfl rfl rfl (MOle.refl _) rfl ⟨Le.refl _, trivial⟩ rfl rfl ?_
        apply Raises.lent (hw0 := by rfl) (hkeep := by rfl) (henv := by rfl) (hraw := by rfl) (hg := hg) (hf := Tryd.func20)
        · exact hR_pbad he rfl
        · exact MOle.refl _
        · rfl
      | ok q r2 =>
        obtain ⟨hlt, rfl, hrr⟩ := wantR_le.2 hy
        rw [hy] at hwt he
        refine Run.callM 300 hwt rfl rfl rfl (MOle.refl _) rfl ⟨Le.refl _, trivial⟩ rfl rfl rfl ?_
        refine Run.go ?_; (conv => whnf); repeat' (first | ((with_reducible refine Know.mk fun _ => ?_); conv => whnf) | ((with_reducible refine Need.mk ?_ ?_); exact nd; conv => whnf) | ((with_reducible first | refine Both.mk ?_ ?_ | refine Any.mk fun b hb => ?_ | refine AskB.dec (fun hb => ?_) (fun hb => ?_) | refine AskB.ndec (fun hb => ?_) (fun hb => ?_) | refine AskB.mk (fun hb => ?_) (fun hb => ?_)) <;> conv => whnf) | ((with_reducible first | refine Run.drawX rfl (by decide +kernel) ?_ | refine Run.drawT rfl (by decide +kernel) ?_ | refine Run.drawW rfl (by decide +kernel) ?_); conv => whnf) | fail)
        apply Run.leaveMC (hk := by first | exact .inr ⟨_, rfl⟩ | exact .inl rfl) (hw0 := by rfl) (hkeep := by rfl) (henv := by rfl) (hraw := by rfl) (hg := hg) (hf := Tryd.func20) (hres := by rfl) (hp := by rfl) (hag := by rfl) (hm := Nat.le_of_ble_eq_true rfl)
        · exact hR_pok he
        · exact MOle.refl _
        · rfl
        · exact pc_le (Le.refl _) (tS.nil) (Le.int (by rw [hgv]))
end Go.Proofs.YtkdpmkjbfkjmdaaDoor.V

namespace Go.Proofs.YtkdpmkjbfkjmdaaDoor.V
set_option linter.unusedVariables false
set_option linter.unusedSimpArgs false
open Go Go.Proofs Go.RowKit
set_option maxRecDepth 100000
set_option maxHeartbeats 1000000
/-- Behind a hand's text. -/
def fixA : Nat → List ByteArray → List UInt8 → PR
  | _, ts, [] => fixEnd ts []
  | 0, ts, c :: r => fixEnd ts (c :: r)
  | f + 1, ts, c :: r => if c = 124 then fixR f ts r else fixEnd ts (c :: r)
theorem fixR_eq (f : Nat) (ts : List ByteArray) (r : List UInt8) : fixR f ts r = match cont r with
    | .bad k => .bad k
    | .ok t r' => fixA f (ts ++ [bs t]) r' := by
  cases f with
  | zero =>
    unfold fixR
    cases cont r with
    | bad k => rfl
    | ok t r' => cases r' <;> rfl
  | succ f =>
    unfold fixR
    cases cont r with
    | bad k => rfl
    | ok t r' => cases r' <;> rfl
theorem piece_fix (l : List UInt8) (i : Nat) (hi : i < l.length) (hl : l.length ≤ 65536) (h1 : l.getD i 0 = 123) : FnM Tryd.prog 20 51 (stA l i) [] (stA l ((fixR 3 [] (l.drop (i + 1))).n l)) ((fixR 3 [] (l.drop (i + 1))).res l) := by
  have hpk : FnM Tryd.prog 36 51 (stA l i) [] (stA l i) (.ret (.int .u8 123)) := peek_is l i 123 (by omega) hl h1
  have hw1 : IntKind.i64.wrap ((i : Int) + 1) = ((i + 1 : Nat) : Int) := wrap64 (by omega) (by omega)
  have hs := bs_size l
  have hsd := said_fn l (i + 1) (by omega) hl
  have he := fixR_eq 3 [] (l.drop (i + 1))
  refine FnM.of Tryd.f20 _ Tryd.func20 rfl (by decide) (by show 1 ≤ _; decide) tbOk 187 rfl fun S w g gl hg => ?_
  refine Run.go ?_; (conv => whnf); repeat' (first | ((with_reducible refine Know.mk fun _ => ?_); conv => whnf) | ((with_reducible refine Need.mk ?_ ?_); exact nd; conv => whnf) | ((with_reducible first | refine Both.mk ?_ ?_ | refine Any.mk fun b hb => ?_ | refine AskB.dec (fun hb => ?_) (fun hb => ?_) | refine AskB.ndec (fun hb => ?_) (fun hb => ?_) | refine AskB.mk (fun hb => ?_) (fun hb => ?_)) <;> conv => whnf) | ((with_reducible first | refine Run.drawX rfl (by decide +kernel) ?_ | refine Run.drawT rfl (by decide +kernel) ?_ | refine Run.drawW rfl (by decide +kernel) ?_); conv => whnf) | fail)
  refine Run.callM 300 hpk rfl rfl rfl (MOle.refl _) rfl (by trivial) rfl rfl rfl ?_
  refine Run.go ?_; (conv => whnf); repeat' (first | ((with_reducible refine Know.mk fun _ => ?_); conv => whnf) | ((with_reducible refine Need.mk ?_ ?_); exact nd; conv => whnf) | ((with_reducible refine Both.mk ?_ ?_) <;> conv => whnf) | ((with_reducible refine Any.mk fun b hb => ?_); conv => whnf) | ((with_reducible first | refine AskB.dec (fun hb => ?_) (fun hb => ?_) | refine AskB.ndec (fun hb => ?_) (fun hb => ?_) | refine AskB.mk (fun hb => ?_) (fun hb => ?_)) <;> first | (exfalso; omega) | (conv => whnf)) | ((with_reducible first | refine Run.drawX rfl (by decide +kernel) ?_ | refine Run.drawT rfl (by decide +kernel) ?_ | refine Run.drawW rfl (by decide +kernel) ?_); conv => whnf) | fail)
  all_goals try (exfalso; omega)
  cases hx : cont (l.drop (i + 1)) with
  | bad k =>
    rw [hx] at hsd he
    refine Run.callMP 300 hsd rfl rfl rfl (st_le hw1) rfl (by trivial) rfl rfl ?_
    apply Raises.lent (hw0 := by rfl) (hkeep := by rfl) (henv := by rfl) (hraw := by rfl) (hg := hg) (hf := Tryd.func20)
    · exact hR_pbad he rfl
    · exact MOle.refl _
    · rfl
  | ok t r =>
    rw [hx] at hsd he
    have hsr : r <:+ l := (cont_suf _ _ (Nat.le_refl _) hx).trans (List.drop_suffix _ _)
    refine Run.callM 300 hsd rfl rfl rfl (st_le hw1) rfl (by trivial) rfl rfl rfl ?_
    refine Run.go ?_; (conv => whnf); repeat' (first | ((with_reducible refine Know.mk fun _ => ?_); conv => whnf) | ((with_reducible refine Need.mk ?_ ?_); exact nd; conv => whnf) | ((with_reducible first | refine Both.mk ?_ ?_ | refine Any.mk fun b hb => ?_ | refine AskB.dec (fun hb => ?_) (fun hb => ?_) | refine AskB.ndec (fun hb => ?_) (fun hb => ?_) | refine AskB.mk (fun hb => ?_) (fun hb => ?_)) <;> conv => whnf) | ((with_reducible first | refine Run.drawX rfl (by decide +kernel) ?_ | refine Run.drawT rfl (by decide +kernel) ?_ | refine Run.drawW rfl (by decide +kernel) ?_); conv => whnf) | fail)
    refine Run.hold (z := 142) 7 1000 (by rfl) (by rfl) (by rfl) ?_
    refine Run.loop [0, 2] (fun (a : List ByteArray × List UInt8) => [(7, .row 1000)]) (fun a => [(300, .box 51 (stA l (l.length - a.2.length))), (301, .raw w (g + 1) w.heap.size), (2, .box 34 [.int .i64 0, .nils, .int .i64 0]), (1000, tS.R 9 a.1)]) (fun a => 1 ≤ a.1.length ∧ a.1.length ≤ 4 ∧ a.2 <:+ l ∧ fixR 3 [] (l.drop (i + 1)) = fixA (4 - a.1.length) a.1 a.2) (fun a => 4 - a.1.length) ([bs t], r) ⟨Nat.le_refl _, by simp, hsr, he⟩ ⟨Le.refl _, trivial⟩ ⟨MOle.refl _, MOle.refl _, MOle.refl _, ?_, trivial⟩ ?_
    · refine ⟨rfl, rfl, rfl, fun i j hi hj => ?_⟩
      obtain rfl : i = 0 := by have : i < 1 := hi; omega
      obtain rfl : j = 0 := by have : j < 1 := hj; omega
      exact Le.refl _
    clear hsd he hx hsr
    intro ⟨ts, r⟩ ⟨ht1, ht4, hsr, he⟩ IH
    simp only [] at ht1 ht4 hsr he ⊢
    have hrl := suf_le hsr
    by_cases hcond : ∃ r2, r = 124 :: r2 ∧ ts.length < 4
    · obtain ⟨r2, rfl, hts⟩ := hcond
      have hpk : FnM Tryd.prog 36 51 (stA l (l.length - (124 :: r2 : List UInt8).length)) [] (stA l (l.length - (124 :: r2 : List UInt8).length)) (.ret (.int .u8 124)) := peek_is l _ 124 (by omega) hl (suf_at hsr)
      have hw2 : IntKind.i64.wrap (((l.length - (124 :: r2 : List UInt8).length : Nat) : Int) + 1) = ((l.length - r2.length : Nat) : Int) := by
        simp only [List.length_cons] at hrl ⊢
        rw [wrap64 (by omega) (by omega)]; omega
      simp only [List.length_cons] at hrl
      have hsd := said_fn l (l.length - r2.length) (by omega) hl
      obtain ⟨f, hf⟩ : ∃ f, 4 - ts.length = f + 1 := ⟨4 - ts.length - 1, by omega⟩
      rw [hf, show fixA (f + 1) ts (124 :: r2) = fixR f ts r2 by simp [fixA], fixR_eq f] at he
      rw [suf_drop (suf_cons hsr)] at hsd
      have hn : l.length - (124 :: r2 : List UInt8).length < l.length := by simp only [List.length_cons]; omega
      refine Run.go ?_; (conv => whnf); repeat' (first | ((with_reducible refine Know.mk fun _ => ?_); conv => whnf) | ((with_reducible refine Need.mk ?_ ?_); exact nd; conv => whnf) | ((with_reducible first | refine Both.mk ?_ ?_ | refine Any.mk fun b hb => ?_ | refine AskB.dec (fun hb => ?_) (fun hb => ?_) | refine AskB.ndec (fun hb => ?_) (fun hb => ?_) | refine AskB.mk (fun hb => ?_) (fun hb => ?_)) <;> conv => whnf) | ((with_reducible first | refine Run.drawX rfl (by decide +kernel) ?_ | refine Run.drawT rfl (by decide +kernel) ?_ | refine Run.drawW rfl (by decide +kernel) ?_); conv => whnf) | fail)
      refine CallQ.lent 300 hpk rfl rfl rfl rfl (by trivial) rfl rfl ?_
      (conv => whnf); repeat' (first | ((with_reducible refine Know.mk fun _ => ?_); conv => whnf) | ((with_reducible refine Need.mk ?_ ?_); exact nd; conv => whnf) | ((with_reducible refine Both.mk ?_ ?_) <;> conv => whnf) | ((with_reducible refine Any.mk fun b hb => ?_); conv => whnf) | ((with_reducible first | refine AskB.dec (fun hb => ?_) (fun hb => ?_) | refine AskB.ndec (fun hb => ?_) (fun hb => ?_) | refine AskB.mk (fun hb => ?_) (fun hb => ?_)) <;> first | (exfalso; omega) | (conv => whnf)) | ((with_reducible first | refine Run.drawX rfl (by decide +kernel) ?_ | refine Run.drawT rfl (by decide +kernel) ?_ | refine Run.drawW rfl (by decide +kernel) ?_); conv => whnf) | fail)
      all_goals try (exfalso; omega)
      cases hx : cont r2 with
      | bad k =>
        rw [hx] at hsd he
        refine Run.callMP 300 hsd rfl rfl rfl (st_le hw2) rfl (by trivial) rfl rfl ?_
        apply Raises.lent (hw0 := by rfl) (hkeep := by rfl) (henv := by rfl) (hraw := by rfl) (hg := hg) (hf := Tryd.func20)
        · exact hR_pbad he rfl
        · exact MOle.refl _
        · rfl
      | ok t r3 =>
        rw [hx] at hsd he
        refine Run.callM 300 hsd rfl rfl rfl (st_le hw2) rfl (by trivial) rfl rfl rfl ?_
        refine Run.go ?_; (conv => whnf); repeat' (first | ((with_reducible refine Know.mk fun _ => ?_); conv => whnf) | ((with_reducible refine Need.mk ?_ ?_); exact nd; conv => whnf) | ((with_reducible first | refine Both.mk ?_ ?_ | refine Any.mk fun b hb => ?_ | refine AskB.dec (fun hb => ?_) (fun hb => ?_) | refine AskB.ndec (fun hb => ?_) (fun hb => ?_) | refine AskB.mk (fun hb => ?_) (fun hb => ?_)) <;> conv => whnf) | ((with_reducible first | refine Run.drawX rfl (by decide +kernel) ?_ | refine Run.drawT rfl (by decide +kernel) ?_ | refine Run.drawW rfl (by decide +kernel) ?_); conv => whnf) | fail)
        refine Run.hold (z := 174) 7 1000 (by rfl) (by rfl) (by rfl) ?_
        have hln : (ts ++ [bs t]).length = ts.length + 1 := by simp
        refine Run.to _ _ ?_ ?_ (IH (ts ++ [bs t], r3) (by simp only [hln]; omega) ⟨by simp only [hln]; omega, by simp only [hln]; omega, (cont_suf _ _ (Nat.le_refl _) hx).trans (suf_cons hsr), by simp only [hln]; rw [he, show 4 - (ts.length + 1) = f by omega]⟩)
        · exact ⟨Le.refl _, Le.refl _, Le.refl _, trivial⟩
        · exact ⟨MOle.refl _, MOle.refl _, MOle.refl _, tS.push 9 ts (bs t) _ (one0 (Le.refl _)), trivial⟩
    · have hfe : fixR 3 [] (l.drop (i + 1)) = fixEnd ts r := by
        rw [he]
        cases r with
        | nil => unfold fixA; rfl
        | cons c r2 =>
          by_cases h4 : ts.length < 4
          · rw [show 4 - ts.length = (4 - ts.length - 1) + 1 by omega]
            exact if_neg (fun e => hcond ⟨r2, by rw [e], h4⟩)
          · rw [show 4 - ts.length = 0 by omega]; rfl
      have hpk := peek_is l (l.length - r.length) _ (by omega) hl rfl
      have hcon : ¬ ((l.getD (l.length - r.length) 0).toNat = 124 ∧ l.length - r.length < l.length ∧ ts.length < 4) := fun ⟨a, b, c⟩ => by
        cases r with
        | nil => simp at b
        | cons d r2 =>
          rw [suf_at hsr] at a
          exact hcond ⟨r2, by rw [show d = 124 from UInt8.toNat.inj a], c⟩
      generalize (l.getD (l.length - r.length) 0).toNat = x at hpk hcon
      refine Run.go ?_; (conv => whnf); repeat' (first | ((with_reducible refine Know.mk fun _ => ?_); conv => whnf) | ((with_reducible refine Need.mk ?_ ?_); exact nd; conv => whnf) | ((with_reducible first | refine Both.mk ?_ ?_ | refine Any.mk fun b hb => ?_ | refine AskB.dec (fun hb => ?_) (fun hb => ?_) | refine AskB.ndec (fun hb => ?_) (fun hb => ?_) | refine AskB.mk (fun hb => ?_) (fun hb => ?_)) <;> conv => whnf) | ((with_reducible first | refine Run.drawX rfl (by decide +kernel) ?_ | refine Run.drawT rfl (by decide +kernel) ?_ | refine Run.drawW rfl (by decide +kernel) ?_); conv => whnf) | fail)
      refine CallQ.lent 300 hpk rfl rfl rfl rfl (by trivial) rfl rfl ?_
      (conv => whnf); repeat' (first | ((with_reducible refine Know.mk fun _ => ?_); conv => whnf) | ((with_reducible refine Need.mk ?_ ?_); exact nd; conv => whnf) | ((with_reducible refine Both.mk ?_ ?_) <;> conv => whnf) | ((with_reducible refine Any.mk fun b hb => ?_); conv => whnf) | ((with_reducible first | refine AskB.dec (fun hb => ?_) (fun hb => ?_) | refine AskB.ndec (fun hb => ?_) (fun hb => ?_) | refine AskB.mk (fun hb => ?_) (fun hb => ?_)) <;> first | (exfalso; omega) | (conv => whnf)) | ((with_reducible first | refine Run.drawX rfl (by decide +kernel) ?_ | refine Run.drawT rfl (by decide +kernel) ?_ | refine Run.drawW rfl (by decide +kernel) ?_); conv => whnf) | fail)
      all_goals try (exfalso; omega)
      all_goals first
        | (have hlt : ts.length < 2 := by omega
           refine Run.callMP 300 (fail_fn l (l.length - r.length)) rfl rfl rfl (MOle.refl _) rfl (by trivial) rfl rfl ?_
           apply Raises.lent (hw0 := by rfl) (hkeep := by rfl) (henv := by rfl) (hraw := by rfl) (hg := hg) (hf := Tryd.func20)
           · exact hR_pbad (k := r.length) (by rw [hfe]; unfold fixEnd; rw [if_pos hlt]) rfl
           · exact MOle.refl _
           · rfl)
        | (have hge : ¬ ts.length < 2 := by omega
           have he3 : fixR 3 [] (l.drop (i + 1)) = wantR 125 ⟨3, ts, 0⟩ r := by rw [hfe]; unfold fixEnd; rw [if_neg hge]
           have hwt := want_fn l r 125 ⟨3, ts, 0⟩ hsr hl
           cases hy : wantR 125 ⟨3, ts, 0⟩ r with
           | bad k =>
             rw [hy] at hwt he3
             refine Run.callMP 300 hwt rfl rfl rfl (MOle.refl _) rfl ⟨Le.refl _, trivial⟩ rfl rfl ?_
             apply Raises.lent (hw0 := by rfl) (hkeep := by rfl) (henv := by rfl) (hraw := by rfl) (hg := hg) (hf := Tryd.func20)
             · exact hR_pbad he3 rfl
             · exact MOle.refl _
             · rfl
           | ok q r2 =>
             obtain ⟨hlt, rfl, rfl⟩ := wantR_le.2 hy
             rw [hy] at hwt he3
             refine Run.callM 300 hwt rfl rfl rfl (MOle.refl _) rfl ⟨Le.refl _, trivial⟩ rfl rfl rfl ?_
             refine Run.go ?_; (conv => whnf); repeat' (first | ((with_reducible refine Know.mk fun _ => ?_); conv => whnf) | ((with_reducible refine Need.mk ?_ ?_); exact nd; conv => whnf) | ((with_reducible first | refine Both.mk ?_ ?_ | refine Any.mk fun b hb => ?_ | refine AskB.dec (fun hb => ?_) (fun hb => ?_) | refine AskB.ndec (fun hb => ?_) (fun hb => ?_) | refine AskB.mk (fun hb => ?_) (fun hb => ?_)) <;> conv => whnf) | ((with_reducible first | refine Run.drawX rfl (by decide +kernel) ?_ | refine Run.drawT rfl (by decide +kernel) ?_ | refine Run.drawW rfl (by decide +kernel) ?_); conv => whnf) | fail)
             apply Run.leaveMC (hk := by first | exact .inr ⟨_, rfl⟩ | exact .inl rfl) (hw0 := by rfl) (hkeep := by rfl) (henv := by rfl) (hraw := by rfl) (hg := hg) (hf := Tryd.func20) (hres := by rfl) (hp := by rfl) (hag := by rfl) (hm := Nat.le_of_ble_eq_true rfl)
             · exact hR_pok he3
             · exact MOle.refl _
             · rfl
             · exact pc_le (Le.refl _) (Le.refl _) (Le.refl _))
theorem piece_fn (l : List UInt8) (i : Nat) (hi : i < l.length) (hl : l.length ≤ 65536) : FnM Tryd.prog 20 51 (stA l i) [] (stA l ((pieceR (l.drop i)).n l)) ((pieceR (l.drop i)).res l) := by
  have hd := drop_get l i hi
  have he : pieceR (l.drop i) = if l.getD i 0 = 91 then gapR (l.drop (i + 1)) else if l.getD i 0 = 60 then dimR (l.drop (i + 1)) else if l.getD i 0 = 123 then fixR 3 [] (l.drop (i + 1)) else plainR (l.drop i) := by
    rw [hd, pieceR_cons]
  by_cases h1 : l.getD i 0 = 91
  · rw [he, if_pos h1]; exact piece_gap l i hi hl h1
  by_cases h2 : l.getD i 0 = 60
  · rw [he, if_neg h1, if_pos h2]; exact piece_dim l i hi hl h2
  by_cases h3 : l.getD i 0 = 123
  · rw [he, if_neg h1, if_neg h2, if_pos h3]; exact piece_fix l i hi hl h3
  rw [he, if_neg h1, if_neg h2, if_neg h3]; exact piece_plain l i hi hl h1 h2 h3
end Go.Proofs.YtkdpmkjbfkjmdaaDoor.V

namespace Go.Proofs.YtkdpmkjbfkjmdaaDoor.V
set_option linter.unusedVariables false
set_option linter.unusedSimpArgs false
open Go Go.Proofs Go.RowKit
set_option maxRecDepth 100000
set_option maxHeartbeats 1000000
/-- What Parse answers. -/
def parseA (l : List UInt8) : AV := tupL [tPc.L (parseT l).1, .int .i64 ((parseT l).2.1 : Int), .int .i64 (parseT l).2.2]
theorem box1_u {t : TypeId} {x : AV} : MOle (.box t [x]) (.box t [.u]) := ⟨rfl, rfl, fun j a b ha hb => by
  cases j with
  | zero => cases hb; exact Le.u _
  | succ j => simp at hb⟩
theorem fixR_suf : ∀ (f : Nat) (ts : List ByteArray) (r : List UInt8) {q : Pc} {r' : List UInt8}, fixR f ts r = .ok q r' → r' <:+ r
  | f, ts, r, q, r', h => by
    have hend : ∀ {ts : List ByteArray} {r : List UInt8}, fixEnd ts r = .ok q r' → r' <:+ r := by
      intro ts r h
      unfold fixEnd at h
      split at h
      · cases h
      · obtain ⟨_, _, e⟩ := wantR_le.2 h
        rw [e]; exact List.suffix_cons _ _
    rw [fixR_eq] at h
    cases hc : cont r with
    | bad k => rw [hc] at h; cases h
    | ok t r1 =>
      rw [hc] at h
      have hs := cont_suf _ r (Nat.le_refl _) hc
      refine List.IsSuffix.trans ?_ hs
      match f, r1, h with
      | f, [], h => exact hend (by cases f <;> exact h)
      | 0, c :: r2, h => exact hend h
      | f + 1, c :: r2, h =>
        have h' : (if c = 124 then fixR f (ts ++ [bs t]) r2 else fixEnd (ts ++ [bs t]) (c :: r2)) = .ok q r' := h
        split at h'
        · exact (fixR_suf f _ r2 h').trans (List.suffix_cons _ _)
        · exact hend h'
theorem pieceR_suf {l r : List UInt8} {q : Pc} (h : pieceR l = .ok q r) : r <:+ l := by
  have hplain : ∀ {s : List UInt8}, plainR s = .ok q r → r <:+ s := by
    intro s h
    rw [plainR_eq] at h
    cases hx : (cont s).full with
    | bad k => rw [hx] at h; cases h
    | ok t r' => rw [hx] at h; cases h; exact cont_suf _ _ (Nat.le_refl _) (full_ok hx).1
  cases l with
  | nil => exact hplain h
  | cons c s =>
    rw [pieceR_cons] at h
    split at h
    · refine List.IsSuffix.trans ?_ (List.suffix_cons c s)
      unfold gapR at h
      split at h
      · cases h
      · obtain ⟨_, _, e⟩ := wantR_le.2 h
        have : (gapN s).2 <:+ s := by rw [gapN_eq]; exact List.drop_suffix _ _
        exact (by rw [e]; exact List.suffix_cons _ _ : r <:+ (gapN s).2).trans this
    · split at h
      · refine List.IsSuffix.trans ?_ (List.suffix_cons c s)
        rw [dimR_eq] at h
        cases hx : (cont s).full with
        | bad k => rw [hx] at h; cases h
        | ok t r' =>
          rw [hx] at h
          obtain ⟨_, _, e⟩ := wantR_le.2 h
          exact (by rw [e]; exact List.suffix_cons _ _ : r <:+ r').trans (cont_suf _ _ (Nat.le_refl _) (full_ok hx).1)
      · split at h
        · exact (fixR_suf 3 [] s h).trans (List.suffix_cons c s)
        · exact hplain h
theorem caught {w0 : World} {S : Nat → Prop} {gl : GlobOk S w0} (p : Nat → Value) (n : Nat) : Unw (({ P := Tryd.prog, T := TB, tok := tbOk, N := 26, w0 := w0, S := S, glob := gl, f := 10, R := Post S w0 (tupL [tPc.L [], .int .i64 (n : Int), .int .i64 50]) } : Ctx).defs 19 [2, 3, 4] p)
    (.panicking [{ v := flt n, recovered := false }]) (lst [(2, .box 2 0), (3, .box 103 0), (4, .box 4 0)]) (lstH [(2, .box 23 [.u]), (103, .box 3 [.int .i64 0]), (4, .box 24 [.int .i64 0])]) := by
  refine Unw.deferred 950 Tryd.f19 _ 13 (u' := .panicking [{ v := flt n, recovered := true }]) (x := flt n) (.val (flt n)) rfl rfl (by simp) rfl Tryd.func19 rfl (by decide) rfl (by decide) (d0 := 6) (by decide) (fun b a cl cs w hb hc => pre_rec rfl rfl rfl rfl rfl rfl rfl rfl (flt n) b a cl cs w hb hc) (fun _ _ _ => ⟨rfl, rfl⟩) (fun a hsz hdf => ?_)
  refine Run.assertOk (kd := .i64) (n := (n : Int)) rfl rfl rfl (by kernel_rfl) rfl rfl ?_
  refine Run.go ?_; (conv => whnf); repeat' (first | ((with_reducible refine Know.mk fun _ => ?_); conv => whnf) | ((with_reducible refine Need.mk ?_ ?_); exact nd; conv => whnf) | ((with_reducible first | refine Both.mk ?_ ?_ | refine Any.mk fun b hb => ?_ | refine AskB.dec (fun hb => ?_) (fun hb => ?_) | refine AskB.ndec (fun hb => ?_) (fun hb => ?_) | refine AskB.mk (fun hb => ?_) (fun hb => ?_)) <;> conv => whnf) | ((with_reducible first | refine Run.drawX rfl (by decide +kernel) ?_ | refine Run.drawT rfl (by decide +kernel) ?_ | refine Run.drawW rfl (by decide +kernel) ?_); conv => whnf) | fail)
  refine Run.backD 950 hsz hdf (.inl rfl) (by rfl) Tryd.func19 rfl ?_
  exact fin_cells3 rfl Tryd.func10 rfl rfl rfl rfl Nat.one_pos Nat.one_pos Nat.one_pos rfl rfl rfl tPc.nil (Le.refl _) (Le.refl _)
theorem caught0 {w0 : World} {S : Nat → Prop} {gl : GlobOk S w0} (p : Nat → Value) (ps : List Pc) : Unw (({ P := Tryd.prog, T := TB, tok := tbOk, N := 26, w0 := w0, S := S, glob := gl, f := 10, R := Post S w0 (tupL [tPc.L ps, .int .i64 0, .int .i64 0]) } : Ctx).defs 19 [2, 3, 4] p)
    .returning (lst [(2, .box 2 0), (3, .box 103 0), (4, .box 4 0)]) (lstH [(2, .box 23 [.row 1000]), (103, .box 3 [.int .i64 0]), (4, .box 24 [.int .i64 0]), (1000, tPc.R 34 ps)]) := by
  refine Unw.deferred 950 Tryd.f19 _ 13 (u' := .returning) (x := .nilIface) .nilif rfl rfl (by simp) rfl Tryd.func19 rfl (by decide) rfl (by decide) (d0 := 6) (by decide) (fun b a cl cs w hb hc => pre_rec0 rfl rfl rfl rfl rfl rfl rfl rfl b a cl cs w hb hc) (fun _ _ _ => rfl) (fun a hsz hdf => ?_)
  refine Run.assertNil (kd := .i64) rfl rfl rfl (by kernel_rfl) (by kernel_rfl) rfl rfl ?_
  refine Run.go ?_; (conv => whnf); repeat' (first | ((with_reducible refine Know.mk fun _ => ?_); conv => whnf) | ((with_reducible refine Need.mk ?_ ?_); exact nd; conv => whnf) | ((with_reducible first | refine Both.mk ?_ ?_ | refine Any.mk fun b hb => ?_ | refine AskB.dec (fun hb => ?_) (fun hb => ?_) | refine AskB.ndec (fun hb => ?_) (fun hb => ?_) | refine AskB.mk (fun hb => ?_) (fun hb => ?_)) <;> conv => whnf) | ((with_reducible first | refine Run.drawX rfl (by decide +kernel) ?_ | refine Run.drawT rfl (by decide +kernel) ?_ | refine Run.drawW rfl (by decide +kernel) ?_); conv => whnf) | fail)
  refine Run.backD 950 hsz hdf (.inl rfl) (by rfl) Tryd.func19 rfl ?_
  exact fin_cells3 rfl Tryd.func10 rfl rfl rfl rfl Nat.one_pos Nat.one_pos Nat.one_pos rfl rfl rfl (Le.refl _) (Le.refl _) (Le.refl _)
theorem parse_fn (l : List UInt8) : Fn Tryd.prog 10 [.str (bs l)] (parseA l) := by
  refine Fn.of Tryd.f10 _ Tryd.func10 rfl (by decide) (by show 1 ≤ _; decide) tbOk 26 rfl fun S w0 gl => ?_
  have hs := bs_size l
  refine Run.go ?_; (conv => whnf); repeat' (first | ((with_reducible refine Know.mk fun _ => ?_); conv => whnf) | ((with_reducible refine Need.mk ?_ ?_); exact nd; conv => whnf) | ((with_reducible first | refine Both.mk ?_ ?_ | refine Any.mk fun b hb => ?_ | refine AskB.dec (fun hb => ?_) (fun hb => ?_) | refine AskB.ndec (fun hb => ?_) (fun hb => ?_) | refine AskB.mk (fun hb => ?_) (fun hb => ?_)) <;> conv => whnf) | ((with_reducible first | refine Run.drawX rfl (by decide +kernel) ?_ | refine Run.drawT rfl (by decide +kernel) ?_ | refine Run.drawW rfl (by decide +kernel) ?_); conv => whnf) | fail)
  · have hT : parseT l = ([], 0, 1) := if_pos (by omega)
    refine Unw.ret (.inr ⟨_, rfl⟩) (Unw.done (fn := Tryd.f10) rfl ?_)
    unfold parseA
    rw [hT]
    exact fin_cells3 rfl Tryd.func10 rfl rfl rfl rfl Nat.one_pos Nat.one_pos Nat.one_pos rfl rfl rfl tPc.nil (Le.refl _) (Le.refl _)
  refine Run.makeFunc rfl rfl rfl rfl rfl ?_
  refine Run.defer [2, 3, 4] [2, 3, 4] rfl rfl rfl rfl rfl rfl rfl rfl rfl rfl (fun p => ?_)
  refine Run.go ?_; (conv => whnf); repeat' (first | ((with_reducible refine Know.mk fun _ => ?_); conv => whnf) | ((with_reducible refine Need.mk ?_ ?_); exact nd; conv => whnf) | ((with_reducible first | refine Both.mk ?_ ?_ | refine Any.mk fun b hb => ?_ | refine AskB.dec (fun hb => ?_) (fun hb => ?_) | refine AskB.ndec (fun hb => ?_) (fun hb => ?_) | refine AskB.mk (fun hb => ?_) (fun hb => ?_)) <;> conv => whnf) | ((with_reducible first | refine Run.drawX rfl (by decide +kernel) ?_ | refine Run.drawT rfl (by decide +kernel) ?_ | refine Run.drawW rfl (by decide +kernel) ?_); conv => whnf) | fail)
  have hl : l.length ≤ 65536 := by omega
  have hT : parseT l = match parseL l with
      | .bad k => ([], l.length - k, 50)
      | .ok ps => (ps, 0, 0) := if_neg (by omega)
  refine Run.swap 3 103 ?_
  refine Run.holdBoxNil 2 0 1000 34 3 (fun _ _ => .u) rfl rfl rfl rfl ?_
  refine Run.loop [0] (fun (a : List Pc × Nat) => [(2, .box 2 0), (3, .box 103 0), (4, .box 4 0), (5, .box 12 0)]) (fun a => [(2, .box 23 [.row 1000]), (103, .box 3 [.int .i64 0]), (4, .box 24 [.int .i64 0]), (12, .box 51 (stA l a.2)), (1000, tPc.R 34 a.1)]) (fun a => a.2 ≤ l.length ∧ a.1.length ≤ a.2 ∧ (parseL (l.drop a.2)).app a.1 = parseL l) (fun a => l.length - a.2) ([], 0) ⟨Nat.zero_le _, Nat.zero_le _, QR.app_nil _⟩ ⟨Le.refl _, Le.refl _, Le.refl _, Le.refl _, trivial⟩ ⟨MOle.refl _, MOle.refl _, MOle.refl _, MOle.refl _, ⟨rfl, rfl, rfl, fun i j hi hj => absurd hi (Nat.not_lt_zero _)⟩, trivial⟩ ?_
  intro ⟨ps, i⟩ ⟨hi, hpl, hps⟩ IH
  simp only [] at hi hpl hps ⊢
  by_cases hil : i < l.length
  · have hpc := piece_fn l i hil hl
    have hne : l.drop i ≠ [] := fun e => by have := congrArg List.length e; rw [List.length_drop] at this; simp at this; omega
    cases hx : pieceR (l.drop i) with
    | bad k =>
      rw [hx] at hpc
      have hb : parseL l = .bad k := by rw [← hps, parseL_bad hne hx]; rfl
      rw [hb] at hT
      have hA : parseA l = tupL [tPc.L [], .int .i64 ((l.length - k : Nat) : Int), .int .i64 50] := by unfold parseA; rw [hT]
      clear IH
      rw [hA]
      refine Run.go ?_; (conv => whnf); repeat' (first | ((with_reducible refine Know.mk fun _ => ?_); conv => whnf) | ((with_reducible refine Need.mk ?_ ?_); exact nd; conv => whnf) | ((with_reducible first | refine Both.mk ?_ ?_ | refine Any.mk fun b hb => ?_ | refine AskB.dec (fun hb => ?_) (fun hb => ?_) | refine AskB.ndec (fun hb => ?_) (fun hb => ?_) | refine AskB.mk (fun hb => ?_) (fun hb => ?_)) <;> conv => whnf) | ((with_reducible first | refine Run.drawX rfl (by decide +kernel) ?_ | refine Run.drawT rfl (by decide +kernel) ?_ | refine Run.drawW rfl (by decide +kernel) ?_); conv => whnf) | fail)
      all_goals try (exfalso; omega)
      refine Run.drawP [] [] (fun i => i) 6 rfl (by decide +kernel) rfl rfl ?_
      (conv => whnf); repeat' (first | ((with_reducible refine Know.mk fun _ => ?_); conv => whnf) | ((with_reducible refine Need.mk ?_ ?_); exact nd; conv => whnf) | ((with_reducible first | refine Both.mk ?_ ?_ | refine Any.mk fun b hb => ?_ | refine AskB.dec (fun hb => ?_) (fun hb => ?_) | refine AskB.ndec (fun hb => ?_) (fun hb => ?_) | refine AskB.mk (fun hb => ?_) (fun hb => ?_)) <;> conv => whnf) | ((with_reducible first | refine Run.drawX rfl (by decide +kernel) ?_ | refine Run.drawT rfl (by decide +kernel) ?_ | refine Run.drawW rfl (by decide +kernel) ?_); conv => whnf) | fail)
      all_goals
        refine Run.callMP 12 hpc rfl rfl rfl (MOle.refl _) rfl (by trivial) rfl rfl ?_
        refine Unw.raises (Unw.to _ _ ?_ ?_ (caught p (l.length - k)))
        · exact ⟨Le.refl _, Le.refl _, Le.refl _, trivial⟩
        · exact ⟨box1_u, MOle.refl _, MOle.refl _, trivial⟩
    | ok q r =>
      rw [hx] at hpc
      have hlt := (pieceR_le (l.drop i)).2 hx
      rw [List.length_drop] at hlt
      have hn : ∃ m, l.length - r.length = m ∧ i < m ∧ m ≤ l.length ∧ l.drop m = r := ⟨_, rfl, by omega, by omega, suf_drop ((pieceR_suf hx).trans (List.drop_suffix _ _))⟩
      obtain ⟨m, hm, him, hml, hdm⟩ := hn
      have hps2 : (parseL (l.drop m)).app (ps ++ [q]) = parseL l := by rw [hdm, ← hps, parseL_ok hne hx, QR.app_push]
      have hpc' : FnM Tryd.prog 20 51 (stA l i) [] (stA l m) (.ret (.agg 3 (tPc.enc q))) := by rw [← hm]; exact hpc
      have IH2 := IH (ps ++ [q], m) (by simp only []; omega) ⟨hml, by simp; omega, hps2⟩
      simp only [] at IH2
      have hpush : MOle (.row 34 tPc.sz (ps.length + 1) (joinRow ps.length (tPc.G ps) fun i j => ([List.map (tPc.enc q) (List.range 3)].getD i []).getD j AV.u)) (tPc.R 34 (ps ++ [q])) := tPc.push 34 ps q _ (fun j hj => by
        match j, hj with
        | 0, _ => exact Le.refl _
        | 1, _ => exact Le.refl _
        | 2, _ => exact Le.refl _)
      refine Run.go ?_; (conv => whnf); repeat' (first | ((with_reducible refine Know.mk fun _ => ?_); conv => whnf) | ((with_reducible refine Need.mk ?_ ?_); exact nd; conv => whnf) | ((with_reducible first | refine Both.mk ?_ ?_ | refine Any.mk fun b hb => ?_ | refine AskB.dec (fun hb => ?_) (fun hb => ?_) | refine AskB.ndec (fun hb => ?_) (fun hb => ?_) | refine AskB.mk (fun hb => ?_) (fun hb => ?_)) <;> conv => whnf) | ((with_reducible first | refine Run.drawX rfl (by decide +kernel) ?_ | refine Run.drawT rfl (by decide +kernel) ?_ | refine Run.drawW rfl (by decide +kernel) ?_); conv => whnf) | fail)
      all_goals try (exfalso; omega)
      refine Run.drawP [] [] (fun i => i) 6 rfl (by decide +kernel) rfl rfl ?_
      (conv => whnf); repeat' (first | ((with_reducible refine Know.mk fun _ => ?_); conv => whnf) | ((with_reducible refine Need.mk ?_ ?_); exact nd; conv => whnf) | ((with_reducible first | refine Both.mk ?_ ?_ | refine Any.mk fun b hb => ?_ | refine AskB.dec (fun hb => ?_) (fun hb => ?_) | refine AskB.ndec (fun hb => ?_) (fun hb => ?_) | refine AskB.mk (fun hb => ?_) (fun hb => ?_)) <;> conv => whnf) | ((with_reducible first | refine Run.drawX rfl (by decide +kernel) ?_ | refine Run.drawT rfl (by decide +kernel) ?_ | refine Run.drawW rfl (by decide +kernel) ?_); conv => whnf) | fail)
      all_goals
        refine Run.callM 12 hpc' rfl rfl rfl (MOle.refl _) rfl (by trivial) rfl rfl rfl ?_
      · refine Run.go ?_; (conv => whnf); repeat' (first | ((with_reducible refine Know.mk fun _ => ?_); conv => whnf) | ((with_reducible refine Need.mk ?_ ?_); exact nd; conv => whnf) | ((with_reducible first | refine Both.mk ?_ ?_ | refine Any.mk fun b hb => ?_ | refine AskB.dec (fun hb => ?_) (fun hb => ?_) | refine AskB.ndec (fun hb => ?_) (fun hb => ?_) | refine AskB.mk (fun hb => ?_) (fun hb => ?_)) <;> conv => whnf) | ((with_reducible first | refine Run.drawX rfl (by decide +kernel) ?_ | refine Run.drawT rfl (by decide +kernel) ?_ | refine Run.drawW rfl (by decide +kernel) ?_); conv => whnf) | fail)
        refine Run.holdBoxRow 2 0 1000 24 (by rfl) (by rfl) (by rfl) rfl rfl rfl ?_
        refine Run.to _ _ ?_ ?_ IH2
        · exact ⟨Le.refl _, Le.refl _, Le.refl _, Le.refl _, Le.refl _, trivial⟩
        · exact ⟨MOle.refl _, MOle.refl _, MOle.refl _, MOle.refl _, hpush, trivial⟩
      · refine Run.go ?_; (conv => whnf); repeat' (first | ((with_reducible refine Know.mk fun _ => ?_); conv => whnf) | ((with_reducible refine Need.mk ?_ ?_); exact nd; conv => whnf) | ((with_reducible first | refine Both.mk ?_ ?_ | refine Any.mk fun b hb => ?_ | refine AskB.dec (fun hb => ?_) (fun hb => ?_) | refine AskB.ndec (fun hb => ?_) (fun hb => ?_) | refine AskB.mk (fun hb => ?_) (fun hb => ?_)) <;> conv => whnf) | ((with_reducible first | refine Run.drawX rfl (by decide +kernel) ?_ | refine Run.drawT rfl (by decide +kernel) ?_ | refine Run.drawW rfl (by decide +kernel) ?_); conv => whnf) | fail)
        refine Run.holdBoxRow 2 0 1000 24 (by rfl) (by rfl) (by rfl) rfl rfl rfl ?_
        refine Run.to _ _ ?_ ?_ IH2
        · exact ⟨Le.refl _, Le.refl _, Le.refl _, Le.refl _, Le.refl _, trivial⟩
        · exact ⟨MOle.refl _, MOle.refl _, MOle.refl _, MOle.refl _, hpush, trivial⟩
      · refine Run.one rfl rfl rfl ?_
        (conv => whnf); repeat' (first | ((with_reducible refine Know.mk fun _ => ?_); conv => whnf) | ((with_reducible refine Need.mk ?_ ?_); exact nd; conv => whnf) | ((with_reducible first | refine Both.mk ?_ ?_ | refine Any.mk fun b hb => ?_ | refine AskB.dec (fun hb => ?_) (fun hb => ?_) | refine AskB.ndec (fun hb => ?_) (fun hb => ?_) | refine AskB.mk (fun hb => ?_) (fun hb => ?_)) <;> conv => whnf) | ((with_reducible first | refine Run.drawX rfl (by decide +kernel) ?_ | refine Run.drawT rfl (by decide +kernel) ?_ | refine Run.drawW rfl (by decide +kernel) ?_); conv => whnf) | fail)
        refine Run.go ?_; (conv => whnf); repeat' (first | ((with_reducible refine Know.mk fun _ => ?_); conv => whnf) | ((with_reducible refine Need.mk ?_ ?_); exact nd; conv => whnf) | ((with_reducible first | refine Both.mk ?_ ?_ | refine Any.mk fun b hb => ?_ | refine AskB.dec (fun hb => ?_) (fun hb => ?_) | refine AskB.ndec (fun hb => ?_) (fun hb => ?_) | refine AskB.mk (fun hb => ?_) (fun hb => ?_)) <;> conv => whnf) | ((with_reducible first | refine Run.drawX rfl (by decide +kernel) ?_ | refine Run.drawT rfl (by decide +kernel) ?_ | refine Run.drawW rfl (by decide +kernel) ?_); conv => whnf) | fail)
        refine Run.holdBoxRow 2 0 1000 24 (by rfl) (by rfl) (by rfl) rfl rfl rfl ?_
        refine Run.to _ _ ?_ ?_ IH2
        · exact ⟨Le.refl _, Le.refl _, Le.refl _, Le.refl _, Le.refl _, trivial⟩
        · exact ⟨MOle.refl _, MOle.refl _, MOle.refl _, MOle.refl _, hpush, trivial⟩
      · refine Run.one rfl rfl rfl ?_
        (conv => whnf); repeat' (first | ((with_reducible refine Know.mk fun _ => ?_); conv => whnf) | ((with_reducible refine Need.mk ?_ ?_); exact nd; conv => whnf) | ((with_reducible first | refine Both.mk ?_ ?_ | refine Any.mk fun b hb => ?_ | refine AskB.dec (fun hb => ?_) (fun hb => ?_) | refine AskB.ndec (fun hb => ?_) (fun hb => ?_) | refine AskB.mk (fun hb => ?_) (fun hb => ?_)) <;> conv => whnf) | ((with_reducible first | refine Run.drawX rfl (by decide +kernel) ?_ | refine Run.drawT rfl (by decide +kernel) ?_ | refine Run.drawW rfl (by decide +kernel) ?_); conv => whnf) | fail)
        refine Run.one rfl rfl rfl ?_
        (conv => whnf); repeat' (first | ((with_reducible refine Know.mk fun _ => ?_); conv => whnf) | ((with_reducible refine Need.mk ?_ ?_); exact nd; conv => whnf) | ((with_reducible first | refine Both.mk ?_ ?_ | refine Any.mk fun b hb => ?_ | refine AskB.dec (fun hb => ?_) (fun hb => ?_) | refine AskB.ndec (fun hb => ?_) (fun hb => ?_) | refine AskB.mk (fun hb => ?_) (fun hb => ?_)) <;> conv => whnf) | ((with_reducible first | refine Run.drawX rfl (by decide +kernel) ?_ | refine Run.drawT rfl (by decide +kernel) ?_ | refine Run.drawW rfl (by decide +kernel) ?_); conv => whnf) | fail)
        refine Run.go ?_; (conv => whnf); repeat' (first | ((with_reducible refine Know.mk fun _ => ?_); conv => whnf) | ((with_reducible refine Need.mk ?_ ?_); exact nd; conv => whnf) | ((with_reducible first | refine Both.mk ?_ ?_ | refine Any.mk fun b hb => ?_ | refine AskB.dec (fun hb => ?_) (fun hb => ?_) | refine AskB.ndec (fun hb => ?_) (fun hb => ?_) | refine AskB.mk (fun hb => ?_) (fun hb => ?_)) <;> conv => whnf) | ((with_reducible first | refine Run.drawX rfl (by decide +kernel) ?_ | refine Run.drawT rfl (by decide +kernel) ?_ | refine Run.drawW rfl (by decide +kernel) ?_); conv => whnf) | fail)
        refine Run.holdBoxRow 2 0 1000 24 (by rfl) (by rfl) (by rfl) rfl rfl rfl ?_
        refine Run.to _ _ ?_ ?_ IH2
        · exact ⟨Le.refl _, Le.refl _, Le.refl _, Le.refl _, Le.refl _, trivial⟩
        · exact ⟨MOle.refl _, MOle.refl _, MOle.refl _, MOle.refl _, hpush, trivial⟩
  · obtain rfl : i = l.length := by omega
    have hb : parseL l = .ok ps := by rw [← hps, List.drop_length]; simp [parseL, parseF, QR.app]
    rw [hb] at hT
    refine Run.go ?_; (conv => whnf); repeat' (first | ((with_reducible refine Know.mk fun _ => ?_); conv => whnf) | ((with_reducible refine Need.mk ?_ ?_); exact nd; conv => whnf) | ((with_reducible first | refine Both.mk ?_ ?_ | refine Any.mk fun b hb => ?_ | refine AskB.dec (fun hb => ?_) (fun hb => ?_) | refine AskB.ndec (fun hb => ?_) (fun hb => ?_) | refine AskB.mk (fun hb => ?_) (fun hb => ?_)) <;> conv => whnf) | ((with_reducible first | refine Run.drawX rfl (by decide +kernel) ?_ | refine Run.drawT rfl (by decide +kernel) ?_ | refine Run.drawW rfl (by decide +kernel) ?_); conv => whnf) | fail)
    all_goals try (exfalso; omega)
    unfold parseA
    rw [hT]
    refine Unw.ret (.inr ⟨_, rfl⟩) (Unw.to _ _ ?_ ?_ (caught0 p ps))
    · exact ⟨Le.refl _, Le.refl _, Le.refl _, trivial⟩
    · exact ⟨MOle.refl _, MOle.refl _, MOle.refl _, MOle.refl _, trivial⟩
end Go.Proofs.YtkdpmkjbfkjmdaaDoor.V

namespace Go.Proofs.YtkdpmkjbfkjmdaaDoor.V
set_option linter.unusedVariables false
set_option linter.unusedSimpArgs false
open Go Go.Proofs Go.RowKit
set_option maxRecDepth 100000
set_option maxHeartbeats 1000000
def isNum (n : Nat) : Bool := decide (n = 91 ∨ n = 93 ∨ n = 123 ∨ n = 125 ∨ n = 124 ∨ n = 60 ∨ n = 62 ∨ n = 92)
theorem isMk_fin : ∀ c : Fin 256, isMk (UInt8.ofNat c.val) = isNum c.val := by decide +kernel
theorem isMk_num (c : UInt8) : isMk c = isNum c.toNat := by
  have := isMk_fin ⟨c.toNat, c.toNat_lt⟩
  rwa [u8_ofNat] at this
theorem rmark_fn (c : UInt8) : Fn Tryd.prog 35 [.int .u8 (c.toNat : Int)] (.bool (isMk c)) := by
  rw [isMk_num]
  generalize c.toNat = n
  refine Fn.of Tryd.f35 _ Tryd.func35 rfl (by decide) (by show 1 ≤ _; decide) tbOk 13 rfl fun S w0 gl => ?_
  refine Run.go ?_; (conv => whnf); repeat' (first | ((with_reducible refine Know.mk fun _ => ?_); conv => whnf) | ((with_reducible refine Need.mk ?_ ?_); exact nd; conv => whnf) | ((with_reducible refine Both.mk ?_ ?_) <;> conv => whnf) | ((with_reducible refine Any.mk fun b hb => ?_); conv => whnf) | ((with_reducible first | refine AskB.dec (fun hb => ?_) (fun hb => ?_) | refine AskB.ndec (fun hb => ?_) (fun hb => ?_) | refine AskB.mk (fun hb => ?_) (fun hb => ?_)) <;> first | (exfalso; omega) | (conv => whnf)) | ((with_reducible first | refine Run.drawX rfl (by decide +kernel) ?_ | refine Run.drawT rfl (by decide +kernel) ?_ | refine Run.drawW rfl (by decide +kernel) ?_); conv => whnf) | fail)
  all_goals first
    | exact Run.leave (ts := [2]) (.inr ⟨_, rfl⟩) rfl Tryd.func35 rfl (Le.tt.trans (Le.bool (decide_eq_true (by omega)).symm))
    | exact Run.leave (ts := [2]) (.inr ⟨_, rfl⟩) rfl Tryd.func35 rfl (Le.ff.trans (Le.bool (decide_eq_false (by omega)).symm))
theorem bsG_push (e : Nat) (b : List UInt8) (u : UInt8) (g : Nat → Nat → AV) (hg : g 0 0 = .int .u8 (u.toNat : Int)) : MOle (.row e 1 ((bs b).size + 1) (joinRow (bs b).size (bytesG (bs b)) g)) (.row e 1 (bs (b ++ [u])).size (bytesG (bs (b ++ [u])))) := by
  have := bytesG_push e (bs b) u g hg
  rwa [bs_push] at this
end Go.Proofs.YtkdpmkjbfkjmdaaDoor.V

namespace Go.Proofs.YtkdpmkjbfkjmdaaDoor.V
set_option linter.unusedVariables false
set_option linter.unusedSimpArgs false
open Go Go.Proofs Go.RowKit
set_option maxRecDepth 100000
set_option maxHeartbeats 1000000
theorem wantR_yes {c : UInt8} {p : Pc} {r : List UInt8} (h0 : 0 < r.length) (h : r.getD 0 0 = c) : wantR c p r = .ok p (r.drop 1) := by
  cases r with
  | nil => simp at h0
  | cons d r => exact if_pos h
end Go.Proofs.YtkdpmkjbfkjmdaaDoor.V

namespace Go.Proofs.YtkdpmkjbfkjmdaaDoor.V
set_option linter.unusedVariables false
set_option linter.unusedSimpArgs false
open Go Go.Proofs Go.RowKit
set_option maxRecDepth 100000
set_option maxHeartbeats 1000000
theorem fixA_ok {f : Nat} {ts : List ByteArray} {r : List UInt8} (h0 : r.length ≠ 0) (h1 : (r.getD 0 0).toNat = 125) (h2 : 2 ≤ ts.length) : fixA f ts r = .ok ⟨3, ts, 0⟩ (r.drop 1) := by
  have hc : r.getD 0 0 = 125 := UInt8.toNat.inj (by rw [h1]; rfl)
  have hend : fixEnd ts r = .ok ⟨3, ts, 0⟩ (r.drop 1) := by
    unfold fixEnd
    rw [if_neg (by omega), wantR_yes (by omega) hc]
  cases r with
  | nil => simp at h0
  | cons c r =>
    cases f with
    | zero => exact hend
    | succ f =>
      have : fixA (f + 1) ts (c :: r) = if c = 124 then fixR f ts r else fixEnd ts (c :: r) := by simp [fixA]
      rw [this, if_neg, hend]
      intro e
      rw [show c = 125 from hc] at e
      exact absurd e (by decide)
theorem fixA_go {f : Nat} {ts : List ByteArray} {r : List UInt8} (h0 : r.length ≠ 0) (h1 : (r.getD 0 0).toNat = 124) : fixA (f + 1) ts r = fixR f ts (r.drop 1) := by
  cases r with
  | nil => simp at h0
  | cons c r =>
    have hc : c = 124 := UInt8.toNat.inj (by rw [show c = (c :: r).getD 0 0 from rfl, h1]; rfl)
    have : fixA (f + 1) ts (c :: r) = if c = 124 then fixR f ts r else fixEnd ts (c :: r) := by simp [fixA]
    rw [this, if_pos hc]; rfl
end Go.Proofs.YtkdpmkjbfkjmdaaDoor.V

namespace Go.Proofs.YtkdpmkjbfkjmdaaDoor.V
set_option linter.unusedVariables false
set_option linter.unusedSimpArgs false
open Go Go.Proofs Go.RowKit
def bl (b : ByteArray) : List UInt8 := b.data.toList
theorem bs_bl (b : ByteArray) : bs (bl b) = b := by simp [bs, bl]
theorem bl_bs (l : List UInt8) : bl (bs l) = l := by simp [bs, bl]
/-- One byte as it stands in a marked text. -/
def esc1 (c : UInt8) : List UInt8 := if isMk c = true then [92, c] else [c]
def escL (t : List UInt8) : List UInt8 := t.flatMap esc1
theorem escL_cons (c : UInt8) (t : List UInt8) : escL (c :: t) = esc1 c ++ escL t := by simp [escL]
theorem escL_app (a b : List UInt8) : escL (a ++ b) = escL a ++ escL b := by simp [escL]
theorem escL_len : ∀ t : List UInt8, t.length ≤ (escL t).length ∧ (escL t).length ≤ 2 * t.length
  | [] => ⟨Nat.le_refl _, Nat.le_refl _⟩
  | c :: t => by
    have ih := escL_len t
    rw [escL_cons, List.length_append, List.length_cons]
    have : 1 ≤ (esc1 c).length ∧ (esc1 c).length ≤ 2 := by unfold esc1; split <;> simp
    omega
theorem escL_nil {t : List UInt8} : escL t = [] ↔ t = [] := by
  have := escL_len t
  constructor
  · intro h; rw [h] at this; simp at this; cases t with | nil => rfl | cons c t => simp at this
  · rintro rfl; rfl
/-- Nothing follows, or a mark that is no backslash. -/
def stopB : List UInt8 → Bool
  | [] => true
  | c :: _ => isMk c && decide (c ≠ 92)
theorem cont_of : ∀ (t r : List UInt8), stopB r = true → cont (escL t ++ r) = .ok t r
  | [], r, h => by
    show cont r = _
    cases r with
    | nil => rfl
    | cons c r =>
      unfold stopB at h
      rw [Bool.and_eq_true, decide_eq_true_eq] at h
      exact cont_stop r h.2 h.1
  | c :: t, r, h => by
    rw [escL_cons, List.append_assoc]
    unfold esc1
    by_cases hc : isMk c = true
    · rw [if_pos hc]
      show cont (92 :: c :: (escL t ++ r)) = _
      rw [cont_esc _ hc, cont_of t r h]; rfl
    · rw [if_neg hc]
      show cont (c :: (escL t ++ r)) = _
      rw [cont_plain _ hc, cont_of t r h]; rfl
theorem cont_inv : ∀ (n : Nat) (l : List UInt8), l.length ≤ n → ∀ {t r}, cont l = .ok t r → l = escL t ++ r ∧ stopB r = true
  | n, [], _, t, r, h => by cases h; exact ⟨rfl, rfl⟩
  | 0, c :: l, hn, _, _, _ => absurd hn (by simp)
  | n + 1, c :: l, hn, t, r, h => by
    have hpush : ∀ (x : CR) (d : UInt8), x.push d = .ok t r → ∃ t', x = .ok t' r ∧ t = d :: t' := by
      intro x d hx
      cases x with
      | bad k => cases hx
      | ok t' r' => cases hx; exact ⟨t', rfl, rfl⟩
    simp only [List.length_cons] at hn
    by_cases h2 : isMk c = true
    · by_cases h1 : c = 92
      · subst h1
        cases l with
        | nil => rw [cont_end] at h; cases h
        | cons d l =>
          simp only [List.length_cons] at hn
          by_cases hd : isMk d = true
          · rw [cont_esc l hd] at h
            obtain ⟨t', h', rfl⟩ := hpush _ _ h
            have := cont_inv n l (by omega) h'
            refine ⟨?_, this.2⟩
            rw [escL_cons, show esc1 d = [92, d] from if_pos hd, this.1]
            rw [← this.1]; simp [← this.1]
          · rw [cont_bad l hd] at h; cases h
      · rw [cont_stop l h1 h2] at h
        cases h
        exact ⟨rfl, by show (isMk c && decide (c ≠ 92)) = true; rw [h2, Bool.true_and]; exact decide_eq_true h1⟩
    · rw [cont_plain l h2] at h
      obtain ⟨t', h', rfl⟩ := hpush _ _ h
      have := cont_inv n l (by omega) h'
      refine ⟨?_, this.2⟩
      rw [escL_cons, show esc1 c = [c] from if_neg h2]
      simp [← this.1]
/-! ### numbers -/
def numL (n : Nat) : List UInt8 := if n < 10 then [UInt8.ofNat (48 + n)] else [UInt8.ofNat (48 + n / 10), UInt8.ofNat (48 + n % 10)]
theorem ofNat_toNat {n : Nat} (h : n < 256) : (UInt8.ofNat n).toNat = n := by rw [UInt8.toNat_ofNat']; exact Nat.mod_eq_of_lt h
theorem dig_of {n : Nat} (h : n < 10) : dig (UInt8.ofNat (48 + n)) = true := by rw [dig_iff, ofNat_toNat (by omega)]; omega
theorem gapN_of {n : Nat} (h1 : 1 ≤ n) (h2 : n ≤ 99) (r : List UInt8) : gapN (numL n ++ 93 :: r) = (n, 93 :: r) := by
  unfold numL
  by_cases h : n < 10
  · rw [if_pos h]
    show gapN (UInt8.ofNat (48 + n) :: 93 :: r) = _
    rw [gapN2, if_pos ⟨dig_of h, by rw [ne48, ofNat_toNat (by omega)]; omega⟩, if_neg (by decide), ofNat_toNat (by omega)]
    congr 1; omega
  · rw [if_neg h]
    show gapN (UInt8.ofNat (48 + n / 10) :: UInt8.ofNat (48 + n % 10) :: 93 :: r) = _
    rw [gapN2, if_pos ⟨dig_of (by omega), by rw [ne48, ofNat_toNat (by omega)]; omega⟩, if_pos (dig_of (by omega)), ofNat_toNat (by omega), ofNat_toNat (by omega)]
    congr 1; omega
theorem gapN_inv (r : List UInt8) (h : (gapN r).1 ≠ 0) : r = numL (gapN r).1 ++ (gapN r).2 ∧ (gapN r).1 ≤ 99 := by
  have key : ∀ (c : UInt8) (n : Nat), c.toNat = 48 + n → n < 10 → UInt8.ofNat (48 + n) = c := fun c n h _ => by rw [← h]; exact u8_ofNat c
  refine ⟨?_, (gapN_le r).2⟩
  match r with
  | [] => exact absurd rfl h
  | [d] =>
    rw [gapN1] at h ⊢
    by_cases hd : dig d = true ∧ d ≠ 48
    · rw [if_pos hd] at h ⊢
      have h1 := (dig_iff d).mp hd.1
      unfold numL
      rw [if_pos (show d.toNat - 48 < 10 by omega), key d _ (by omega) (by omega)]; rfl
    · rw [if_neg hd] at h; exact absurd rfl h
  | d :: e :: r =>
    rw [gapN2] at h ⊢
    by_cases hd : dig d = true ∧ d ≠ 48
    · rw [if_pos hd] at h ⊢
      have h1 := (dig_iff d).mp hd.1
      have h3 := (ne48 d).mp hd.2
      by_cases he : dig e = true
      · rw [if_pos he] at h ⊢
        have h2 := (dig_iff e).mp he
        unfold numL
        simp only []
        rw [if_neg (by omega), key d _ (show d.toNat = 48 + (10 * (d.toNat - 48) + (e.toNat - 48)) / 10 by omega) (by omega), key e _ (show e.toNat = 48 + (10 * (d.toNat - 48) + (e.toNat - 48)) % 10 by omega) (by omega)]; rfl
      · rw [if_neg he] at h ⊢
        unfold numL
        simp only []
        rw [if_pos (show d.toNat - 48 < 10 by omega), key d _ (by omega) (by omega)]; rfl
    · rw [if_neg hd] at h; exact absurd rfl h
/-! ### pieces -/
def rightP (p : Pc) : Prop :=
  ((p.kind = 1 ∨ p.kind = 4) ∧ p.texts.length = 1 ∧ p.texts.getD 0 .empty ≠ .empty ∧ p.n = 0) ∨ (p.kind = 2 ∧ p.texts.length = 0 ∧ 1 ≤ p.n ∧ p.n ≤ 99) ∨ (p.kind = 3 ∧ 2 ≤ p.texts.length ∧ p.texts.length ≤ 4 ∧ p.n = 0)
instance (p : Pc) : Decidable (rightP p) := by unfold rightP; infer_instance
def rightB (p : Pc) (ahead : Int) : Bool := decide (rightP p) && !(decide (p.kind = 1) && decide (ahead = 1))
def checkB : Int → List Pc → Bool
  | _, [] => true
  | a, p :: ps => rightB p a && checkB p.kind ps
def joinL : List (List UInt8) → List UInt8
  | [] => []
  | [x] => x
  | x :: y :: r => x ++ 124 :: joinL (y :: r)
def escB (b : ByteArray) : List UInt8 := escL (bl b)
def pcL (p : Pc) : List UInt8 :=
  if p.kind = 2 then 91 :: (numL p.n.toNat ++ [93])
  else if p.kind = 4 then 60 :: (joinL (p.texts.map escB) ++ [62])
  else if p.kind = 3 then 123 :: (joinL (p.texts.map escB) ++ [125])
  else joinL (p.texts.map escB)
def prK (ps : List Pc) : List UInt8 := ps.flatMap pcL
theorem prK_cons (p : Pc) (ps : List Pc) : prK (p :: ps) = pcL p ++ prK ps := by simp [prK]
theorem prK_app (a b : List Pc) : prK (a ++ b) = prK a ++ prK b := by simp [prK]
theorem one_text {l : List ByteArray} (h : l.length = 1) : l = [l.getD 0 .empty] := by
  match l, h with
  | [x], _ => rfl
theorem stop_mark {c : UInt8} {r : List UInt8} (h : isMk c = true) (h2 : c ≠ 92) : stopB (c :: r) = true := by
  show (isMk c && decide (c ≠ 92)) = true
  rw [h, Bool.true_and]; exact decide_eq_true h2
theorem bl_ne {b : ByteArray} (h : b ≠ .empty) : bl b ≠ [] := fun e => h (by rw [← bs_bl b, e]; rfl)
theorem wantR_self (c : UInt8) (p : Pc) (r : List UInt8) : wantR c p (c :: r) = .ok p r := by simp [wantR]
theorem fixR_of : ∀ (xs : List ByteArray) (x : ByteArray) (f : Nat) (ts : List ByteArray) (r : List UInt8), xs.length ≤ f → f + ts.length = 3 → 2 ≤ (ts ++ x :: xs).length → fixR f ts (joinL ((x :: xs).map escB) ++ 125 :: r) = .ok ⟨3, ts ++ x :: xs, 0⟩ r
  | [], x, f, ts, r, hf, h3, h2 => by
    rw [fixR_eq]
    show (match cont (escL (bl x) ++ 125 :: r) with
      | CR.bad k => PR.bad k
      | CR.ok t r' => fixA f (ts ++ [bs t]) r') = _
    rw [cont_of _ _ (stop_mark (by decide) (by decide))]
    show fixA f (ts ++ [bs (bl x)]) (125 :: r) = _
    rw [bs_bl, fixA_ok (by simp) (by rfl) h2]; rfl
  | y :: ys, x, f, ts, r, hf, h3, h2 => by
    simp only [List.length_cons] at hf
    obtain ⟨f, rfl⟩ : ∃ g, f = g + 1 := ⟨f - 1, by omega⟩
    rw [fixR_eq]
    have e : joinL ((x :: y :: ys).map escB) ++ 125 :: r = escL (bl x) ++ 124 :: (joinL ((y :: ys).map escB) ++ 125 :: r) := by
      show (escL (bl x) ++ 124 :: joinL ((y :: ys).map escB)) ++ 125 :: r = _
      simp
    rw [e, cont_of _ _ (stop_mark (by decide) (by decide))]
    show fixA (f + 1) (ts ++ [bs (bl x)]) (124 :: _) = _
    rw [bs_bl, fixA_go (by simp) (by rfl)]
    have := fixR_of ys y f (ts ++ [x]) r (by omega) (by simp; omega) (by simp; omega)
    rw [List.append_assoc] at this
    exact this
theorem pieceR_of (p : Pc) (r : List UInt8) (h : rightP p) (hs : p.kind = 1 → stopB r = true) : pieceR (pcL p ++ r) = .ok p r ∧ (p.kind ≠ 1 → stopB (pcL p) = true) ∧ pcL p ≠ [] := by
  obtain ⟨kind, texts, n⟩ := p
  rcases h with ⟨hk, h1, hne, hn⟩ | ⟨hk, h1, hn1, hn2⟩ | ⟨hk, h1, h2, hn⟩
  · simp only at hk h1 hne hn hs
    subst hn
    rw [one_text h1] at hne ⊢
    generalize texts.getD 0 .empty = x at hne ⊢
    have hne : x ≠ .empty := hne
    have hb := bl_ne hne
    rcases hk with rfl | rfl
    · have e : pcL ⟨1, [x], 0⟩ = escL (bl x) := rfl
      rw [e]
      refine ⟨?_, fun h => absurd rfl h, fun e => hb (escL_nil.mp e)⟩
      have hc := cont_of (bl x) r (hs rfl)
      have hp : plainR (escL (bl x) ++ r) = .ok ⟨1, [x], 0⟩ r := by
        unfold plainR; rw [hc]
        dsimp only
        rw [if_neg hb, bs_bl]
      cases hq : escL (bl x) ++ r with
      | nil => rw [hq] at hc; injection hc with e1 e2; exact absurd e1.symm hb
      | cons c q =>
        rw [hq] at hp hc
        have hnm : ¬ (isMk c = true ∧ c ≠ 92) := fun h => by
          rw [cont_stop q h.2 h.1] at hc; injection hc with e1 e2; exact hb e1.symm
        have k : ∀ m : UInt8, isMk m = true → m ≠ 92 → c ≠ m := fun m h1 h2 e => hnm ⟨by rw [e]; exact h1, by rw [e]; exact h2⟩
        rw [pieceR_cons, if_neg (k 91 (by decide) (by decide)), if_neg (k 60 (by decide) (by decide)), if_neg (k 123 (by decide) (by decide))]
        exact hp
    · have e : pcL ⟨4, [x], 0⟩ = 60 :: (escL (bl x) ++ [62]) := rfl
      rw [e]
      refine ⟨?_, fun _ => rfl, by simp⟩
      have hc := cont_of (bl x) (62 :: r) (stop_mark (by decide) (by decide))
      have e2 : (60 :: (escL (bl x) ++ [62])) ++ r = 60 :: (escL (bl x) ++ 62 :: r) := by simp
      rw [e2, pieceR_cons, if_neg (by decide), if_pos rfl]
      unfold dimR
      rw [hc]
      dsimp only
      rw [if_neg hb, bs_bl]
      exact wantR_self _ _ _
  · simp only at hk h1 hn1 hn2 hs
    subst hk
    obtain rfl : texts = [] := List.length_eq_zero_iff.mp h1
    have e : pcL ⟨2, [], n⟩ = 91 :: (numL n.toNat ++ [93]) := rfl
    rw [e]
    refine ⟨?_, fun _ => rfl, by simp⟩
    have e2 : (91 :: (numL n.toNat ++ [93])) ++ r = 91 :: (numL n.toNat ++ 93 :: r) := by simp
    have hg := gapN_of (n := n.toNat) (by omega) (by omega) r
    rw [e2, pieceR_cons, if_pos rfl]
    unfold gapR
    rw [hg]
    dsimp only
    rw [if_neg (by omega), show ((n.toNat : Nat) : Int) = n by omega]
    exact wantR_self _ _ _
  · simp only at hk h1 h2 hn hs
    subst hk; subst hn
    have e : pcL ⟨3, texts, 0⟩ = 123 :: (joinL (texts.map escB) ++ [125]) := rfl
    rw [e]
    refine ⟨?_, fun _ => rfl, by simp⟩
    have e2 : (123 :: (joinL (texts.map escB) ++ [125])) ++ r = 123 :: (joinL (texts.map escB) ++ 125 :: r) := by simp
    rw [e2, pieceR_cons, if_neg (by decide), if_neg (by decide), if_pos rfl]
    match texts, h1, h2 with
    | x :: xs, h1, h2 =>
      simp only [List.length_cons] at h1 h2
      exact fixR_of xs x 3 [] r (by omega) rfl (by simp; omega)
theorem prK_stop {ps : List Pc} {a : Int} (h : checkB a ps = true) (ha : a = 1) : stopB (prK ps) = true := by
  cases ps with
  | nil => rfl
  | cons p ps =>
    unfold checkB rightB at h
    rw [Bool.and_eq_true, Bool.and_eq_true, decide_eq_true_eq] at h
    have hk : p.kind ≠ 1 := fun e => by have := h.1.2; rw [e, ha] at this; simp at this
    have h2 := pieceR_of p [] h.1.1 (fun _ => rfl)
    rw [prK_cons]
    have h3 := h2.2.1 hk
    cases hq : pcL p with
    | nil => exact absurd hq h2.2.2
    | cons c q => rw [hq] at h3; exact h3
theorem parse_pr : ∀ (ps : List Pc) (a : Int), checkB a ps = true → parseL (prK ps) = .ok ps
  | [], _, _ => rfl
  | p :: ps, a, h => by
    unfold checkB at h
    rw [Bool.and_eq_true] at h
    have hr : rightP p := by
      have := h.1
      unfold rightB at this
      rw [Bool.and_eq_true, decide_eq_true_eq] at this
      exact this.1
    have hp := pieceR_of p (prK ps) hr (fun e => prK_stop h.2 e)
    rw [prK_cons, parseL_ok (fun e => hp.2.2 (List.append_eq_nil_iff.mp e).1) hp.1, parse_pr ps p.kind h.2]; rfl
end Go.Proofs.YtkdpmkjbfkjmdaaDoor.V

namespace Go.Proofs.YtkdpmkjbfkjmdaaDoor.V
set_option linter.unusedVariables false
set_option linter.unusedSimpArgs false
open Go Go.Proofs Go.RowKit
theorem spot_none {w : World} {a : Addr} {v : Value} (h : w.cell? a = some v) : a = ⟨a.block, a.off, none⟩ := by
  unfold World.cell? at h
  split at h
  · split at h
    · cases h
    · rename_i hs
      cases a with
      | mk b o s => cases s with
        | none => rfl
        | some x => simp at hs
  · cases h
theorem addn (g o j : Nat) : (⟨g, o, none⟩ : Addr).add j = ⟨g, o + j, none⟩ := by
  unfold Addr.add
  by_cases h : j = 0
  · simp [h]
  · simp [h]
theorem join_fn (xs : List ByteArray) (sep : ByteArray) (hn : xs.length ≤ 1000) (hl : (Lib.join (xs.map (·.data.toList)) sep.data.toList).length ≤ 100000000) :
    Fn Tryd.prog 29 [tS.L xs, .str sep] (.str (bs (Lib.join (xs.map (·.data.toList)) sep.data.toList))) := by
  refine ⟨⟨_, Tryd.func29, by decide, rfl⟩, fun S w vs hS gl hlen hargs => ?_⟩
  obtain ⟨v0, v1, rfl⟩ : ∃ v0 v1, vs = #[v0, v1] := by
    obtain ⟨l⟩ := vs
    match l, hlen with
    | [a, b], _ => exact ⟨a, b, rfl⟩
  have h0 := hargs 0 _ v0 rfl rfl
  have h1 := hargs 1 _ v1 rfl rfl
  obtain ⟨rfl, hs1⟩ := h1
  obtain ⟨A, c, rfl, hc1, hc2, hA, hcell⟩ := h0
  have hsz : ∀ r : List UInt8, r.length ≤ 100000000 → (bs r).size ≤ maxLen := fun r hr => by rw [bs_size]; exact Nat.le_trans hr (by decide)
  cases hx : xs with
  | nil =>
    subst hx
    refine Calls.mono (strings_Join_none A c sep w) ?_
    rintro e w' ⟨rfl, rfl⟩
    exact ⟨_, rfl, Below.refl _ _, rfl, Nat.zero_le _⟩
  | cons x r =>
    rw [← hx]
    have hpos : 0 < xs.length := by rw [hx]; exact Nat.succ_pos _
    obtain ⟨ad, rfl, hok, hcs⟩ := hcell hpos
    have hat : ∀ (j : Nat) y, xs[j]? = some y → w.cell? (ad.add j) = some (.string y) := by
      intro j y hj
      have hjl : j < xs.length := by
        rcases Nat.lt_or_ge j xs.length with h | h
        · exact h
        · rw [List.getElem?_eq_none h] at hj; cases hj
      obtain ⟨cv, h1, h2, h3⟩ := hcs j 0 hjl (by decide)
      have h3 : VR w S (.str (xs.getD j .empty)) noref cv := h3
      obtain ⟨rfl, _⟩ := h3
      rw [show j * tS.sz + 0 = j from Nat.mul_one j] at h1
      rw [h1, List.getD_eq_getElem?_getD, hj]; rfl
    have hsp : ad = ⟨ad.block, ad.off, none⟩ := by
      obtain ⟨y, hy⟩ : ∃ y, xs[0]? = some y := by rw [hx]; exact ⟨x, rfl⟩
      exact spot_none (hat 0 y hy)
    have hjoin := strings_Join ad.block ad.off c xs sep w (fun j y hj => by
      have := hat j y hj
      rw [hsp, addn] at this; exact this) (hS _ hok) (by omega) hc1 (by omega)
    rw [← hsp] at hjoin
    refine Calls.mono hjoin ?_
    rintro e w' ⟨rfl, hb⟩
    exact ⟨_, rfl, hb, rfl, hsz _ hl⟩
theorem itoa_fn (n : Nat) (hn : n < 100) : Fn Tryd.prog 30 [.int .i64 (n : Int)] (.str (bs (numL n))) := by
  refine ⟨⟨_, Tryd.func30, by decide, rfl⟩, fun S w vs hS gl hlen hargs => ?_⟩
  obtain ⟨v0, rfl⟩ : ∃ v0, vs = #[v0] := by
    obtain ⟨l⟩ := vs
    match l, hlen with
    | [a], _ => exact ⟨a, rfl⟩
  have h0 := hargs 0 _ v0 rfl rfl
  obtain rfl : v0 = .int .i64 (n : Int) := h0
  refine Calls.mono (strconv_Itoa_small n hn w) ?_
  rintro e w' ⟨rfl, rfl⟩
  have hd : Lib.decDigits n = numL n := by
    unfold numL
    rw [Lib.decDigits]
    split
    · rfl
    · rw [Lib.decDigits, dif_pos (show n / 10 < 10 by omega)]; rfl
  rw [hd]
  refine ⟨_, rfl, Below.refl _ _, rfl, ?_⟩
  show (bs (numL n)).size ≤ maxLen
  rw [bs_size]
  exact Nat.le_trans (show (numL n).length ≤ 2 by unfold numL; split <;> simp) (by decide)
theorem joinL_is : ∀ xs : List ByteArray, Lib.join (xs.map (·.data.toList)) [124] = joinL (xs.map bl)
  | [] => rfl
  | [x] => by rw [List.map, List.map, Lib.join_one]; rfl
  | x :: y :: r => by
    have ih := joinL_is (y :: r)
    show Lib.join (x.data.toList :: (y :: r).map (·.data.toList)) [124] = bl x ++ 124 :: joinL ((y :: r).map bl)
    rw [← ih, Lib.join_cons]
    simp only [List.map]
    rw [Lib.join_cons]
    simp [Lib.joinTail, bl]
end Go.Proofs.YtkdpmkjbfkjmdaaDoor.V

namespace Go.Proofs.YtkdpmkjbfkjmdaaDoor.V
set_option linter.unusedVariables false
set_option linter.unusedSimpArgs false
open Go Go.Proofs Go.RowKit
theorem fixR_inv : ∀ (f : Nat) (ts : List ByteArray) (r : List UInt8) {p : Pc} {r' : List UInt8}, fixR f ts r = .ok p r' → ∃ x xs, p = ⟨3, ts ++ x :: xs, 0⟩ ∧ r = joinL ((x :: xs).map escB) ++ 125 :: r' ∧ xs.length ≤ f ∧ 2 ≤ (ts ++ x :: xs).length
  | f, ts, r, p, r', h => by
    rw [fixR_eq] at h
    cases hc : cont r with
    | bad k => rw [hc] at h; cases h
    | ok t r1 =>
      rw [hc] at h
      obtain ⟨hr, hs⟩ := cont_inv _ r (Nat.le_refl _) hc
      have hend : ∀ {r1 : List UInt8}, fixEnd (ts ++ [bs t]) r1 = .ok p r' → r = escL t ++ r1 → ∃ x xs, p = ⟨3, ts ++ x :: xs, 0⟩ ∧ r = joinL ((x :: xs).map escB) ++ 125 :: r' ∧ xs.length ≤ f ∧ 2 ≤ (ts ++ x :: xs).length := by
        intro r1 h e
        unfold fixEnd at h
        split at h
        · cases h
        · rename_i h2
          obtain ⟨_, rfl, rfl⟩ := wantR_le.2 h
          refine ⟨bs t, [], rfl, ?_, Nat.zero_le _, by omega⟩
          rw [e]
          show _ = escL (bl (bs t)) ++ _
          rw [bl_bs]
      match f, r1, h, hr with
      | f, [], h, hr => exact hend (by cases f <;> exact h) hr
      | 0, c :: r2, h, hr => exact hend h hr
      | f + 1, c :: r2, h, hr =>
        have h' : (if c = 124 then fixR f (ts ++ [bs t]) r2 else fixEnd (ts ++ [bs t]) (c :: r2)) = .ok p r' := h
        by_cases hc : c = 124
        · rw [if_pos hc] at h'
          obtain ⟨x, xs, e1, e2, e3, e4⟩ := fixR_inv f _ r2 h'
          refine ⟨bs t, x :: xs, by rw [e1]; simp, ?_, by simp; omega, by simp at e4 ⊢; omega⟩
          rw [hr, e2, hc]
          show _ = (escL (bl (bs t)) ++ 124 :: joinL ((x :: xs).map escB)) ++ _
          rw [bl_bs]; simp
        · rw [if_neg hc] at h'
          exact hend h' hr
theorem plain_inv {l r : List UInt8} {p : Pc} (h : plainR l = .ok p r) : ∃ t, t ≠ [] ∧ p = ⟨1, [bs t], 0⟩ ∧ cont l = .ok t r := by
  rw [plainR_eq] at h
  cases hx : (cont l).full with
  | bad k => rw [hx] at h; cases h
  | ok t r' => rw [hx] at h; cases h; exact ⟨t, (full_ok hx).2, rfl, (full_ok hx).1⟩
theorem bs_ne {t : List UInt8} (h : t ≠ []) : bs t ≠ .empty := fun e => h (bs_inj (b := []) e)
theorem pieceR_inv {l r : List UInt8} {p : Pc} (h : pieceR l = .ok p r) : l = pcL p ++ r ∧ rightP p ∧ (p.kind = 1 → stopB r = true) ∧ (stopB l = true → p.kind ≠ 1) := by
  have hplain : ∀ {l : List UInt8}, plainR l = .ok p r → l = pcL p ++ r ∧ rightP p ∧ (p.kind = 1 → stopB r = true) ∧ (stopB l = true → p.kind ≠ 1) := by
    intro l h
    obtain ⟨t, ht, rfl, hc⟩ := plain_inv h
    obtain ⟨e1, e2⟩ := cont_inv _ l (Nat.le_refl _) hc
    refine ⟨?_, .inl ⟨.inl rfl, rfl, bs_ne ht, rfl⟩, fun _ => e2, fun hs => ?_⟩
    · rw [e1]
      show _ = escL (bl (bs t)) ++ r
      rw [bl_bs]
    · exfalso
      cases l with
      | nil => cases hc; exact ht rfl
      | cons c l =>
        have hs' : (isMk c && decide (c ≠ 92)) = true := hs
        rw [Bool.and_eq_true, decide_eq_true_eq] at hs'
        rw [cont_stop l hs'.2 hs'.1] at hc
        injection hc with e1 e2
        exact ht e1.symm
  cases l with
  | nil => exact hplain h
  | cons c s =>
    rw [pieceR_cons] at h
    by_cases h1 : c = 91
    · rw [if_pos h1] at h
      unfold gapR at h
      by_cases hz : (gapN s).1 = 0
      · rw [if_pos hz] at h; cases h
      · rw [if_neg hz] at h
        obtain ⟨_, rfl, e⟩ := wantR_le.2 h
        obtain ⟨g1, g2⟩ := gapN_inv s hz
        refine ⟨?_, .inr (.inl ⟨rfl, rfl, ?_, ?_⟩), fun e => absurd e (by show ¬ (2 : Int) = 1; decide), fun _ e => absurd e (by show ¬ (2 : Int) = 1; decide)⟩
        · show c :: s = 91 :: (numL ((((gapN s).1 : Nat) : Int)).toNat ++ [93]) ++ r
          rw [Int.toNat_natCast, h1]
          conv => lhs; rw [g1, e]
          simp
        · show (1 : Int) ≤ (((gapN s).1 : Nat) : Int); omega
        · show (((gapN s).1 : Nat) : Int) ≤ 99; omega
    rw [if_neg h1] at h
    by_cases h2 : c = 60
    · rw [if_pos h2, dimR_eq] at h
      cases hx : (cont s).full with
      | bad k => rw [hx] at h; cases h
      | ok t r1 =>
        rw [hx] at h
        obtain ⟨_, rfl, e⟩ := wantR_le.2 h
        obtain ⟨e1, e2⟩ := cont_inv _ s (Nat.le_refl _) (full_ok hx).1
        refine ⟨?_, .inl ⟨.inr rfl, rfl, bs_ne (full_ok hx).2, rfl⟩, fun e => absurd e (by show ¬ (4 : Int) = 1; decide), fun _ e => absurd e (by show ¬ (4 : Int) = 1; decide)⟩
        rw [h2, e1, e]
        show _ = 60 :: (escL (bl (bs t)) ++ [62]) ++ r
        rw [bl_bs]; simp
    rw [if_neg h2] at h
    by_cases h3 : c = 123
    · rw [if_pos h3] at h
      obtain ⟨x, xs, rfl, e2, e3, e4⟩ := fixR_inv 3 [] s h
      refine ⟨?_, .inr (.inr ⟨rfl, e4, ?_, rfl⟩), fun e => absurd e (by show ¬ (3 : Int) = 1; decide), fun _ e => absurd e (by show ¬ (3 : Int) = 1; decide)⟩
      · rw [h3, e2]
        show _ = 123 :: (joinL ((x :: xs).map escB) ++ [125]) ++ r
        simp
      · show (x :: xs).length ≤ 4
        simp; omega
    rw [if_neg h3] at h
    exact hplain h
theorem parse_inv : ∀ (n : Nat) (l : List UInt8), l.length ≤ n → ∀ {ps : List Pc}, parseL l = .ok ps → ∀ a : Int, (a = 1 → stopB l = true) → l = prK ps ∧ checkB a ps = true
  | n, [], _, ps, h, a, ha => by cases h; exact ⟨rfl, rfl⟩
  | 0, c :: l, hn, _, _, _, _ => absurd hn (by simp)
  | n + 1, c :: l, hn, ps, h, a, ha => by
    cases hp : pieceR (c :: l) with
    | bad k => rw [parseL_bad (by simp) hp] at h; cases h
    | ok p r =>
      have hlt := (pieceR_le (c :: l)).2 hp
      rw [parseL_ok (by simp) hp] at h
      cases hr : parseL r with
      | bad k => rw [hr] at h; cases h
      | ok qs =>
        rw [hr] at h
        cases h
        obtain ⟨e1, e2, e3, e4⟩ := pieceR_inv hp
        obtain ⟨f1, f2⟩ := parse_inv n r (by omega) hr p.kind e3
        refine ⟨by rw [prK_cons, ← f1]; exact e1, ?_⟩
        unfold checkB rightB
        rw [f2, Bool.and_true, Bool.and_eq_true, decide_eq_true_eq]
        refine ⟨e2, ?_⟩
        cases hk : decide (p.kind = 1) with
        | false => rfl
        | true =>
          have : ¬ a = 1 := fun e => e4 (ha e) (of_decide_eq_true hk)
          rw [decide_eq_false this]; rfl
theorem check_len : ∀ {ps : List Pc} {a : Int}, checkB a ps = true → ∀ p ∈ ps, rightP p
  | [], _, _, p, hp => by cases hp
  | q :: ps, a, h, p, hp => by
    unfold checkB at h
    rw [Bool.and_eq_true] at h
    rcases List.mem_cons.mp hp with rfl | hp
    · have := h.1
      unfold rightB at this
      rw [Bool.and_eq_true, decide_eq_true_eq] at this
      exact this.1
    · exact check_len h.2 p hp
theorem right_texts {p : Pc} (h : rightP p) : p.texts.length ≤ 4 := by
  rcases h with h | h | h <;> omega
theorem pcL_pos {p : Pc} (h : rightP p) : 1 ≤ (pcL p).length := by
  have := (pieceR_of p [] h (fun _ => rfl)).2.2
  cases hq : pcL p with
  | nil => exact absurd hq this
  | cons c q => simp
theorem prK_len : ∀ {ps : List Pc}, (∀ p ∈ ps, rightP p) → ps.length ≤ (prK ps).length
  | [], _ => Nat.le_refl _
  | p :: ps, h => by
    rw [prK_cons, List.length_append, List.length_cons]
    have := pcL_pos (h p List.mem_cons_self)
    have := prK_len (fun q hq => h q (List.mem_cons_of_mem _ hq))
    omega
/-- How many pieces, how many texts. -/
theorem parseT_len (l : List UInt8) : (parseT l).1.length ≤ 65536 ∧ ∀ p ∈ (parseT l).1, p.texts.length ≤ 4 := by
  unfold parseT
  split
  · exact ⟨Nat.zero_le _, fun p hp => by cases hp⟩
  · rename_i hl
    cases h : parseL l with
    | bad k => exact ⟨Nat.zero_le _, fun p hp => by cases hp⟩
    | ok ps =>
      obtain ⟨e1, e2⟩ := parse_inv _ l (Nat.le_refl _) h 0 (fun h => absurd h (by decide))
      have h3 := check_len e2
      refine ⟨?_, fun p hp => right_texts (h3 p hp)⟩
      have := prK_len h3
      rw [← e1] at this
      show ps.length ≤ 65536
      omega
end Go.Proofs.YtkdpmkjbfkjmdaaDoor.V

namespace Go.Proofs.YtkdpmkjbfkjmdaaDoor.V
set_option linter.unusedVariables false
set_option linter.unusedSimpArgs false
open Go Go.Proofs Go.RowKit
set_option maxRecDepth 100000
set_option maxHeartbeats 1000000
theorem rightB_iff (p : Pc) (a : Int) : rightB p a = true ↔ rightP p ∧ ¬ (p.kind = 1 ∧ a = 1) := by
  unfold rightB
  rw [Bool.and_eq_true, decide_eq_true_eq]
  by_cases h1 : p.kind = 1 <;> by_cases h2 : a = 1 <;> simp [h1, h2]
theorem right_fn (p : Pc) (a : Int) (ht : p.texts.length ≤ 2000000) : Fn Tryd.prog 44 [.agg 3 (tPc.enc p), .int .i64 a] (.bool (rightB p a)) := by
  refine Fn.of Tryd.f44 _ Tryd.func44 rfl (by decide) (by show 2 ≤ _; decide) tbOk 74 rfl fun S w0 gl => ?_
  obtain ⟨x, hX⟩ : ∃ x : Int, (p.texts.getD 0 .empty = .empty) ↔ x = 0 := by
    by_cases h : p.texts.getD 0 .empty = .empty
    · exact ⟨0, ⟨fun _ => rfl, fun _ => h⟩⟩
    · exact ⟨1, ⟨fun e => absurd e h, fun e => absurd e (by decide)⟩⟩
  refine Run.go ?_; (conv => whnf); repeat' (first | ((with_reducible refine Know.mk fun _ => ?_); conv => whnf) | ((with_reducible refine Need.mk ?_ ?_); exact nd; conv => whnf) | ((with_reducible first | refine Both.mk ?_ ?_ | refine Any.mk fun b hb => ?_ | refine AskB.dec (fun hb => ?_) (fun hb => ?_) | refine AskB.ndec (fun hb => ?_) (fun hb => ?_) | refine AskB.mk (fun hb => ?_) (fun hb => ?_)) <;> conv => whnf) | ((with_reducible first | refine Run.drawX rfl (by decide +kernel) ?_ | refine Run.drawT rfl (by decide +kernel) ?_ | refine Run.drawW rfl (by decide +kernel) ?_); conv => whnf) | fail)
  all_goals
    first
      | refine Run.leave (ts := [4]) (.inr ⟨_, rfl⟩) rfl Tryd.func44 rfl (Le.ff.trans (Le.bool (?_ : false = rightB p a)))
      | refine Run.leave (ts := [4]) (.inr ⟨_, rfl⟩) rfl Tryd.func44 rfl (Le.tt.trans (Le.bool (?_ : true = rightB p a)))
      | refine Run.leave (ts := [4]) (.inr ⟨_, rfl⟩) rfl Tryd.func44 rfl (Le.bool (?_ : _ = rightB p a))
    rw [Bool.eq_iff_iff, rightB_iff]
    unfold rightP
    have hz : (p.texts.getD (Int.toNat 0) tS.z = ByteArray.mk #[]) ↔ x = 0 := hX
    simp only [hz, hX, ne_eq, Bool.not_eq_true', decide_eq_true_eq, decide_eq_false_iff_not, Bool.false_eq_true, false_iff, true_iff] at *
    omega
theorem check_fn (ps : List Pc) (hl : ps.length ≤ 1000000) (ht : ∀ p ∈ ps, p.texts.length ≤ 2000000) : Fn Tryd.prog 28 [tPc.L ps] (.int .i64 (if checkB 0 ps = true then 0 else 51)) := by
  refine Fn.of Tryd.f28 _ Tryd.func28 rfl (by decide) (by show 1 ≤ _; decide) tbOk 19 rfl fun S w0 gl => ?_
  refine Run.go ?_; (conv => whnf); repeat' (first | ((with_reducible refine Know.mk fun _ => ?_); conv => whnf) | ((with_reducible refine Need.mk ?_ ?_); exact nd; conv => whnf) | ((with_reducible first | refine Both.mk ?_ ?_ | refine Any.mk fun b hb => ?_ | refine AskB.dec (fun hb => ?_) (fun hb => ?_) | refine AskB.ndec (fun hb => ?_) (fun hb => ?_) | refine AskB.mk (fun hb => ?_) (fun hb => ?_)) <;> conv => whnf) | ((with_reducible first | refine Run.drawX rfl (by decide +kernel) ?_ | refine Run.drawT rfl (by decide +kernel) ?_ | refine Run.drawW rfl (by decide +kernel) ?_); conv => whnf) | fail)
  refine Run.loop [6, 7] (fun (a : Nat × Int) => [(8, .int .i64 (a.1 : Int)), (3, .int .i64 a.2)]) (fun i => []) (fun a => a.1 ≤ ps.length ∧ checkB a.2 (ps.drop a.1) = checkB 0 ps) (fun a => ps.length - a.1) (0, 0) ⟨Nat.zero_le _, rfl⟩ ⟨Le.refl _, Le.refl _, trivial⟩ (by trivial) ?_
  intro ⟨i, a⟩ ⟨hi, heq⟩ IH
  simp only [] at hi heq ⊢
  have hw1 : IntKind.i64.wrap ((i : Int) + 1) = ((i + 1 : Nat) : Int) := wrap64 (by omega) (by omega)
  by_cases hil : i < ps.length
  · have hd : ps.drop i = ps.getD i tPc.z :: ps.drop (i + 1) := drop_at ps i tPc.z hil
    have hck : checkB a (ps.drop i) = (rightB (ps.getD i tPc.z) a && checkB (ps.getD i tPc.z).kind (ps.drop (i + 1))) := by rw [hd]; rfl
    have hr := right_fn (ps.getD i tPc.z) a (ht _ (getD_mem' (z := tPc.z) i hil))
    refine Run.go ?_; (conv => whnf); repeat' (first | ((with_reducible refine Know.mk fun _ => ?_); conv => whnf) | ((with_reducible refine Need.mk ?_ ?_); exact nd; conv => whnf) | ((with_reducible first | refine Both.mk ?_ ?_ | refine Any.mk fun b hb => ?_ | refine AskB.dec (fun hb => ?_) (fun hb => ?_) | refine AskB.ndec (fun hb => ?_) (fun hb => ?_) | refine AskB.mk (fun hb => ?_) (fun hb => ?_)) <;> conv => whnf) | ((with_reducible first | refine Run.drawX rfl (by decide +kernel) ?_ | refine Run.drawT rfl (by decide +kernel) ?_ | refine Run.drawW rfl (by decide +kernel) ?_); conv => whnf) | fail)
    all_goals try (exfalso; omega)
    refine Run.callBX hr rfl rfl ⟨pc_le (Le.refl _) (Le.refl _) (Le.refl _), Le.refl _, trivial⟩ rfl rfl rfl ?_
    (conv => whnf); repeat' (first | ((with_reducible refine Know.mk fun _ => ?_); conv => whnf) | ((with_reducible refine Need.mk ?_ ?_); exact nd; conv => whnf) | ((with_reducible first | refine Both.mk ?_ ?_ | refine Any.mk fun b hb => ?_ | refine AskB.dec (fun hb => ?_) (fun hb => ?_) | refine AskB.ndec (fun hb => ?_) (fun hb => ?_) | refine AskB.mk (fun hb => ?_) (fun hb => ?_)) <;> conv => whnf) | ((with_reducible first | refine Run.drawX rfl (by decide +kernel) ?_ | refine Run.drawT rfl (by decide +kernel) ?_ | refine Run.drawW rfl (by decide +kernel) ?_); conv => whnf) | fail)
    · have hb : rightB (ps.getD i tPc.z) a = false := by
        have h : (!rightB (ps.getD i tPc.z) a) = true := by assumption
        simpa only [Bool.not_eq_true'] using h
      have hc : ¬ checkB 0 ps = true := by rw [← heq, hck, hb]; simp
      rw [if_neg hc]
      exact Run.leave (ts := [2]) (.inr ⟨_, rfl⟩) rfl Tryd.func28 rfl (Le.refl _)
    · have hb : rightB (ps.getD i tPc.z) a = true := by
        have h : (!rightB (ps.getD i tPc.z) a) = false := by assumption
        simpa only [Bool.not_eq_false'] using h
      refine Run.to _ _ ?_ ?_ (IH (i + 1, (ps.getD i tPc.z).kind) (by simp only []; omega) ⟨by simp only []; omega, ?_⟩)
      · exact ⟨Le.refl _, Le.refl _, Le.int hw1, Le.refl _, trivial⟩
      · trivial
      · simp only []
        rw [← heq, hck, hb, Bool.true_and]
  · refine Run.go ?_; (conv => whnf); repeat' (first | ((with_reducible refine Know.mk fun _ => ?_); conv => whnf) | ((with_reducible refine Need.mk ?_ ?_); exact nd; conv => whnf) | ((with_reducible first | refine Both.mk ?_ ?_ | refine Any.mk fun b hb => ?_ | refine AskB.dec (fun hb => ?_) (fun hb => ?_) | refine AskB.ndec (fun hb => ?_) (fun hb => ?_) | refine AskB.mk (fun hb => ?_) (fun hb => ?_)) <;> conv => whnf) | ((with_reducible first | refine Run.drawX rfl (by decide +kernel) ?_ | refine Run.drawT rfl (by decide +kernel) ?_ | refine Run.drawW rfl (by decide +kernel) ?_); conv => whnf) | fail)
    all_goals try (exfalso; omega)
    have hc : checkB 0 ps = true := by rw [← heq, List.drop_eq_nil_of_le (by omega)]; rfl
    rw [if_pos hc]
    exact Run.leave (ts := [2]) (.inr ⟨_, rfl⟩) rfl Tryd.func28 rfl (Le.refl _)
end Go.Proofs.YtkdpmkjbfkjmdaaDoor.V

namespace Go.Proofs.YtkdpmkjbfkjmdaaDoor.V
set_option linter.unusedVariables false
set_option linter.unusedSimpArgs false
open Go Go.Proofs Go.RowKit
section
variable {C : Ctx} {env : Env} {h : Heap} {o : Oper} {ops : Array Oper} {i : Nat} {rest : List Nat} {k : List Item} {f : FuncId} {fn : Func} {x y : Operand}
theorem Run.maxInt {c : Call} {kd kd2 : IntKind} (a b : Int) (ho : ops.toList[i]? = some o) (hc : o.op = .call c) (hcb : c.callee = .builtin .max) (hca : c.args.toList = [x, y])
    (hd : okD C o.dst = true) (hr : ready env ops o = true) (hx : ev env x = .int kd a) (hy : ev env y = .int kd2 b)
    (next : Run C (.inRegion ops rest :: k) (putE env o.dst (.int kd (if b > a then b else a))) h) : Run C (.inRegion ops (i :: rest) :: k) env h :=
  Run.opG (fun env' h' z => env' = env ∧ h' = h ∧ z = .int kd (if b > a then b else a)) ho hd hr (fun ι A w R => by
    have hca' := toList_two hca
    have hvx := ev_ok R x
    have hvy := ev_ok R y
    rw [hx] at hvx
    rw [hy] at hvy
    have hvx' : A.eval x = .int kd a := hvx
    have hvy' : A.eval y = .int kd2 b := hvy
    refine OpOut.same R ⟨rfl, rfl, rfl⟩ (v := .int kd (if b > a then b else a)) ?_ rfl
    simp only [execOp, hc, resolve, hcb, hca', invoke, builtin, Act.eval]
    simp [hvx', hvy', run_max_int2]) (fun env' h' y ⟨e1, e2, e3⟩ => by subst e1; subst e2; subst e3; exact next)
end
end Go.Proofs.YtkdpmkjbfkjmdaaDoor.V

namespace Go.Proofs.YtkdpmkjbfkjmdaaDoor.V
set_option linter.unusedVariables false
set_option linter.unusedSimpArgs false
open Go Go.Proofs Go.RowKit
set_option maxRecDepth 100000
set_option maxHeartbeats 1000000
def hdM : Nat → List Pc → Nat
  | m, [] => m
  | m, p :: ps => hdM (if p.texts.length > m then p.texts.length else m) ps
def handsA (ps : List Pc) : AV := tupL [.int .i64 (if checkB 0 ps = true then (hdM 1 ps : Nat) else (0 : Int)), .int .i64 (if checkB 0 ps = true then 0 else 51)]
/-- What the count is over: with or without the pieces that are no fixes. -/
theorem hdM_step {ps : List Pc} (h : ∀ p ∈ ps, rightP p) (i : Nat) (hi : i < ps.length) (m : Nat) (hm : 1 ≤ m) : hdM m (ps.drop i) = hdM (if (ps.getD i tPc.z).kind = 3 then (if (ps.getD i tPc.z).texts.length > m then (ps.getD i tPc.z).texts.length else m) else m) (ps.drop (i + 1)) := by
  have hr := h _ (getD_mem' (z := tPc.z) i hi)
  rw [drop_at ps i tPc.z hi]
  generalize ps.getD i tPc.z = p at *
  show hdM _ (ps.drop (i + 1)) = _
  congr 1
  by_cases h3 : p.kind = 3
  · rw [if_pos h3]
  · rw [if_neg h3]
    have : p.texts.length ≤ 1 := by
      rcases hr with h | h | h <;> omega
    rw [if_neg (by omega)]
theorem hands_fn (ps : List Pc) (hl : ps.length ≤ 1000000) (ht : ∀ p ∈ ps, p.texts.length ≤ 2000000) : Fn Tryd.prog 16 [tPc.L ps] (handsA ps) := by
  have hc := check_fn ps hl ht
  unfold handsA
  by_cases hk : checkB 0 ps = true
  · rw [if_pos hk] at hc
    rw [if_pos hk, if_pos hk]
    refine Fn.of Tryd.f16 _ Tryd.func16 rfl (by decide) (by show 1 ≤ _; decide) tbOk 29 rfl fun S w0 gl => ?_
    refine Run.go ?_; (conv => whnf); repeat' (first | ((with_reducible refine Know.mk fun _ => ?_); conv => whnf) | ((with_reducible refine Need.mk ?_ ?_); exact nd; conv => whnf) | ((with_reducible first | refine Both.mk ?_ ?_ | refine Any.mk fun b hb => ?_ | refine AskB.dec (fun hb => ?_) (fun hb => ?_) | refine AskB.ndec (fun hb => ?_) (fun hb => ?_) | refine AskB.mk (fun hb => ?_) (fun hb => ?_)) <;> conv => whnf) | ((with_reducible first | refine Run.drawX rfl (by decide +kernel) ?_ | refine Run.drawT rfl (by decide +kernel) ?_ | refine Run.drawW rfl (by decide +kernel) ?_); conv => whnf) | fail)
    refine Run.callBX hc rfl rfl ⟨Le.refl _, trivial⟩ rfl rfl rfl ?_
    (conv => whnf); repeat' (first | ((with_reducible refine Know.mk fun _ => ?_); conv => whnf) | ((with_reducible refine Need.mk ?_ ?_); exact nd; conv => whnf) | ((with_reducible first | refine Both.mk ?_ ?_ | refine Any.mk fun b hb => ?_ | refine AskB.dec (fun hb => ?_) (fun hb => ?_) | refine AskB.ndec (fun hb => ?_) (fun hb => ?_) | refine AskB.mk (fun hb => ?_) (fun hb => ?_)) <;> conv => whnf) | ((with_reducible first | refine Run.drawX rfl (by decide +kernel) ?_ | refine Run.drawT rfl (by decide +kernel) ?_ | refine Run.drawW rfl (by decide +kernel) ?_); conv => whnf) | fail)
    · refine Run.loop [13, 14] (fun (a : Nat × Nat) => [(15, .int .i64 (a.1 : Int)), (5, .int .i64 (a.2 : Int))]) (fun i => []) (fun a => a.1 ≤ ps.length ∧ 1 ≤ a.2 ∧ a.2 ≤ 2000000 ∧ hdM a.2 (ps.drop a.1) = hdM 1 ps) (fun a => ps.length - a.1) (0, 1) ⟨Nat.zero_le _, Nat.le_refl _, by decide, rfl⟩ ⟨Le.refl _, Le.refl _, trivial⟩ (by trivial) ?_
      intro ⟨i, m⟩ ⟨hi, hm, hm2, heq⟩ IH
      simp only [] at hi heq ⊢ hm hm2
      have hw1 : IntKind.i64.wrap ((i : Int) + 1) = ((i + 1 : Nat) : Int) := wrap64 (by omega) (by omega)
      by_cases hil : i < ps.length
      · have htl := ht _ (getD_mem' (z := tPc.z) i hil)
        have hst := hdM_step (check_len hk) i hil m hm
        have h0 : (ps.getD (i : Int).toNat tPc.z).texts.length = (ps.getD i tPc.z).texts.length := rfl
        refine Run.go ?_; (conv => whnf); repeat' (first | ((with_reducible refine Know.mk fun _ => ?_); conv => whnf) | ((with_reducible refine Need.mk ?_ ?_); exact nd; conv => whnf) | ((with_reducible first | refine Both.mk ?_ ?_ | refine Any.mk fun b hb => ?_ | refine AskB.dec (fun hb => ?_) (fun hb => ?_) | refine AskB.ndec (fun hb => ?_) (fun hb => ?_) | refine AskB.mk (fun hb => ?_) (fun hb => ?_)) <;> conv => whnf) | ((with_reducible first | refine Run.drawX rfl (by decide +kernel) ?_ | refine Run.drawT rfl (by decide +kernel) ?_ | refine Run.drawW rfl (by decide +kernel) ?_); conv => whnf) | fail)
        all_goals try (exfalso; omega)
        · have h3 : (ps.getD i tPc.z).kind = 3 := by assumption
          rw [if_pos h3] at hst
          refine Run.maxInt (x := .tmp 22) (y := .tmp 25) (c := ⟨.builtin .max, #[.tmp 22, .tmp 25], #[3, 3]⟩) _ _ rfl rfl rfl rfl rfl rfl rfl rfl ?_
          have hmx : (if ((ps.getD (i : Int).toNat tPc.z).texts.length : Int) > (m : Int) then ((ps.getD (i : Int).toNat tPc.z).texts.length : Int) else (m : Int)) = ((if (ps.getD i tPc.z).texts.length > m then (ps.getD i tPc.z).texts.length else m : Nat) : Int) := by
            rw [Int.toNat_natCast]
            split <;> split <;> omega
          refine Run.go ?_; (conv => whnf); repeat' (first | ((with_reducible refine Know.mk fun _ => ?_); conv => whnf) | ((with_reducible refine Need.mk ?_ ?_); exact nd; conv => whnf) | ((with_reducible first | refine Both.mk ?_ ?_ | refine Any.mk fun b hb => ?_ | refine AskB.dec (fun hb => ?_) (fun hb => ?_) | refine AskB.ndec (fun hb => ?_) (fun hb => ?_) | refine AskB.mk (fun hb => ?_) (fun hb => ?_)) <;> conv => whnf) | ((with_reducible first | refine Run.drawX rfl (by decide +kernel) ?_ | refine Run.drawT rfl (by decide +kernel) ?_ | refine Run.drawW rfl (by decide +kernel) ?_); conv => whnf) | fail)
          refine Run.to _ _ ?_ ?_ (IH (i + 1, if (ps.getD i tPc.z).texts.length > m then (ps.getD i tPc.z).texts.length else m) (by simp only []; omega) ⟨by simp only []; omega, by simp only []; split <;> omega, by simp only []; split <;> omega, ?_⟩)
          · exact ⟨Le.refl _, Le.refl _, Le.int hw1, Le.int hmx, trivial⟩
          · trivial
          · exact hst.symm.trans heq
        · have h3 : ¬ (ps.getD i tPc.z).kind = 3 := by assumption
          rw [if_neg h3] at hst
          refine Run.to _ _ ?_ ?_ (IH (i + 1, m) (by simp only []; omega) ⟨by simp only []; omega, by simp only []; omega, by simp only []; omega, ?_⟩)
          · exact ⟨Le.refl _, Le.refl _, Le.int hw1, Le.refl _, trivial⟩
          · trivial
          · exact hst.symm.trans heq
      · refine Run.go ?_; (conv => whnf); repeat' (first | ((with_reducible refine Know.mk fun _ => ?_); conv => whnf) | ((with_reducible refine Need.mk ?_ ?_); exact nd; conv => whnf) | ((with_reducible first | refine Both.mk ?_ ?_ | refine Any.mk fun b hb => ?_ | refine AskB.dec (fun hb => ?_) (fun hb => ?_) | refine AskB.ndec (fun hb => ?_) (fun hb => ?_) | refine AskB.mk (fun hb => ?_) (fun hb => ?_)) <;> conv => whnf) | ((with_reducible first | refine Run.drawX rfl (by decide +kernel) ?_ | refine Run.drawT rfl (by decide +kernel) ?_ | refine Run.drawW rfl (by decide +kernel) ?_); conv => whnf) | fail)
        all_goals try (exfalso; omega)
        rw [List.drop_eq_nil_of_le (by omega)] at heq
        refine Run.leave (ts := [2,3]) (.inr ⟨_, rfl⟩) rfl Tryd.func16 rfl (resT ⟨?_, Le.refl _, trivial⟩)
        exact Le.of_eq (by rw [← heq]; rfl)
    all_goals exact absurd rfl (by assumption)
  · rw [if_neg hk] at hc
    rw [if_neg hk, if_neg hk]
    refine Fn.of Tryd.f16 _ Tryd.func16 rfl (by decide) (by show 1 ≤ _; decide) tbOk 29 rfl fun S w0 gl => ?_
    refine Run.go ?_; (conv => whnf); repeat' (first | ((with_reducible refine Know.mk fun _ => ?_); conv => whnf) | ((with_reducible refine Need.mk ?_ ?_); exact nd; conv => whnf) | ((with_reducible first | refine Both.mk ?_ ?_ | refine Any.mk fun b hb => ?_ | refine AskB.dec (fun hb => ?_) (fun hb => ?_) | refine AskB.ndec (fun hb => ?_) (fun hb => ?_) | refine AskB.mk (fun hb => ?_) (fun hb => ?_)) <;> conv => whnf) | ((with_reducible first | refine Run.drawX rfl (by decide +kernel) ?_ | refine Run.drawT rfl (by decide +kernel) ?_ | refine Run.drawW rfl (by decide +kernel) ?_); conv => whnf) | fail)
    refine Run.callBX hc rfl rfl ⟨Le.refl _, trivial⟩ rfl rfl rfl ?_
    (conv => whnf); repeat' (first | ((with_reducible refine Know.mk fun _ => ?_); conv => whnf) | ((with_reducible refine Need.mk ?_ ?_); exact nd; conv => whnf) | ((with_reducible first | refine Both.mk ?_ ?_ | refine Any.mk fun b hb => ?_ | refine AskB.dec (fun hb => ?_) (fun hb => ?_) | refine AskB.ndec (fun hb => ?_) (fun hb => ?_) | refine AskB.mk (fun hb => ?_) (fun hb => ?_)) <;> conv => whnf) | ((with_reducible first | refine Run.drawX rfl (by decide +kernel) ?_ | refine Run.drawT rfl (by decide +kernel) ?_ | refine Run.drawW rfl (by decide +kernel) ?_); conv => whnf) | fail)
    · exact absurd (by assumption : (51 : Int) = 0) (by decide)
    · exact Run.leave (ts := [2,3]) (.inr ⟨_, rfl⟩) rfl Tryd.func16 rfl (resT ⟨Le.refl _, Le.refl _, trivial⟩)
end Go.Proofs.YtkdpmkjbfkjmdaaDoor.V

namespace Go.Proofs.YtkdpmkjbfkjmdaaDoor.V
set_option linter.unusedVariables false
set_option linter.unusedSimpArgs false
open Go Go.Proofs Go.RowKit
set_option maxRecDepth 100000
set_option maxHeartbeats 1000000
def aheadK (ps : List Pc) (i : Nat) : Int := if i = 0 then 0 else (ps.getD (i - 1) tPc.z).kind
theorem rright_fn (ps : List Pc) (hl : ps.length ≤ 1000000) (ht : ∀ p ∈ ps, p.texts.length ≤ 2000000) : Fn Tryd.prog 33 [tPc.L ps] (.bool (checkB 0 ps)) := by
  refine Fn.of Tryd.f33 _ Tryd.func33 rfl (by decide) (by show 1 ≤ _; decide) tbOk 81 rfl fun S w0 gl => ?_
  refine Run.go ?_; (conv => whnf); repeat' (first | ((with_reducible refine Know.mk fun _ => ?_); conv => whnf) | ((with_reducible refine Need.mk ?_ ?_); exact nd; conv => whnf) | ((with_reducible first | refine Both.mk ?_ ?_ | refine Any.mk fun b hb => ?_ | refine AskB.dec (fun hb => ?_) (fun hb => ?_) | refine AskB.ndec (fun hb => ?_) (fun hb => ?_) | refine AskB.mk (fun hb => ?_) (fun hb => ?_)) <;> conv => whnf) | ((with_reducible first | refine Run.drawX rfl (by decide +kernel) ?_ | refine Run.drawT rfl (by decide +kernel) ?_ | refine Run.drawW rfl (by decide +kernel) ?_); conv => whnf) | fail)
  refine Run.loop [0] (fun (i : Nat) => [(3, .int .i64 (i : Int))]) (fun i => []) (fun i => i ≤ ps.length ∧ checkB (aheadK ps i) (ps.drop i) = checkB 0 ps) (fun i => ps.length - i) 0 ⟨Nat.zero_le _, rfl⟩ ⟨Le.refl _, trivial⟩ (by trivial) ?_
  intro i ⟨hi, heq⟩ IH
  have hw1 : IntKind.i64.wrap ((i : Int) + 1) = ((i + 1 : Nat) : Int) := wrap64 (by omega) (by omega)
  by_cases hil : i < ps.length
  · have hd : ps.drop i = ps.getD i tPc.z :: ps.drop (i + 1) := drop_at ps i tPc.z hil
    have hck : checkB (aheadK ps i) (ps.drop i) = (rightB (ps.getD i tPc.z) (aheadK ps i) && checkB (ps.getD i tPc.z).kind (ps.drop (i + 1))) := by rw [hd]; rfl
    have htl := ht _ (getD_mem' (z := tPc.z) i hil)
    have hno : rightB (ps.getD i tPc.z) (aheadK ps i) = false → false = checkB 0 ps := fun h => by rw [← heq, hck, h, Bool.false_and]
    have hyes : rightB (ps.getD i tPc.z) (aheadK ps i) = true → i + 1 ≤ ps.length ∧ checkB (aheadK ps (i + 1)) (ps.drop (i + 1)) = checkB 0 ps := fun h => ⟨hil, by
      rw [← heq, hck, h, Bool.true_and]; rfl⟩
    have hrb := rightB_iff (ps.getD i tPc.z) (aheadK ps i)
    unfold rightP at hrb
    obtain ⟨x, hX⟩ : ∃ x : Int, ((ps.getD i tPc.z).texts.getD 0 .empty = .empty) ↔ x = 0 := by
      by_cases h : (ps.getD i tPc.z).texts.getD 0 .empty = .empty
      · exact ⟨0, ⟨fun _ => rfl, fun _ => h⟩⟩
      · exact ⟨1, ⟨fun e => absurd e h, fun e => absurd e (by decide)⟩⟩
    have hX2 : ((ps.getD (i : Int).toNat tPc.z).texts.getD (Int.toNat 0) tS.z = ByteArray.mk #[]) ↔ x = 0 := hX
    have ha0 : i = 0 → aheadK ps i = 0 := fun h => if_pos h
    have hW : 0 < i → 0 ≤ IntKind.i64.wrap ((i : Int) - 1) ∧ IntKind.i64.wrap ((i : Int) - 1) < ps.length := fun h => by rw [wrap64 (by omega) (by omega)]; omega
    have ha1 : 0 < i → (ps.getD (IntKind.i64.wrap ((i : Int) - 1)).toNat tPc.z).kind = aheadK ps i := fun h => by
      rw [wrap64 (by omega) (by omega), show ((i : Int) - 1).toNat = i - 1 by omega]
      exact (if_neg (by omega)).symm
    refine Run.go ?_; (conv => whnf); repeat' (first | ((with_reducible refine Know.mk fun _ => ?_); conv => whnf) | ((with_reducible refine Need.mk ?_ ?_); exact nd; conv => whnf) | ((with_reducible first | refine Both.mk ?_ ?_ | refine Any.mk fun b hb => ?_ | refine AskB.dec (fun hb => ?_) (fun hb => ?_) | refine AskB.ndec (fun hb => ?_) (fun hb => ?_) | refine AskB.mk (fun hb => ?_) (fun hb => ?_)) <;> conv => whnf) | ((with_reducible first | refine Run.drawX rfl (by decide +kernel) ?_ | refine Run.drawT rfl (by decide +kernel) ?_ | refine Run.drawW rfl (by decide +kernel) ?_); conv => whnf) | fail)
    all_goals try (exfalso; omega)
    all_goals
      first
        | refine Run.leave (ts := [2]) (.inr ⟨_, rfl⟩) rfl Tryd.func33 rfl (Le.ff.trans (Le.bool (hno ?_)))
        | refine Run.to _ _ ?_ ?_ (IH (i + 1) (by omega) (hyes ?_))
    all_goals try exact ⟨Le.refl _, Le.int hw1, trivial⟩
    all_goals try trivial
    all_goals
      clear IH hno hyes heq hck hd gl ht
      first
        | rw [hrb]
        | rw [← Bool.not_eq_true, hrb]
      clear hrb
      simp only [Int.toNat_natCast] at *
      simp only [hX2, hX, ne_eq, Bool.not_eq_true', Bool.not_eq_false', decide_eq_true_eq, decide_eq_false_iff_not] at *
      omega
  · refine Run.go ?_; (conv => whnf); repeat' (first | ((with_reducible refine Know.mk fun _ => ?_); conv => whnf) | ((with_reducible refine Need.mk ?_ ?_); exact nd; conv => whnf) | ((with_reducible first | refine Both.mk ?_ ?_ | refine Any.mk fun b hb => ?_ | refine AskB.dec (fun hb => ?_) (fun hb => ?_) | refine AskB.ndec (fun hb => ?_) (fun hb => ?_) | refine AskB.mk (fun hb => ?_) (fun hb => ?_)) <;> conv => whnf) | ((with_reducible first | refine Run.drawX rfl (by decide +kernel) ?_ | refine Run.drawT rfl (by decide +kernel) ?_ | refine Run.drawW rfl (by decide +kernel) ?_); conv => whnf) | fail)
    all_goals try (exfalso; omega)
    have hc : checkB 0 ps = true := by rw [← heq, List.drop_eq_nil_of_le (by omega)]; rfl
    rw [hc]
    exact Run.leave (ts := [2]) (.inr ⟨_, rfl⟩) rfl Tryd.func33 rfl (Le.tt.trans (Le.refl _))
theorem rhands_fn (ps : List Pc) (hl : ps.length ≤ 1000000) (ht : ∀ p ∈ ps, p.texts.length ≤ 2000000) : Fn Tryd.prog 17 [tPc.L ps] (handsA ps) := by
  have hc := rright_fn ps hl ht
  unfold handsA
  by_cases hk : checkB 0 ps = true
  · rw [hk] at hc
    rw [if_pos hk, if_pos hk]
    refine Fn.of Tryd.f17 _ Tryd.func17 rfl (by decide) (by show 1 ≤ _; decide) tbOk 24 rfl fun S w0 gl => ?_
    refine Run.go ?_; (conv => whnf); repeat' (first | ((with_reducible refine Know.mk fun _ => ?_); conv => whnf) | ((with_reducible refine Need.mk ?_ ?_); exact nd; conv => whnf) | ((with_reducible first | refine Both.mk ?_ ?_ | refine Any.mk fun b hb => ?_ | refine AskB.dec (fun hb => ?_) (fun hb => ?_) | refine AskB.ndec (fun hb => ?_) (fun hb => ?_) | refine AskB.mk (fun hb => ?_) (fun hb => ?_)) <;> conv => whnf) | ((with_reducible first | refine Run.drawX rfl (by decide +kernel) ?_ | refine Run.drawT rfl (by decide +kernel) ?_ | refine Run.drawW rfl (by decide +kernel) ?_); conv => whnf) | fail)
    refine Run.callBX hc rfl rfl ⟨Le.refl _, trivial⟩ rfl rfl rfl ?_
    (conv => whnf); repeat' (first | ((with_reducible refine Know.mk fun _ => ?_); conv => whnf) | ((with_reducible refine Need.mk ?_ ?_); exact nd; conv => whnf) | ((with_reducible first | refine Both.mk ?_ ?_ | refine Any.mk fun b hb => ?_ | refine AskB.dec (fun hb => ?_) (fun hb => ?_) | refine AskB.ndec (fun hb => ?_) (fun hb => ?_) | refine AskB.mk (fun hb => ?_) (fun hb => ?_)) <;> conv => whnf) | ((with_reducible first | refine Run.drawX rfl (by decide +kernel) ?_ | refine Run.drawT rfl (by decide +kernel) ?_ | refine Run.drawW rfl (by decide +kernel) ?_); conv => whnf) | fail)
    · exact absurd (by assumption : (!true) = true) (by decide)
    · refine Run.loop [0] (fun (a : Nat × Nat) => [(5, .int .i64 (a.1 : Int)), (4, .int .i64 (a.2 : Int))]) (fun i => []) (fun a => a.1 ≤ ps.length ∧ 1 ≤ a.2 ∧ a.2 ≤ 2000000 ∧ hdM a.2 (ps.drop a.1) = hdM 1 ps) (fun a => ps.length - a.1) (0, 1) ⟨Nat.zero_le _, Nat.le_refl _, by decide, rfl⟩ ⟨Le.refl _, Le.refl _, trivial⟩ (by trivial) ?_
      intro ⟨i, m⟩ ⟨hi, hm, hm2, heq⟩ IH
      simp only [] at hi heq ⊢ hm hm2
      have hw1 : IntKind.i64.wrap ((i : Int) + 1) = ((i + 1 : Nat) : Int) := wrap64 (by omega) (by omega)
      by_cases hil : i < ps.length
      · have htl := ht _ (getD_mem' (z := tPc.z) i hil)
        have hst : hdM m (ps.drop i) = hdM (if (ps.getD i tPc.z).texts.length > m then (ps.getD i tPc.z).texts.length else m) (ps.drop (i + 1)) := by
          rw [drop_at ps i tPc.z hil]; rfl
        have h0 : (ps.getD (i : Int).toNat tPc.z).texts.length = (ps.getD i tPc.z).texts.length := rfl
        have hmx : (if ((ps.getD (i : Int).toNat tPc.z).texts.length : Int) > (m : Int) then ((ps.getD (i : Int).toNat tPc.z).texts.length : Int) else (m : Int)) = ((if (ps.getD i tPc.z).texts.length > m then (ps.getD i tPc.z).texts.length else m : Nat) : Int) := by
          rw [Int.toNat_natCast]
          split <;> split <;> omega
        refine Run.go ?_; (conv => whnf); repeat' (first | ((with_reducible refine Know.mk fun _ => ?_); conv => whnf) | ((with_reducible refine Need.mk ?_ ?_); exact nd; conv => whnf) | ((with_reducible first | refine Both.mk ?_ ?_ | refine Any.mk fun b hb => ?_ | refine AskB.dec (fun hb => ?_) (fun hb => ?_) | refine AskB.ndec (fun hb => ?_) (fun hb => ?_) | refine AskB.mk (fun hb => ?_) (fun hb => ?_)) <;> conv => whnf) | ((with_reducible first | refine Run.drawX rfl (by decide +kernel) ?_ | refine Run.drawT rfl (by decide +kernel) ?_ | refine Run.drawW rfl (by decide +kernel) ?_); conv => whnf) | fail)
        all_goals try (exfalso; omega)
        refine Run.maxInt (x := .tmp 15) (y := .tmp 21) (c := ⟨.builtin .max, #[.tmp 15, .tmp 21], #[3, 3]⟩) _ _ rfl rfl rfl rfl rfl rfl rfl rfl ?_
        refine Run.go ?_; (conv => whnf); repeat' (first | ((with_reducible refine Know.mk fun _ => ?_); conv => whnf) | ((with_reducible refine Need.mk ?_ ?_); exact nd; conv => whnf) | ((with_reducible first | refine Both.mk ?_ ?_ | refine Any.mk fun b hb => ?_ | refine AskB.dec (fun hb => ?_) (fun hb => ?_) | refine AskB.ndec (fun hb => ?_) (fun hb => ?_) | refine AskB.mk (fun hb => ?_) (fun hb => ?_)) <;> conv => whnf) | ((with_reducible first | refine Run.drawX rfl (by decide +kernel) ?_ | refine Run.drawT rfl (by decide +kernel) ?_ | refine Run.drawW rfl (by decide +kernel) ?_); conv => whnf) | fail)
        refine Run.to _ _ ?_ ?_ (IH (i + 1, if (ps.getD i tPc.z).texts.length > m then (ps.getD i tPc.z).texts.length else m) (by simp only []; omega) ⟨by simp only []; omega, by simp only []; split <;> omega, by simp only []; split <;> omega, ?_⟩)
        · exact ⟨Le.refl _, Le.int hw1, Le.int hmx, trivial⟩
        · trivial
        · exact hst.symm.trans heq
      · refine Run.go ?_; (conv => whnf); repeat' (first | ((with_reducible refine Know.mk fun _ => ?_); conv => whnf) | ((with_reducible refine Need.mk ?_ ?_); exact nd; conv => whnf) | ((with_reducible first | refine Both.mk ?_ ?_ | refine Any.mk fun b hb => ?_ | refine AskB.dec (fun hb => ?_) (fun hb => ?_) | refine AskB.ndec (fun hb => ?_) (fun hb => ?_) | refine AskB.mk (fun hb => ?_) (fun hb => ?_)) <;> conv => whnf) | ((with_reducible first | refine Run.drawX rfl (by decide +kernel) ?_ | refine Run.drawT rfl (by decide +kernel) ?_ | refine Run.drawW rfl (by decide +kernel) ?_); conv => whnf) | fail)
        all_goals try (exfalso; omega)
        rw [List.drop_eq_nil_of_le (by omega)] at heq
        refine Run.leave (ts := [2,3]) (.inr ⟨_, rfl⟩) rfl Tryd.func17 rfl (resT ⟨?_, Le.refl _, trivial⟩)
        exact Le.of_eq (by rw [← heq]; rfl)
  · have hk' : checkB 0 ps = false := by simpa using hk
    rw [hk'] at hc
    rw [if_neg hk, if_neg hk]
    refine Fn.of Tryd.f17 _ Tryd.func17 rfl (by decide) (by show 1 ≤ _; decide) tbOk 24 rfl fun S w0 gl => ?_
    refine Run.go ?_; (conv => whnf); repeat' (first | ((with_reducible refine Know.mk fun _ => ?_); conv => whnf) | ((with_reducible refine Need.mk ?_ ?_); exact nd; conv => whnf) | ((with_reducible first | refine Both.mk ?_ ?_ | refine Any.mk fun b hb => ?_ | refine AskB.dec (fun hb => ?_) (fun hb => ?_) | refine AskB.ndec (fun hb => ?_) (fun hb => ?_) | refine AskB.mk (fun hb => ?_) (fun hb => ?_)) <;> conv => whnf) | ((with_reducible first | refine Run.drawX rfl (by decide +kernel) ?_ | refine Run.drawT rfl (by decide +kernel) ?_ | refine Run.drawW rfl (by decide +kernel) ?_); conv => whnf) | fail)
    refine Run.callBX hc rfl rfl ⟨Le.refl _, trivial⟩ rfl rfl rfl ?_
    (conv => whnf); repeat' (first | ((with_reducible refine Know.mk fun _ => ?_); conv => whnf) | ((with_reducible refine Need.mk ?_ ?_); exact nd; conv => whnf) | ((with_reducible first | refine Both.mk ?_ ?_ | refine Any.mk fun b hb => ?_ | refine AskB.dec (fun hb => ?_) (fun hb => ?_) | refine AskB.ndec (fun hb => ?_) (fun hb => ?_) | refine AskB.mk (fun hb => ?_) (fun hb => ?_)) <;> conv => whnf) | ((with_reducible first | refine Run.drawX rfl (by decide +kernel) ?_ | refine Run.drawT rfl (by decide +kernel) ?_ | refine Run.drawW rfl (by decide +kernel) ?_); conv => whnf) | fail)
    · exact Run.leave (ts := [2,3]) (.inr ⟨_, rfl⟩) rfl Tryd.func17 rfl (resT ⟨Le.refl _, Le.refl _, trivial⟩)
    · exact absurd (by assumption : (!false) = false) (by decide)
theorem num_lo : ∀ n : Fin 10, IntKind.u8.wrap (IntKind.i64.wrap (48 + (n.val : Int))) = bt (bs [UInt8.ofNat (48 + n.val)]) 0 := by decide +kernel
theorem num_hi0 : ∀ n : Fin 100, IntKind.u8.wrap (IntKind.i64.wrap (48 + IntKind.i64.wrap ((n.val : Int).tdiv 10))) = bt (bs [UInt8.ofNat (48 + n.val / 10), UInt8.ofNat (48 + n.val % 10)]) 0 := by decide +kernel
theorem num_hi1 : ∀ n : Fin 100, IntKind.u8.wrap (IntKind.i64.wrap (48 + (n.val : Int).tmod 10)) = bt (bs [UInt8.ofNat (48 + n.val / 10), UInt8.ofNat (48 + n.val % 10)]) 1 := by decide +kernel
theorem number_fn (n : Nat) (hn : n ≤ 99) : Fn Tryd.prog 34 [.int .i64 (n : Int)] (.str (bs (numL n))) := by
  refine Fn.of Tryd.f34 _ Tryd.func34 rfl (by decide) (by show 1 ≤ _; decide) tbOk 20 rfl fun S w0 gl => ?_
  unfold numL
  refine Run.go ?_; (conv => whnf); repeat' (first | ((with_reducible refine Know.mk fun _ => ?_); conv => whnf) | ((with_reducible refine Need.mk ?_ ?_); exact nd; conv => whnf) | ((with_reducible first | refine Both.mk ?_ ?_ | refine Any.mk fun b hb => ?_ | refine AskB.dec (fun hb => ?_) (fun hb => ?_) | refine AskB.ndec (fun hb => ?_) (fun hb => ?_) | refine AskB.mk (fun hb => ?_) (fun hb => ?_)) <;> conv => whnf) | ((with_reducible first | refine Run.drawX rfl (by decide +kernel) ?_ | refine Run.drawT rfl (by decide +kernel) ?_ | refine Run.drawW rfl (by decide +kernel) ?_); conv => whnf) | fail)
  · have hn1 : n < 10 := by omega
    have e := num_lo ⟨n, hn1⟩
    simp only [] at e
    rw [if_pos hn1]
    refine Run.rowStr (x := .tmp 8) (src := 58) (dst := 9) (e := 5) (q := 8) (bs [UInt8.ofNat (48 + n)]) rfl rfl rfl rfl rfl rfl rfl (fun i hi => ?_) (by kernel_rfl) (by kernel_rfl) (by kernel_rfl) ?_
    · obtain rfl : i = 0 := Nat.lt_one_iff.mp hi
      exact congrArg (AV.int .u8) e
    refine Run.go ?_; (conv => whnf); repeat' (first | ((with_reducible refine Know.mk fun _ => ?_); conv => whnf) | ((with_reducible refine Need.mk ?_ ?_); exact nd; conv => whnf) | ((with_reducible first | refine Both.mk ?_ ?_ | refine Any.mk fun b hb => ?_ | refine AskB.dec (fun hb => ?_) (fun hb => ?_) | refine AskB.ndec (fun hb => ?_) (fun hb => ?_) | refine AskB.mk (fun hb => ?_) (fun hb => ?_)) <;> conv => whnf) | ((with_reducible first | refine Run.drawX rfl (by decide +kernel) ?_ | refine Run.drawT rfl (by decide +kernel) ?_ | refine Run.drawW rfl (by decide +kernel) ?_); conv => whnf) | fail)
    exact Run.leave (ts := [2]) (.inr ⟨_, rfl⟩) rfl Tryd.func34 rfl (Le.refl _)
  · have hn1 : ¬ n < 10 := by omega
    have e := num_hi0 ⟨n, by omega⟩
    have e2 := num_hi1 ⟨n, by omega⟩
    simp only [] at e e2
    rw [if_neg hn1]
    refine Run.rowStr (x := .tmp 18) (src := 58) (dst := 9) (e := 5) (q := 18) (bs [UInt8.ofNat (48 + n / 10), UInt8.ofNat (48 + n % 10)]) rfl rfl rfl rfl rfl rfl rfl (fun i hi => ?_) (by kernel_rfl) (by kernel_rfl) (by kernel_rfl) ?_
    · have hi : i < 2 := hi
      match i, hi with
      | 0, _ => exact congrArg (AV.int .u8) e
      | 1, _ => exact congrArg (AV.int .u8) e2
    refine Run.go ?_; (conv => whnf); repeat' (first | ((with_reducible refine Know.mk fun _ => ?_); conv => whnf) | ((with_reducible refine Need.mk ?_ ?_); exact nd; conv => whnf) | ((with_reducible first | refine Both.mk ?_ ?_ | refine Any.mk fun b hb => ?_ | refine AskB.dec (fun hb => ?_) (fun hb => ?_) | refine AskB.ndec (fun hb => ?_) (fun hb => ?_) | refine AskB.mk (fun hb => ?_) (fun hb => ?_)) <;> conv => whnf) | ((with_reducible first | refine Run.drawX rfl (by decide +kernel) ?_ | refine Run.drawT rfl (by decide +kernel) ?_ | refine Run.drawW rfl (by decide +kernel) ?_); conv => whnf) | fail)
    exact Run.leave (ts := [2]) (.inr ⟨_, rfl⟩) rfl Tryd.func34 rfl (Le.refl _)
end Go.Proofs.YtkdpmkjbfkjmdaaDoor.V

namespace Go.Proofs.YtkdpmkjbfkjmdaaDoor.V
set_option linter.unusedVariables false
set_option linter.unusedSimpArgs false
open Go Go.Proofs Go.RowKit
set_option maxRecDepth 100000
set_option maxHeartbeats 1000000
theorem ext_take {α : Type} {a b : List α} {z : α} (hl : a.length = b.length) (h : ∀ i, i < a.length → a.getD i z = b.getD i z) : a = b := by
  apply List.ext_getElem hl
  intro i h1 h2
  have := h i h1
  rwa [List.getD, List.getElem?_eq_getElem h1, List.getD, List.getElem?_eq_getElem h2] at this
theorem samePc_fn (a b : List Pc) (ha : a.length ≤ 1000000) (hta : ∀ p ∈ a, p.texts.length ≤ 2000000) : Fn Tryd.prog 12 [tPc.L a, tPc.L b] (.bool (decide (a = b))) := by
  refine Fn.of Tryd.f12 _ Tryd.func12 rfl (by decide) (by show 2 ≤ _; decide) tbOk 84 rfl fun S w0 gl => ?_
  refine Run.go ?_; (conv => whnf); repeat' (first | ((with_reducible refine Know.mk fun _ => ?_); conv => whnf) | ((with_reducible refine Need.mk ?_ ?_); exact nd; conv => whnf) | ((with_reducible first | refine Both.mk ?_ ?_ | refine Any.mk fun b hb => ?_ | refine AskB.dec (fun hb => ?_) (fun hb => ?_) | refine AskB.ndec (fun hb => ?_) (fun hb => ?_) | refine AskB.mk (fun hb => ?_) (fun hb => ?_)) <;> conv => whnf) | ((with_reducible first | refine Run.drawX rfl (by decide +kernel) ?_ | refine Run.drawT rfl (by decide +kernel) ?_ | refine Run.drawW rfl (by decide +kernel) ?_); conv => whnf) | fail)
  rotate_left
  · refine Run.leave (ts := [4]) (.inr ⟨_, rfl⟩) rfl Tryd.func12 rfl (Le.ff.trans (Le.bool (decide_eq_false ?_).symm))
    intro e; subst e; omega
  have hl : a.length = b.length := by omega
  refine Run.loop [0, 1] (fun (i : Nat) => [(5, .int .i64 (i : Int))]) (fun i => []) (fun i => i ≤ a.length ∧ ∀ k, k < i → a.getD k tPc.z = b.getD k tPc.z) (fun i => a.length - i) 0 ⟨Nat.zero_le _, fun k hk => absurd hk (Nat.not_lt_zero _)⟩ ⟨Le.refl _, trivial⟩ (by trivial) ?_
  intro i ⟨hi, heq⟩ IH
  have hw1 : IntKind.i64.wrap ((i : Int) + 1) = ((i + 1 : Nat) : Int) := wrap64 (by omega) (by omega)
  by_cases hil : i < a.length
  · have htl := hta _ (getD_mem' (z := tPc.z) i hil)
    have hneq : a.getD i tPc.z ≠ b.getD i tPc.z → decide (a = b) = false := fun h => decide_eq_false (fun e => h (by rw [e]))
    refine Run.go ?_; (conv => whnf); repeat' (first | ((with_reducible refine Know.mk fun _ => ?_); conv => whnf) | ((with_reducible refine Need.mk ?_ ?_); exact nd; conv => whnf) | ((with_reducible first | refine Both.mk ?_ ?_ | refine Any.mk fun b hb => ?_ | refine AskB.dec (fun hb => ?_) (fun hb => ?_) | refine AskB.ndec (fun hb => ?_) (fun hb => ?_) | refine AskB.mk (fun hb => ?_) (fun hb => ?_)) <;> conv => whnf) | ((with_reducible first | refine Run.drawX rfl (by decide +kernel) ?_ | refine Run.drawT rfl (by decide +kernel) ?_ | refine Run.drawW rfl (by decide +kernel) ?_); conv => whnf) | fail)
    · simp only [Int.toNat_natCast] at *
      have k1 : (a.getD i tPc.z).kind = (b.getD i tPc.z).kind := by assumption
      have k2 : (a.getD i tPc.z).n = (b.getD i tPc.z).n := by assumption
      have k3 : (a.getD i tPc.z).texts.length = (b.getD i tPc.z).texts.length := by omega
      refine Run.loop [0, 1, 5] (fun (j : Nat) => [(6, .int .i64 (j : Int))]) (fun i => []) (fun j => j ≤ (a.getD i tPc.z).texts.length ∧ ∀ k, k < j → (a.getD i tPc.z).texts.getD k .empty = (b.getD i tPc.z).texts.getD k .empty) (fun j => (a.getD i tPc.z).texts.length - j) 0 ⟨Nat.zero_le _, fun k hk => absurd hk (Nat.not_lt_zero _)⟩ ⟨Le.refl _, trivial⟩ (by trivial) ?_
      intro j ⟨hj, hjeq⟩ IHj
      have hw2 : IntKind.i64.wrap ((j : Int) + 1) = ((j + 1 : Nat) : Int) := wrap64 (by omega) (by omega)
      have k3' : (a.getD (i : Int).toNat tPc.z).texts.length = (b.getD (i : Int).toNat tPc.z).texts.length := k3
      have k4' : (a.getD (i : Int).toNat tPc.z).texts.length = (a.getD i tPc.z).texts.length := rfl
      refine Run.go ?_; (conv => whnf); repeat' (first | ((with_reducible refine Know.mk fun _ => ?_); conv => whnf) | ((with_reducible refine Need.mk ?_ ?_); exact nd; conv => whnf) | ((with_reducible first | refine Both.mk ?_ ?_ | refine Any.mk fun b hb => ?_ | refine AskB.dec (fun hb => ?_) (fun hb => ?_) | refine AskB.ndec (fun hb => ?_) (fun hb => ?_) | refine AskB.mk (fun hb => ?_) (fun hb => ?_)) <;> conv => whnf) | ((with_reducible first | refine Run.drawX rfl (by decide +kernel) ?_ | refine Run.drawT rfl (by decide +kernel) ?_ | refine Run.drawW rfl (by decide +kernel) ?_); conv => whnf) | fail)
      · refine Run.to _ _ ?_ ?_ (IHj (j + 1) (by omega) ⟨by omega, fun k hk => ?_⟩)
        · exact ⟨Le.refl _, Le.refl _, Le.refl _, Le.int hw2, trivial⟩
        · trivial
        · by_cases hkj : k = j
          · subst hkj
            have h : (a.getD (i : Int).toNat tPc.z).texts.getD (k : Int).toNat tS.z = (b.getD (i : Int).toNat tPc.z).texts.getD (k : Int).toNat tS.z := by assumption
            exact h
          · exact hjeq k (by omega)
      · refine Run.leave (ts := [4]) (.inr ⟨_, rfl⟩) rfl Tryd.func12 rfl (Le.ff.trans (Le.bool (hneq ?_).symm))
        intro e
        have h : ¬ (a.getD (i : Int).toNat tPc.z).texts.getD (j : Int).toNat tS.z = (b.getD (i : Int).toNat tPc.z).texts.getD (j : Int).toNat tS.z := by assumption
        exact h (congrArg (fun p : Pc => p.texts.getD j tS.z) e)
      · refine Run.to _ _ ?_ ?_ (IH (i + 1) (by omega) ⟨by omega, fun k hk => ?_⟩)
        · exact ⟨Le.refl _, Le.refl _, Le.int hw1, trivial⟩
        · trivial
        · by_cases hki : k = i
          · subst hki
            have k4 : (a.getD k tPc.z).texts = (b.getD k tPc.z).texts := ext_take k3 (fun q hq => hjeq q (by omega))
            generalize a.getD k tPc.z = A at k1 k2 k4
            generalize b.getD k tPc.z = B at k1 k2 k4
            cases A; cases B
            simp only at k1 k2 k4
            rw [k1, k2, k4]
          · exact heq k (by omega)
    all_goals try (exfalso; omega)
    all_goals
      try simp only [Int.toNat_natCast] at *
      refine Run.leave (ts := [4]) (.inr ⟨_, rfl⟩) rfl Tryd.func12 rfl (Le.ff.trans (Le.bool (hneq ?_).symm))
      intro e
      first
        | exact absurd (congrArg Pc.kind e) (by assumption)
        | exact absurd (congrArg Pc.n e) (by assumption)
        | exact absurd (congrArg (fun p : Pc => (p.texts.length : Int)) e) (by assumption)
  · refine Run.go ?_; (conv => whnf); repeat' (first | ((with_reducible refine Know.mk fun _ => ?_); conv => whnf) | ((with_reducible refine Need.mk ?_ ?_); exact nd; conv => whnf) | ((with_reducible first | refine Both.mk ?_ ?_ | refine Any.mk fun b hb => ?_ | refine AskB.dec (fun hb => ?_) (fun hb => ?_) | refine AskB.ndec (fun hb => ?_) (fun hb => ?_) | refine AskB.mk (fun hb => ?_) (fun hb => ?_)) <;> conv => whnf) | ((with_reducible first | refine Run.drawX rfl (by decide +kernel) ?_ | refine Run.drawT rfl (by decide +kernel) ?_ | refine Run.drawW rfl (by decide +kernel) ?_); conv => whnf) | fail)
    all_goals try (exfalso; omega)
    refine Run.leave (ts := [4]) (.inr ⟨_, rfl⟩) rfl Tryd.func12 rfl (Le.tt.trans (Le.bool (decide_eq_true ?_).symm))
    exact ext_take hl (fun k hk => heq k (by omega))
end Go.Proofs.YtkdpmkjbfkjmdaaDoor.V

namespace Go.Proofs.YtkdpmkjbfkjmdaaDoor.V
set_option linter.unusedVariables false
set_option linter.unusedSimpArgs false
open Go Go.Proofs Go.RowKit
set_option maxRecDepth 100000
set_option maxHeartbeats 1000000
theorem awake05_fn : Fn Tryd.prog 9 [] .tt := by
  have h1 : Fn Tryd.prog 10 [.str (bs [97, 123, 98, 124, 99, 125])] (tupL [tPc.L [⟨1, [bs [97]], 0⟩, ⟨3, [bs [98], bs [99]], 0⟩], .int .i64 0, .int .i64 0]) := by
    have := parse_fn [97, 123, 98, 124, 99, 125]
    unfold parseA at this
    rw [show parseT [97, 123, 98, 124, 99, 125] = ([⟨1, [bs [97]], 0⟩, ⟨3, [bs [98], bs [99]], 0⟩], 0, 0) by decide +kernel] at this
    exact this
  have h2 : Fn Tryd.prog 10 [.str (bs [97, 93])] (tupL [tPc.L [], .int .i64 1, .int .i64 50]) := by
    have := parse_fn [97, 93]
    unfold parseA at this
    rw [show parseT [97, 93] = ([], 1, 50) by decide +kernel] at this
    exact this
  refine Fn.of Tryd.f9 _ Tryd.func9 rfl (by decide) (by show 0 ≤ _; decide) tbOk 51 rfl fun S w0 gl => ?_
  refine Run.go ?_; (conv => whnf); repeat' (first | ((with_reducible refine Know.mk fun _ => ?_); conv => whnf) | ((with_reducible refine Need.mk ?_ ?_); exact nd; conv => whnf) | ((with_reducible first | refine Both.mk ?_ ?_ | refine Any.mk fun b hb => ?_ | refine AskB.dec (fun hb => ?_) (fun hb => ?_) | refine AskB.ndec (fun hb => ?_) (fun hb => ?_) | refine AskB.mk (fun hb => ?_) (fun hb => ?_)) <;> conv => whnf) | ((with_reducible first | refine Run.drawX rfl (by decide +kernel) ?_ | refine Run.drawT rfl (by decide +kernel) ?_ | refine Run.drawW rfl (by decide +kernel) ?_); conv => whnf) | fail)
  refine Run.callBX h1 rfl rfl ⟨Le.refl _, trivial⟩ rfl rfl rfl ?_
  (conv => whnf); repeat' (first | ((with_reducible refine Know.mk fun _ => ?_); conv => whnf) | ((with_reducible refine Need.mk ?_ ?_); exact nd; conv => whnf) | ((with_reducible first | refine Both.mk ?_ ?_ | refine Any.mk fun b hb => ?_ | refine AskB.dec (fun hb => ?_) (fun hb => ?_) | refine AskB.ndec (fun hb => ?_) (fun hb => ?_) | refine AskB.mk (fun hb => ?_) (fun hb => ?_)) <;> conv => whnf) | ((with_reducible first | refine Run.drawX rfl (by decide +kernel) ?_ | refine Run.drawT rfl (by decide +kernel) ?_ | refine Run.drawW rfl (by decide +kernel) ?_); conv => whnf) | fail)
  refine Run.callBX h2 rfl rfl ⟨Le.refl _, trivial⟩ rfl rfl rfl ?_
  (conv => whnf); repeat' (first | ((with_reducible refine Know.mk fun _ => ?_); conv => whnf) | ((with_reducible refine Need.mk ?_ ?_); exact nd; conv => whnf) | ((with_reducible first | refine Both.mk ?_ ?_ | refine Any.mk fun b hb => ?_ | refine AskB.dec (fun hb => ?_) (fun hb => ?_) | refine AskB.ndec (fun hb => ?_) (fun hb => ?_) | refine AskB.mk (fun hb => ?_) (fun hb => ?_)) <;> conv => whnf) | ((with_reducible first | refine Run.drawX rfl (by decide +kernel) ?_ | refine Run.drawT rfl (by decide +kernel) ?_ | refine Run.drawW rfl (by decide +kernel) ?_); conv => whnf) | fail)
  all_goals first
    | exact Run.leave (ts := [0]) (.inr ⟨_, rfl⟩) rfl Tryd.func9 rfl (Le.tt' (by decide))
    | exact absurd rfl (by assumption)
end Go.Proofs.YtkdpmkjbfkjmdaaDoor.V

namespace Go.Proofs.YtkdpmkjbfkjmdaaDoor.V
set_option linter.unusedVariables false
set_option linter.unusedSimpArgs false
open Go Go.Proofs Go.RowKit
set_option maxRecDepth 100000
set_option maxHeartbeats 1000000
theorem escL_take (l : List UInt8) (i : Nat) (h : i < l.length) : escL (l.take (i + 1)) = escL (l.take i) ++ esc1 (l.getD i 0) := by
  rw [take_at l i 0 h, escL_app]
  congr 1
  rw [escL_cons]; simp [escL]
theorem MOle.rowT {e sz n e' sz' n' e2 sz2 n2 : Nat} {g g' g2 : Nat → Nat → AV} (h : MOle (.row e sz n g) (.row e' sz' n' g')) (k : MOle (.row e' sz' n' g') (.row e2 sz2 n2 g2)) : MOle (.row e sz n g) (.row e2 sz2 n2 g2) := by
  obtain ⟨rfl, rfl, rfl, h⟩ := h
  obtain ⟨rfl, rfl, rfl, k⟩ := k
  exact ⟨rfl, rfl, rfl, fun i j hi hj => (h i j hi hj).trans (k i j hi hj)⟩
theorem MOle.rowJ {e n m n' : Nat} {g g' c : Nat → Nat → AV} (h : MOle (.row e 1 n g) (.row e 1 n' g')) : MOle (.row e 1 (n + m) (joinRow n g c)) (.row e 1 (n' + m) (joinRow n' g' c)) := by
  obtain ⟨_, _, rfl, h⟩ := h
  refine ⟨rfl, rfl, rfl, fun i j hi hj => ?_⟩
  unfold joinRow
  split
  · exact h i j (by assumption) hj
  · exact Le.refl _
theorem escape_fn (l : List UInt8) (hl : l.length ≤ 2000000) : Fn Tryd.prog 13 [.str (bs l)] (.str (bs (escL l))) := by
  refine Fn.of Tryd.f13 _ Tryd.func13 rfl (by decide) (by show 1 ≤ _; decide) tbOk 21 rfl fun S w0 gl => ?_
  have hs := bs_size l
  refine Run.go ?_; (conv => whnf); repeat' (first | ((with_reducible refine Know.mk fun _ => ?_); conv => whnf) | ((with_reducible refine Need.mk ?_ ?_); exact nd; conv => whnf) | ((with_reducible first | refine Both.mk ?_ ?_ | refine Any.mk fun b hb => ?_ | refine AskB.dec (fun hb => ?_) (fun hb => ?_) | refine AskB.ndec (fun hb => ?_) (fun hb => ?_) | refine AskB.mk (fun hb => ?_) (fun hb => ?_)) <;> conv => whnf) | ((with_reducible first | refine Run.drawX rfl (by decide +kernel) ?_ | refine Run.drawT rfl (by decide +kernel) ?_ | refine Run.drawW rfl (by decide +kernel) ?_); conv => whnf) | fail)
  refine Run.holdBoxNil 3 1 90 5 1 (bytesG .empty) rfl rfl rfl rfl ?_
  refine Run.loop [0, 3, 6] (fun (a : Nat × AV) => [(7, .int .i64 (a.1 : Int))]) (fun a => [(3, .box 60 [a.2, .row 90]), (90, .row 5 1 (bs (escL (l.take a.1))).size (bytesG (bs (escL (l.take a.1)))))]) (fun a => a.1 ≤ l.length ∧ (a.2 = .nilp ∨ a.2 = .box 3 0)) (fun a => l.length - a.1) (0, .nilp) ⟨Nat.zero_le _, .inl rfl⟩ ⟨Le.refl _, trivial⟩ ⟨MOle.refl _, MOle.refl _, trivial⟩ ?_
  intro ⟨i, p⟩ ⟨hi, hp⟩ IH
  simp only [] at hi hp ⊢
  have hw1 : IntKind.i64.wrap ((i : Int) + 1) = ((i + 1 : Nat) : Int) := wrap64 (by omega) (by omega)
  have hsz : (bs (escL (l.take i))).size ≤ 4000000 := by
    rw [bs_size]; have := (escL_len (l.take i)).2; rw [List.length_take] at this; omega
  by_cases hil : i < l.length
  · have hci : bt (bs l) (i : Int).toNat = ((l.getD i 0).toNat : Int) := bt_at l i
    have IH := IH (i + 1, .box 3 0) (by simp only []; omega) ⟨by simp only []; omega, .inr rfl⟩
    simp only [] at IH
    rw [escL_take l i hil] at IH
    generalize escL (l.take i) = X at hsz IH ⊢
    have him := isMark_fn (l.getD i 0)
    generalize l.getD i 0 = c at hci IH him
    refine Run.go ?_; (conv => whnf); repeat' (first | ((with_reducible refine Know.mk fun _ => ?_); conv => whnf) | ((with_reducible refine Need.mk ?_ ?_); exact nd; conv => whnf) | ((with_reducible refine Both.mk ?_ ?_) <;> conv => whnf) | ((with_reducible refine Any.mk fun b hb => ?_); conv => whnf) | ((with_reducible first | refine AskB.dec (fun hb => ?_) (fun hb => ?_) | refine AskB.ndec (fun hb => ?_) (fun hb => ?_) | refine AskB.mk (fun hb => ?_) (fun hb => ?_)) <;> first | (exfalso; omega) | (conv => whnf)) | ((with_reducible first | refine Run.drawX rfl (by decide +kernel) ?_ | refine Run.drawT rfl (by decide +kernel) ?_ | refine Run.drawW rfl (by decide +kernel) ?_); conv => whnf) | fail)
    all_goals try (exfalso; omega)
    refine Run.callBX him rfl rfl ⟨Le.int hci, trivial⟩ rfl rfl rfl ?_
    (conv => whnf); repeat' (first | ((with_reducible refine Know.mk fun _ => ?_); conv => whnf) | ((with_reducible refine Need.mk ?_ ?_); exact nd; conv => whnf) | ((with_reducible first | refine Both.mk ?_ ?_ | refine Any.mk fun b hb => ?_ | refine AskB.dec (fun hb => ?_) (fun hb => ?_) | refine AskB.ndec (fun hb => ?_) (fun hb => ?_) | refine AskB.mk (fun hb => ?_) (fun hb => ?_)) <;> conv => whnf) | ((with_reducible first | refine Run.drawX rfl (by decide +kernel) ?_ | refine Run.drawT rfl (by decide +kernel) ?_ | refine Run.drawW rfl (by decide +kernel) ?_); conv => whnf) | fail)
    · have hm : isMk c = true := by assumption
      rw [show esc1 c = [92, c] from if_pos hm] at IH
      refine Run.bldr 60 5 3 90 p (bs X) (MOle.refl _) (MOle.refl _) ?_
      refine wb3 p _ 92 rfl rfl rfl rfl rfl rfl (by omega) hp ?_
      refine Run.tidy [0, 3, 4, 6, 7] [3, 90] ?_; (conv => whnf)
      refine Run.go ?_; (conv => whnf); repeat' (first | ((with_reducible refine Know.mk fun _ => ?_); conv => whnf) | ((with_reducible refine Need.mk ?_ ?_); exact nd; conv => whnf) | ((with_reducible refine Both.mk ?_ ?_) <;> conv => whnf) | ((with_reducible refine Any.mk fun b hb => ?_); conv => whnf) | ((with_reducible first | refine AskB.dec (fun hb => ?_) (fun hb => ?_) | refine AskB.ndec (fun hb => ?_) (fun hb => ?_) | refine AskB.mk (fun hb => ?_) (fun hb => ?_)) <;> first | (exfalso; omega) | (conv => whnf)) | ((with_reducible first | refine Run.drawX rfl (by decide +kernel) ?_ | refine Run.drawT rfl (by decide +kernel) ?_ | refine Run.drawW rfl (by decide +kernel) ?_); conv => whnf) | fail)
      all_goals try (exfalso; omega)
      refine Run.bldr 60 5 3 90 (.box 3 0) (bs X ++ ⟨#[92]⟩) (MOle.refl _) (MOle.refl _) ?_
      refine wb3 (.box 3 0) _ c rfl rfl rfl rfl rfl ?_ (by rw [ByteArray.size_append]; show _ + 1 + 1 ≤ _; omega) (.inr rfl) ?_
      · show AV.int .u8 (bt (bs l) (i : Int).toNat) = _
        rw [hci]
      refine Run.tidy [0, 3, 6, 7] [3, 90] ?_; (conv => whnf)
      refine Run.go ?_; (conv => whnf); repeat' (first | ((with_reducible refine Know.mk fun _ => ?_); conv => whnf) | ((with_reducible refine Need.mk ?_ ?_); exact nd; conv => whnf) | ((with_reducible first | refine Both.mk ?_ ?_ | refine Any.mk fun b hb => ?_ | refine AskB.dec (fun hb => ?_) (fun hb => ?_) | refine AskB.ndec (fun hb => ?_) (fun hb => ?_) | refine AskB.mk (fun hb => ?_) (fun hb => ?_)) <;> conv => whnf) | ((with_reducible first | refine Run.drawX rfl (by decide +kernel) ?_ | refine Run.drawT rfl (by decide +kernel) ?_ | refine Run.drawW rfl (by decide +kernel) ?_); conv => whnf) | fail)
      refine Run.to _ _ ?_ ?_ IH
      · exact ⟨Le.refl _, Le.refl _, Le.refl _, Le.int hw1, trivial⟩
      · refine ⟨MOle.refl _, ?_, trivial⟩
        rw [show X ++ [92, c] = (X ++ [92]) ++ [c] by simp, ← bs_push, ← bs_push]
        exact MOle.refl _
    · have hm : ¬ isMk c = true := by
        have : isMk c = false := by assumption
        rw [this]; decide
      rw [show esc1 c = [c] from if_neg hm] at IH
      refine Run.bldr 60 5 3 90 p (bs X) (MOle.refl _) (MOle.refl _) ?_
      refine wb3 p _ c rfl rfl rfl rfl rfl ?_ (by omega) hp ?_
      · show AV.int .u8 (bt (bs l) (i : Int).toNat) = _
        rw [hci]
      refine Run.tidy [0, 3, 6, 7] [3, 90] ?_; (conv => whnf)
      refine Run.go ?_; (conv => whnf); repeat' (first | ((with_reducible refine Know.mk fun _ => ?_); conv => whnf) | ((with_reducible refine Need.mk ?_ ?_); exact nd; conv => whnf) | ((with_reducible first | refine Both.mk ?_ ?_ | refine Any.mk fun b hb => ?_ | refine AskB.dec (fun hb => ?_) (fun hb => ?_) | refine AskB.ndec (fun hb => ?_) (fun hb => ?_) | refine AskB.mk (fun hb => ?_) (fun hb => ?_)) <;> conv => whnf) | ((with_reducible first | refine Run.drawX rfl (by decide +kernel) ?_ | refine Run.drawT rfl (by decide +kernel) ?_ | refine Run.drawW rfl (by decide +kernel) ?_); conv => whnf) | fail)
      refine Run.to _ _ ?_ ?_ IH
      · exact ⟨Le.refl _, Le.refl _, Le.refl _, Le.int hw1, trivial⟩
      · refine ⟨MOle.refl _, ?_, trivial⟩
        rw [← bs_push]
        exact MOle.refl _
  · obtain rfl : i = l.length := by omega
    refine Run.go ?_; (conv => whnf); repeat' (first | ((with_reducible refine Know.mk fun _ => ?_); conv => whnf) | ((with_reducible refine Need.mk ?_ ?_); exact nd; conv => whnf) | ((with_reducible first | refine Both.mk ?_ ?_ | refine Any.mk fun b hb => ?_ | refine AskB.dec (fun hb => ?_) (fun hb => ?_) | refine AskB.ndec (fun hb => ?_) (fun hb => ?_) | refine AskB.mk (fun hb => ?_) (fun hb => ?_)) <;> conv => whnf) | ((with_reducible first | refine Run.drawX rfl (by decide +kernel) ?_ | refine Run.drawT rfl (by decide +kernel) ?_ | refine Run.drawW rfl (by decide +kernel) ?_); conv => whnf) | fail)
    all_goals try (exfalso; omega)
    refine Run.bldr 60 5 3 90 p (bs (escL (l.take l.length))) (MOle.refl _) (MOle.refl _) ?_
    refine bs3 p _ rfl rfl rfl rfl rfl ?_
    refine Run.go ?_; (conv => whnf); repeat' (first | ((with_reducible refine Know.mk fun _ => ?_); conv => whnf) | ((with_reducible refine Need.mk ?_ ?_); exact nd; conv => whnf) | ((with_reducible first | refine Both.mk ?_ ?_ | refine Any.mk fun b hb => ?_ | refine AskB.dec (fun hb => ?_) (fun hb => ?_) | refine AskB.ndec (fun hb => ?_) (fun hb => ?_) | refine AskB.mk (fun hb => ?_) (fun hb => ?_)) <;> conv => whnf) | ((with_reducible first | refine Run.drawX rfl (by decide +kernel) ?_ | refine Run.drawT rfl (by decide +kernel) ?_ | refine Run.drawW rfl (by decide +kernel) ?_); conv => whnf) | fail)
    exact Run.leave (ts := [2]) (.inr ⟨_, rfl⟩) rfl Tryd.func13 rfl (Le.str (by rw [List.take_length]))
theorem resc_fn (l : List UInt8) (hl : l.length ≤ 2000000) : Fn Tryd.prog 18 [.str (bs l)] (.str (bs (escL l))) := by
  refine Fn.of Tryd.f18 _ Tryd.func18 rfl (by decide) (by show 1 ≤ _; decide) tbOk 26 rfl fun S w0 gl => ?_
  have hs := bs_size l
  refine Run.go ?_; (conv => whnf); repeat' (first | ((with_reducible refine Know.mk fun _ => ?_); conv => whnf) | ((with_reducible refine Need.mk ?_ ?_); exact nd; conv => whnf) | ((with_reducible first | refine Both.mk ?_ ?_ | refine Any.mk fun b hb => ?_ | refine AskB.dec (fun hb => ?_) (fun hb => ?_) | refine AskB.ndec (fun hb => ?_) (fun hb => ?_) | refine AskB.mk (fun hb => ?_) (fun hb => ?_)) <;> conv => whnf) | ((with_reducible first | refine Run.drawX rfl (by decide +kernel) ?_ | refine Run.drawT rfl (by decide +kernel) ?_ | refine Run.drawW rfl (by decide +kernel) ?_); conv => whnf) | fail)
  refine Run.holdNil 3 90 5 1 (bytesG .empty) rfl ?_
  refine Run.loop [0] (fun (i : Nat) => [(3, .row 90), (4, .int .i64 (i : Int))]) (fun i => [(90, .row 5 1 (bs (escL (l.take i))).size (bytesG (bs (escL (l.take i)))))]) (fun i => i ≤ l.length) (fun i => l.length - i) 0 (Nat.zero_le _) ⟨Le.refl _, Le.refl _, trivial⟩ ⟨MOle.refl _, trivial⟩ ?_
  intro i hi IH
  have hw1 : IntKind.i64.wrap ((i : Int) + 1) = ((i + 1 : Nat) : Int) := wrap64 (by omega) (by omega)
  have hsz : (bs (escL (l.take i))).size ≤ 4000000 := by
    rw [bs_size]; have := (escL_len (l.take i)).2; rw [List.length_take] at this; omega
  by_cases hil : i < l.length
  · have hci : bt (bs l) (i : Int).toNat = ((l.getD i 0).toNat : Int) := bt_at l i
    have IH := IH (i + 1) (by omega) (by omega)
    rw [escL_take l i hil] at IH
    generalize escL (l.take i) = X at hsz IH ⊢
    have him := rmark_fn (l.getD i 0)
    generalize l.getD i 0 = c at hci IH him
    refine Run.go ?_; (conv => whnf); repeat' (first | ((with_reducible refine Know.mk fun _ => ?_); conv => whnf) | ((with_reducible refine Need.mk ?_ ?_); exact nd; conv => whnf) | ((with_reducible refine Both.mk ?_ ?_) <;> conv => whnf) | ((with_reducible refine Any.mk fun b hb => ?_); conv => whnf) | ((with_reducible first | refine AskB.dec (fun hb => ?_) (fun hb => ?_) | refine AskB.ndec (fun hb => ?_) (fun hb => ?_) | refine AskB.mk (fun hb => ?_) (fun hb => ?_)) <;> first | (exfalso; omega) | (conv => whnf)) | ((with_reducible first | refine Run.drawX rfl (by decide +kernel) ?_ | refine Run.drawT rfl (by decide +kernel) ?_ | refine Run.drawW rfl (by decide +kernel) ?_); conv => whnf) | fail)
    all_goals try (exfalso; omega)
    refine Run.callBX him rfl rfl ⟨Le.int hci, trivial⟩ rfl rfl rfl ?_
    (conv => whnf); repeat' (first | ((with_reducible refine Know.mk fun _ => ?_); conv => whnf) | ((with_reducible refine Need.mk ?_ ?_); exact nd; conv => whnf) | ((with_reducible first | refine Both.mk ?_ ?_ | refine Any.mk fun b hb => ?_ | refine AskB.dec (fun hb => ?_) (fun hb => ?_) | refine AskB.ndec (fun hb => ?_) (fun hb => ?_) | refine AskB.mk (fun hb => ?_) (fun hb => ?_)) <;> conv => whnf) | ((with_reducible first | refine Run.drawX rfl (by decide +kernel) ?_ | refine Run.drawT rfl (by decide +kernel) ?_ | refine Run.drawW rfl (by decide +kernel) ?_); conv => whnf) | fail)
    · have hm : isMk c = true := by assumption
      rw [show esc1 c = [92, c] from if_pos hm] at IH
      refine Run.hold (z := 23) 3 90 (by rfl) (by rfl) (by rfl) ?_
      refine Run.to _ _ ?_ ?_ IH
      · exact ⟨Le.refl _, Le.refl _, Le.int hw1, trivial⟩
      · refine ⟨?_, trivial⟩
        rw [show X ++ [92, c] = (X ++ [92]) ++ [c] by simp]
        refine MOle.rowT (MOle.rowJ (bsG_push 5 X 92 _ rfl)) (bsG_push 5 (X ++ [92]) c _ ?_)
        show AV.int .u8 (bt (bs l) (i : Int).toNat) = _
        rw [hci]
    · have hm : ¬ isMk c = true := by
        have : isMk c = false := by assumption
        rw [this]; decide
      rw [show esc1 c = [c] from if_neg hm] at IH
      refine Run.hold (z := 23) 3 90 (by rfl) (by rfl) (by rfl) ?_
      refine Run.to _ _ ?_ ?_ IH
      · exact ⟨Le.refl _, Le.refl _, Le.int hw1, trivial⟩
      · refine ⟨bsG_push 5 X c _ ?_, trivial⟩
        show AV.int .u8 (bt (bs l) (i : Int).toNat) = _
        rw [hci]
  · obtain rfl : i = l.length := by omega
    refine Run.go ?_; (conv => whnf); repeat' (first | ((with_reducible refine Know.mk fun _ => ?_); conv => whnf) | ((with_reducible refine Need.mk ?_ ?_); exact nd; conv => whnf) | ((with_reducible first | refine Both.mk ?_ ?_ | refine Any.mk fun b hb => ?_ | refine AskB.dec (fun hb => ?_) (fun hb => ?_) | refine AskB.ndec (fun hb => ?_) (fun hb => ?_) | refine AskB.mk (fun hb => ?_) (fun hb => ?_)) <;> conv => whnf) | ((with_reducible first | refine Run.drawX rfl (by decide +kernel) ?_ | refine Run.drawT rfl (by decide +kernel) ?_ | refine Run.drawW rfl (by decide +kernel) ?_); conv => whnf) | fail)
    all_goals try (exfalso; omega)
    refine Run.rowStr (x := .tmp 24) (src := 58) (dst := 9) (e := 5) (q := 90) (bs (escL (l.take l.length))) rfl rfl rfl rfl rfl rfl rfl (fun _ _ => rfl) (by kernel_rfl) (by kernel_rfl) (by kernel_rfl) ?_
    refine Run.go ?_; (conv => whnf); repeat' (first | ((with_reducible refine Know.mk fun _ => ?_); conv => whnf) | ((with_reducible refine Need.mk ?_ ?_); exact nd; conv => whnf) | ((with_reducible first | refine Both.mk ?_ ?_ | refine Any.mk fun b hb => ?_ | refine AskB.dec (fun hb => ?_) (fun hb => ?_) | refine AskB.ndec (fun hb => ?_) (fun hb => ?_) | refine AskB.mk (fun hb => ?_) (fun hb => ?_)) <;> conv => whnf) | ((with_reducible first | refine Run.drawX rfl (by decide +kernel) ?_ | refine Run.drawT rfl (by decide +kernel) ?_ | refine Run.drawW rfl (by decide +kernel) ?_); conv => whnf) | fail)
    exact Run.leave (ts := [2]) (.inr ⟨_, rfl⟩) rfl Tryd.func18 rfl (Le.str (by rw [List.take_length]))
end Go.Proofs.YtkdpmkjbfkjmdaaDoor.V

namespace Go.Proofs.YtkdpmkjbfkjmdaaDoor.V
set_option linter.unusedVariables false
set_option linter.unusedSimpArgs false
open Go Go.Proofs Go.RowKit
/-- The fault hangs on what stands up to it. -/
def Flt (X : List UInt8 → PR) (l : List UInt8) (k : Nat) : Prop := ∃ u d v, l = u ++ d :: v ∧ k = v.length ∧ ∀ v', X (u ++ d :: v') = .bad (v'.length + 1)
end Go.Proofs.YtkdpmkjbfkjmdaaDoor.V

namespace Go.Proofs.YtkdpmkjbfkjmdaaDoor.V
set_option linter.unusedVariables false
set_option linter.unusedSimpArgs false
open Go Go.Proofs Go.RowKit
set_option maxRecDepth 100000
set_option maxHeartbeats 1000000
theorem bs_app (a b : List UInt8) : bs a ++ bs b = bs (a ++ b) := by
  apply ByteArray.ext
  apply Array.ext'
  simp [bs]
end Go.Proofs.YtkdpmkjbfkjmdaaDoor.V

namespace Go.Proofs.YtkdpmkjbfkjmdaaDoor.V
set_option linter.unusedVariables false
set_option linter.unusedSimpArgs false
open Go Go.Proofs Go.RowKit
set_option maxRecDepth 100000
set_option maxHeartbeats 1000000
theorem ws5 {N : Nat} {w0 : World} {S : Nat → Prop} {gl : GlobOk S w0} {f : FuncId} {R : Ending → World → Prop} {kp : Kept} {ops : Array Oper} {i : Nat} {rest : List Nat} {k : List Item} {env : Env} {h : Heap} {o : Oper} {x y : Operand}
    (p : AV) (t s : ByteArray) (ho : ops.toList[i]? = some o) (hc : calls? o = some (32, [x, y])) (hd : okD ⟨Tryd.prog, TB, tbOk, N, w0, S, gl, f, R, kp⟩ o.dst = true) (hr : ready env ops o = true) (hx : ev (scrubE 900 env) x = .box 5 0) (hy : ev (scrubE 900 env) y = .str s)
    (hs : t.size + s.size ≤ 140737488355328) (hp : p = .nilp ∨ p = .box 5 0)
    (next : Run ⟨Tryd.prog, TB, tbOk, N, w0, S, gl, f, R, kp⟩ (.inRegion ops rest :: k) (putE (envW 90 env) o.dst .u) (bldr 60 5 5 90 (heapW 90 h) (.box 5 0) (t ++ s))) :
    Run ⟨Tryd.prog, TB, tbOk, N, w0, S, gl, f, R, kp⟩ (.inRegion ops (i :: rest) :: k) env (bldr 60 5 5 90 h p t) := by
  refine Run.inline 900 Tryd.f32 _ 19 ho hc Tryd.func32 rfl (by decide) rfl (by show 2 ≤ 19; decide) hd hr (fun a hsz hdf => ?_)
  simp only [List.map, hx, hy]
  have fin : ∀ (E : Env) (H : Heap) (X : AV), (∀ i, E i = scrub 14 (scrub 901 (scrub 900 (env i)))) → (∀ id, Nat.beq id 5 = false → Nat.beq id 90 = false → Nat.beq id 14 = false → Nat.beq id 901 = false → Nat.beq id 900 = false → H id = scrubM 90 (scrubM 14 (scrubM 901 (scrubM 900 (h id))))) →
      MOle (H 5) (.box 60 [.box 5 0, .row 90]) → MOle (H 90) (.row 5 1 (t ++ s).size (bytesG (t ++ s))) → Run ⟨Tryd.prog, TB, tbOk, N, w0, S, gl, f, R, kp⟩ (.inRegion ops rest :: k) (scrubE 90 (putE E o.dst X)) H := by
    intro E H X hE hH h5 h90
    refine Run.weaken (fun i => ?_) (fun id => ?_) next
    · cases hdst : o.dst with
      | none => show Le (scrub 90 (E i)) _; rw [hE]; exact Le.refl _
      | some d =>
        show Le (scrub 90 (upd E d X i)) (upd (envW 90 env) d .u i)
        by_cases e : i = d
        · subst e; rw [upd_same, upd_same]; exact Le.u _
        · rw [upd_other _ _ e, upd_other _ _ e, hE]; exact Le.refl _
    · unfold bldr heapW
      cases e5 : Nat.beq id 5 with
      | true => have := Nat.eq_of_beq_eq_true e5; subst this; exact h5
      | false =>
      cases e90 : Nat.beq id 90 with
      | true => have := Nat.eq_of_beq_eq_true e90; subst this; exact h90
      | false =>
      cases e900 : Nat.beq id 900 with
      | true => simp only [upd, e5, e90, e900, cond_true, cond_false]; exact mole_dead _
      | false =>
      cases e901 : Nat.beq id 901 with
      | true => simp only [upd, e5, e90, e900, e901, cond_true, cond_false]; exact mole_dead _
      | false =>
      cases e14 : Nat.beq id 14 with
      | true => simp only [upd, e5, e90, e900, e901, e14, cond_true, cond_false]; exact mole_dead _
      | false =>
        rw [hH id e5 e90 e14 e901 e900]
        simp only [upd, e5, e90, e900, e901, e14, cond_true, cond_false]
        exact MOle.refl _
  rcases hp with rfl | rfl
  · refine Run.go ?_; (conv => whnf); repeat' (first | ((with_reducible refine Know.mk fun _ => ?_); conv => whnf) | ((with_reducible refine Need.mk ?_ ?_); exact nd; conv => whnf) | ((with_reducible first | refine Both.mk ?_ ?_ | refine Any.mk fun b hb => ?_ | refine AskB.dec (fun hb => ?_) (fun hb => ?_) | refine AskB.ndec (fun hb => ?_) (fun hb => ?_) | refine AskB.mk (fun hb => ?_) (fun hb => ?_)) <;> conv => whnf) | ((with_reducible first | refine Run.drawX rfl (by decide +kernel) ?_ | refine Run.drawT rfl (by decide +kernel) ?_ | refine Run.drawW rfl (by decide +kernel) ?_); conv => whnf) | fail)
    refine Run.inline 901 Tryd.f43 _ 20 rfl rfl Tryd.func43 rfl (by decide) rfl (by decide) rfl rfl (fun a2 hsz2 hdf2 => ?_)
    refine Run.go ?_; (conv => whnf); repeat' (first | ((with_reducible refine Know.mk fun _ => ?_); conv => whnf) | ((with_reducible refine Need.mk ?_ ?_); exact nd; conv => whnf) | ((with_reducible first | refine Both.mk ?_ ?_ | refine Any.mk fun b hb => ?_ | refine AskB.dec (fun hb => ?_) (fun hb => ?_) | refine AskB.ndec (fun hb => ?_) (fun hb => ?_) | refine AskB.mk (fun hb => ?_) (fun hb => ?_)) <;> conv => whnf) | ((with_reducible first | refine Run.drawX rfl (by decide +kernel) ?_ | refine Run.drawT rfl (by decide +kernel) ?_ | refine Run.drawW rfl (by decide +kernel) ?_); conv => whnf) | fail)
    refine Run.toUnsafe (id := 5) (l := [.nilp, .row 90]) (e := 60) (t := 60) (src := 57) (dst := 81) (x := .tmp 8) rfl rfl rfl rfl rfl rfl (by decide) (by kernel_rfl) (by kernel_rfl) (j := (Tryd.prog.info? 60).get (by kernel_rfl)) (by kernel_rfl) (by decide +kernel) ?_
    refine Run.noEscape (f := 50) (x := .tmp 9) rfl rfl rfl rfl Tryd.func50 (by kernel_rfl) (by kernel_rfl) (by kernel_rfl) (by kernel_rfl) ?_
    refine Run.fromUnsafe (id := 5) (l := [.nilp, .row 90]) (e := 60) (u := 60) (src := 81) (dst := 57) (x := .tmp 10) rfl rfl rfl rfl rfl rfl (by kernel_rfl) (by kernel_rfl) (j := (Tryd.prog.info? 60).get (by kernel_rfl)) (by kernel_rfl) (by kernel_rfl) ?_
    refine Run.go ?_; (conv => whnf); repeat' (first | ((with_reducible refine Know.mk fun _ => ?_); conv => whnf) | ((with_reducible refine Need.mk ?_ ?_); exact nd; conv => whnf) | ((with_reducible first | refine Both.mk ?_ ?_ | refine Any.mk fun b hb => ?_ | refine AskB.dec (fun hb => ?_) (fun hb => ?_) | refine AskB.ndec (fun hb => ?_) (fun hb => ?_) | refine AskB.mk (fun hb => ?_) (fun hb => ?_)) <;> conv => whnf) | ((with_reducible first | refine Run.drawX rfl (by decide +kernel) ?_ | refine Run.drawT rfl (by decide +kernel) ?_ | refine Run.drawW rfl (by decide +kernel) ?_); conv => whnf) | fail)
    refine Run.back 901 (ts := []) hsz2 hdf2 (.inl rfl) (by rfl) Tryd.func43 rfl ?_
    refine Run.go ?_; (conv => whnf); repeat' (first | ((with_reducible refine Know.mk fun _ => ?_); conv => whnf) | ((with_reducible refine Need.mk ?_ ?_); exact nd; conv => whnf) | ((with_reducible first | refine Both.mk ?_ ?_ | refine Any.mk fun b hb => ?_ | refine AskB.dec (fun hb => ?_) (fun hb => ?_) | refine AskB.ndec (fun hb => ?_) (fun hb => ?_) | refine AskB.mk (fun hb => ?_) (fun hb => ?_)) <;> conv => whnf) | ((with_reducible first | refine Run.drawX rfl (by decide +kernel) ?_ | refine Run.drawT rfl (by decide +kernel) ?_ | refine Run.drawW rfl (by decide +kernel) ?_); conv => whnf) | fail)
    refine Run.back 900 (ts := [4, 5]) hsz hdf (.inr ⟨_, rfl⟩) (by rfl) Tryd.func32 rfl ?_
    refine Run.holdBoxRow 5 1 90 14 (by rfl) (by rfl) (by rfl) rfl rfl rfl ?_
    refine fin _ _ _ (fun i => rfl) (fun id e5 e90 e14 e901 e900 => ?_) (MOle.refl _) (bytesG_join 5 t s)
    simp only [upd, scrubH, scrubM, bldr, e5, e90, e14, e901, e900, cond_false]
  · refine Run.go ?_; (conv => whnf); repeat' (first | ((with_reducible refine Know.mk fun _ => ?_); conv => whnf) | ((with_reducible refine Need.mk ?_ ?_); exact nd; conv => whnf) | ((with_reducible first | refine Both.mk ?_ ?_ | refine Any.mk fun b hb => ?_ | refine AskB.dec (fun hb => ?_) (fun hb => ?_) | refine AskB.ndec (fun hb => ?_) (fun hb => ?_) | refine AskB.mk (fun hb => ?_) (fun hb => ?_)) <;> conv => whnf) | ((with_reducible first | refine Run.drawX rfl (by decide +kernel) ?_ | refine Run.drawT rfl (by decide +kernel) ?_ | refine Run.drawW rfl (by decide +kernel) ?_); conv => whnf) | fail)
    refine Run.inline 901 Tryd.f43 _ 20 rfl rfl Tryd.func43 rfl (by decide) rfl (by decide) rfl rfl (fun a2 hsz2 hdf2 => ?_)
    refine Run.go ?_; (conv => whnf); repeat' (first | ((with_reducible refine Know.mk fun _ => ?_); conv => whnf) | ((with_reducible refine Need.mk ?_ ?_); exact nd; conv => whnf) | ((with_reducible first | refine Both.mk ?_ ?_ | refine Any.mk fun b hb => ?_ | refine AskB.dec (fun hb => ?_) (fun hb => ?_) | refine AskB.ndec (fun hb => ?_) (fun hb => ?_) | refine AskB.mk (fun hb => ?_) (fun hb => ?_)) <;> conv => whnf) | ((with_reducible first | refine Run.drawX rfl (by decide +kernel) ?_ | refine Run.drawT rfl (by decide +kernel) ?_ | refine Run.drawW rfl (by decide +kernel) ?_); conv => whnf) | fail)
    refine Run.back 901 (ts := []) hsz2 hdf2 (.inl rfl) (by rfl) Tryd.func43 rfl ?_
    refine Run.go ?_; (conv => whnf); repeat' (first | ((with_reducible refine Know.mk fun _ => ?_); conv => whnf) | ((with_reducible refine Need.mk ?_ ?_); exact nd; conv => whnf) | ((with_reducible first | refine Both.mk ?_ ?_ | refine Any.mk fun b hb => ?_ | refine AskB.dec (fun hb => ?_) (fun hb => ?_) | refine AskB.ndec (fun hb => ?_) (fun hb => ?_) | refine AskB.mk (fun hb => ?_) (fun hb => ?_)) <;> conv => whnf) | ((with_reducible first | refine Run.drawX rfl (by decide +kernel) ?_ | refine Run.drawT rfl (by decide +kernel) ?_ | refine Run.drawW rfl (by decide +kernel) ?_); conv => whnf) | fail)
    refine Run.back 900 (ts := [4, 5]) hsz hdf (.inr ⟨_, rfl⟩) (by rfl) Tryd.func32 rfl ?_
    refine Run.holdBoxRow 5 1 90 14 (by rfl) (by rfl) (by rfl) rfl rfl rfl ?_
    refine fin _ _ _ (fun i => rfl) (fun id e5 e90 e14 e901 e900 => ?_) (MOle.refl _) (bytesG_join 5 t s)
    simp only [upd, scrubH, scrubM, bldr, e5, e90, e14, e901, e900, cond_false]
theorem ln5 {N : Nat} {w0 : World} {S : Nat → Prop} {gl : GlobOk S w0} {f : FuncId} {R : Ending → World → Prop} {kp : Kept} {ops : Array Oper} {i : Nat} {rest : List Nat} {k : List Item} {env : Env} {h : Heap} {o : Oper} {x : Operand}
    (p : AV) (t : ByteArray) (ho : ops.toList[i]? = some o) (hc : calls? o = some (31, [x])) (hd : okD ⟨Tryd.prog, TB, tbOk, N, w0, S, gl, f, R, kp⟩ o.dst = true) (hr : ready env ops o = true) (hx : ev (scrubE 900 env) x = .box 5 0)
    (hs : t.size ≤ 140737488355328) (hp : p = .nilp ∨ p = .box 5 0)
    (next : Run ⟨Tryd.prog, TB, tbOk, N, w0, S, gl, f, R, kp⟩ (.inRegion ops rest :: k) (putE (scrubE 900 env) o.dst (.int .i64 (t.size : Int))) (upd (bldr 60 5 5 90 (upd (scrubH 900 h) 900 .dead) p t) 900 .dead)) :
    Run ⟨Tryd.prog, TB, tbOk, N, w0, S, gl, f, R, kp⟩ (.inRegion ops (i :: rest) :: k) env (bldr 60 5 5 90 h p t) := by
  have hpp : scrub 900 p = p := by rcases hp with rfl | rfl <;> rfl
  rw [← hpp] at next
  refine Run.inline 900 Tryd.f31 _ 8 ho hc Tryd.func31 rfl (by decide) rfl (by show 1 ≤ 8; decide) hd hr (fun a hsz hdf => ?_)
  simp only [List.map, hx]
  refine Run.go ?_; (conv => whnf); repeat' (first | ((with_reducible refine Know.mk fun _ => ?_); conv => whnf) | ((with_reducible refine Need.mk ?_ ?_); exact nd; conv => whnf) | ((with_reducible first | refine Both.mk ?_ ?_ | refine Any.mk fun b hb => ?_ | refine AskB.dec (fun hb => ?_) (fun hb => ?_) | refine AskB.ndec (fun hb => ?_) (fun hb => ?_) | refine AskB.mk (fun hb => ?_) (fun hb => ?_)) <;> conv => whnf) | ((with_reducible first | refine Run.drawX rfl (by decide +kernel) ?_ | refine Run.drawT rfl (by decide +kernel) ?_ | refine Run.drawW rfl (by decide +kernel) ?_); conv => whnf) | fail)
  refine Run.back 900 (ts := [2]) hsz hdf (.inr ⟨_, rfl⟩) (by rfl) Tryd.func31 rfl ?_
  refine Run.weaken (fun i => Le.refl _) (fun id => ?_) next
  unfold bldr
  cases e5 : Nat.beq id 5 with
  | true => have := Nat.eq_of_beq_eq_true e5; subst this; exact MOle.refl _
  | false =>
  cases e90 : Nat.beq id 90 with
  | true => have := Nat.eq_of_beq_eq_true e90; subst this; exact MOle.refl _
  | false =>
  cases e900 : Nat.beq id 900 with
  | true => simp only [upd, e5, e90, e900, cond_true, cond_false]; exact mole_dead _
  | false =>
    simp only [upd, scrubH, bldr, e5, e90, e900, cond_true, cond_false]
    exact MOle.refl _
def prtL (ps : List Pc) : ByteArray × Int := if checkB 0 ps = true then (if 65536 < (prK ps).length then (.empty, 1) else (bs (prK ps), 0)) else (.empty, 51)
def prtA (ps : List Pc) : AV := tupL [.str (prtL ps).1, .int .i64 (prtL ps).2]
theorem prK_take (ps : List Pc) (i : Nat) (h : i < ps.length) : prK (ps.take (i + 1)) = prK (ps.take i) ++ pcL (ps.getD i tPc.z) := by
  rw [take_at ps i tPc.z h, prK_app]
  congr 1
  rw [prK_cons]; simp [prK]
theorem prK_pre (ps : List Pc) (i : Nat) : (prK (ps.take i)).length ≤ (prK ps).length := by
  have : prK ps = prK (ps.take i) ++ prK (ps.drop i) := by rw [← prK_app, List.take_append_drop]
  rw [this, List.length_append]; omega
theorem joinL_len (M : Nat) : ∀ xs : List (List UInt8), (∀ x ∈ xs, x.length ≤ M) → (joinL xs).length ≤ xs.length * (M + 1)
  | [], _ => Nat.zero_le _
  | [x], h => by
    have := h x (List.mem_singleton.mpr rfl)
    show x.length ≤ (0 + 1) * (M + 1)
    omega
  | x :: y :: r, h => by
    have h1 := h x List.mem_cons_self
    have h2 := joinL_len M (y :: r) (fun z hz => h z (List.mem_cons_of_mem _ hz))
    show (x ++ 124 :: joinL (y :: r)).length ≤ ((y :: r).length + 1) * (M + 1)
    rw [List.length_append, List.length_cons, Nat.add_mul]
    omega
theorem join_small {p : Pc} (h : rightP p) (hx : ∀ x ∈ p.texts, x.size ≤ 2000000) : (joinL (p.texts.map escB)).length ≤ 20000000 := by
  have h1 := joinL_len 4000000 (p.texts.map escB) (fun y hy => by
    obtain ⟨x, hxm, rfl⟩ := List.mem_map.mp hy
    have h1 := hx x hxm
    have h2 := (escL_len (bl x)).2
    have h3 : (bl x).length = x.size := rfl
    show (escL (bl x)).length ≤ _
    omega)
  rw [List.length_map] at h1
  have h2 := right_texts h
  have : p.texts.length * (4000000 + 1) ≤ 4 * (4000000 + 1) := Nat.mul_le_mul_right _ h2
  omega
theorem print_fn (ps : List Pc) (hl : ps.length ≤ 1000000) (ht : ∀ p ∈ ps, p.texts.length ≤ 2000000) (hx : ∀ p ∈ ps, ∀ x ∈ p.texts, x.size ≤ 2000000) : Fn Tryd.prog 14 [tPc.L ps] (prtA ps) := by
  have hc := check_fn ps hl ht
  unfold prtA prtL
  by_cases hk : checkB 0 ps = true
  · rw [if_pos hk] at hc
    rw [if_pos hk]
    refine Fn.of Tryd.f14 _ Tryd.func14 rfl (by decide) (by show 1 ≤ _; decide) tbOk 66 rfl fun S w0 gl => ?_
    refine Run.go ?_; (conv => whnf); repeat' (first | ((with_reducible refine Know.mk fun _ => ?_); conv => whnf) | ((with_reducible refine Need.mk ?_ ?_); exact nd; conv => whnf) | ((with_reducible first | refine Both.mk ?_ ?_ | refine Any.mk fun b hb => ?_ | refine AskB.dec (fun hb => ?_) (fun hb => ?_) | refine AskB.ndec (fun hb => ?_) (fun hb => ?_) | refine AskB.mk (fun hb => ?_) (fun hb => ?_)) <;> conv => whnf) | ((with_reducible first | refine Run.drawX rfl (by decide +kernel) ?_ | refine Run.drawT rfl (by decide +kernel) ?_ | refine Run.drawW rfl (by decide +kernel) ?_); conv => whnf) | fail)
    refine Run.callBX hc rfl rfl ⟨Le.refl _, trivial⟩ rfl rfl rfl ?_
    (conv => whnf); repeat' (first | ((with_reducible refine Know.mk fun _ => ?_); conv => whnf) | ((with_reducible refine Need.mk ?_ ?_); exact nd; conv => whnf) | ((with_reducible first | refine Both.mk ?_ ?_ | refine Any.mk fun b hb => ?_ | refine AskB.dec (fun hb => ?_) (fun hb => ?_) | refine AskB.ndec (fun hb => ?_) (fun hb => ?_) | refine AskB.mk (fun hb => ?_) (fun hb => ?_)) <;> conv => whnf) | ((with_reducible first | refine Run.drawX rfl (by decide +kernel) ?_ | refine Run.drawT rfl (by decide +kernel) ?_ | refine Run.drawW rfl (by decide +kernel) ?_); conv => whnf) | fail)
    rotate_left
    · exact absurd rfl (by assumption)
    refine Run.holdBoxNil 5 1 90 5 1 (bytesG .empty) rfl rfl rfl rfl ?_
    refine Run.loop [5, 17, 18] (fun (a : Nat × AV) => [(19, .int .i64 (a.1 : Int))]) (fun a => [(5, .box 60 [a.2, .row 90]), (90, .row 5 1 (bs (prK (ps.take a.1))).size (bytesG (bs (prK (ps.take a.1)))))]) (fun a => a.1 ≤ ps.length ∧ (prK (ps.take a.1)).length ≤ 65536 ∧ (a.2 = .nilp ∨ a.2 = .box 5 0)) (fun a => ps.length - a.1) (0, .nilp) ⟨Nat.zero_le _, by simp [prK], .inl rfl⟩ ⟨Le.refl _, trivial⟩ ⟨MOle.refl _, MOle.refl _, trivial⟩ ?_
    intro ⟨i, q⟩ ⟨hi, hlen, hq⟩ IH
    simp only [] at hi hlen hq ⊢
    have hw1 : IntKind.i64.wrap ((i : Int) + 1) = ((i + 1 : Nat) : Int) := wrap64 (by omega) (by omega)
    by_cases hil : i < ps.length
    · have hpm := getD_mem' (z := tPc.z) i hil
      have htl := ht _ hpm
      have hpx := hx _ hpm
      have htk := prK_take ps i hil
      have hpr := prK_pre ps (i + 1)
      rw [htk] at hpr
      have hrt := check_len hk _ hpm
      have IH := fun z h => IH (i + 1, z) (by simp only []; omega) h
      simp only [] at IH
      rw [htk] at IH
      generalize prK (ps.take i) = X at *
      have hsq : scrub 7 q = q := by rcases hq with rfl | rfl <;> rfl
      refine Run.go ?_; (conv => whnf); repeat' (first | ((with_reducible refine Know.mk fun _ => ?_); conv => whnf) | ((with_reducible refine Need.mk ?_ ?_); exact nd; conv => whnf) | ((with_reducible first | refine Both.mk ?_ ?_ | refine Any.mk fun b hb => ?_ | refine AskB.dec (fun hb => ?_) (fun hb => ?_) | refine AskB.ndec (fun hb => ?_) (fun hb => ?_) | refine AskB.mk (fun hb => ?_) (fun hb => ?_)) <;> conv => whnf) | ((with_reducible first | refine Run.drawX rfl (by decide +kernel) ?_ | refine Run.drawT rfl (by decide +kernel) ?_ | refine Run.drawW rfl (by decide +kernel) ?_); conv => whnf) | fail)
      all_goals try (exfalso; omega)
      refine Run.holdNil 8 91 9 1 (fun _ _ => .u) rfl ?_
      have hp3 : ps.getD (i : Int).toNat tPc.z = ps.getD i tPc.z := rfl
      generalize hpp : ps.getD i tPc.z = p at *
      refine Run.loop [5, 7, 17, 18, 19] (fun (j : Nat) => [(26, .int .i64 (j : Int)), (8, .row 91), (24, tS.L p.texts), (25, .int .i64 (p.texts.length : Int))]) (fun j => [(5, .box 60 [q, .row 90]), (90, .row 5 1 (bs X).size (bytesG (bs X))), (7, .box 34 [.int .i64 p.kind, tS.L p.texts, .int .i64 p.n]), (91, tS.R 9 ((p.texts.map (fun b => bs (escB b))).take j))]) (fun j => j ≤ p.texts.length) (fun j => p.texts.length - j) 0 (Nat.zero_le _) ⟨Le.refl _, Le.refl _, Le.of_eq (by rw [← hp3]; rfl), Le.of_eq (by rw [← hp3]), trivial⟩ ⟨?_, MOle.refl _, ?_, ⟨rfl, rfl, rfl, fun i j hi hj => absurd hi (Nat.not_lt_zero _)⟩, trivial⟩ ?_
      · rcases hq with rfl | rfl <;> exact MOle.refl _
      · subst hpp; exact MOle.refl _
      intro j hj IHj
      have hw2 : IntKind.i64.wrap ((j : Int) + 1) = ((j + 1 : Nat) : Int) := wrap64 (by omega) (by omega)
      by_cases hjl : j < p.texts.length
      · have hpt : p.texts.getD j .empty ∈ p.texts := getD_mem' (z := .empty) j hjl
        have hes := escape_fn (bl (p.texts.getD j .empty)) (hpx _ hpt)
        rw [bs_bl] at hes
        have hgt : (p.texts.map (fun b => bs (escB b))).take (j + 1) = (p.texts.map (fun b => bs (escB b))).take j ++ [bs (escB (p.texts.getD j .empty))] := by
          rw [take_at _ j .empty (by rw [List.length_map]; exact hjl)]
          congr 2
          rw [List.getD_eq_getElem?_getD, List.getElem?_map, List.getD_eq_getElem?_getD, List.getElem?_eq_getElem hjl]; rfl
        have hll : ((p.texts.map (fun b => bs (escB b))).take j).length ≤ 2000000 := by rw [List.length_take, List.length_map]; omega
        have IHj := IHj (j + 1) (by omega) (by omega)
        rw [hgt] at IHj
        generalize (p.texts.map (fun b => bs (escB b))).take j = Y at hll IHj ⊢
        refine Run.go ?_; (conv => whnf); repeat' (first | ((with_reducible refine Know.mk fun _ => ?_); conv => whnf) | ((with_reducible refine Need.mk ?_ ?_); exact nd; conv => whnf) | ((with_reducible first | refine Both.mk ?_ ?_ | refine Any.mk fun b hb => ?_ | refine AskB.dec (fun hb => ?_) (fun hb => ?_) | refine AskB.ndec (fun hb => ?_) (fun hb => ?_) | refine AskB.mk (fun hb => ?_) (fun hb => ?_)) <;> conv => whnf) | ((with_reducible first | refine Run.drawX rfl (by decide +kernel) ?_ | refine Run.drawT rfl (by decide +kernel) ?_ | refine Run.drawW rfl (by decide +kernel) ?_); conv => whnf) | fail)
        all_goals try (exfalso; omega)
        refine Run.callBX hes rfl rfl ⟨Le.refl _, trivial⟩ rfl rfl rfl ?_
        (conv => whnf); repeat' (first | ((with_reducible refine Know.mk fun _ => ?_); conv => whnf) | ((with_reducible refine Need.mk ?_ ?_); exact nd; conv => whnf) | ((with_reducible first | refine Both.mk ?_ ?_ | refine Any.mk fun b hb => ?_ | refine AskB.dec (fun hb => ?_) (fun hb => ?_) | refine AskB.ndec (fun hb => ?_) (fun hb => ?_) | refine AskB.mk (fun hb => ?_) (fun hb => ?_)) <;> conv => whnf) | ((with_reducible first | refine Run.drawX rfl (by decide +kernel) ?_ | refine Run.drawT rfl (by decide +kernel) ?_ | refine Run.drawW rfl (by decide +kernel) ?_); conv => whnf) | fail)
        refine Run.hold 8 91 rfl rfl rfl ?_
        refine Run.to _ _ ?_ ?_ IHj
        · exact ⟨Le.refl _, Le.refl _, Le.refl _, Le.refl _, Le.refl _, Le.int hw2, Le.refl _, Le.refl _, Le.refl _, trivial⟩
        · refine ⟨?_, MOle.refl _, ?_, ?_, trivial⟩
          · rcases hq with rfl | rfl <;> exact MOle.refl _
          · exact MOle.refl _
          · exact tS.push 9 Y _ _ (fun j hj => by
              obtain rfl : j = 0 := Nat.lt_one_iff.mp hj
              exact Le.refl _)
      · obtain rfl : j = p.texts.length := by omega
        rw [show (p.texts.map (fun b => bs (escB b))).take p.texts.length = p.texts.map (fun b => bs (escB b)) from List.take_of_length_le (by rw [List.length_map]; exact Nat.le_refl _)]
        have hJ := join_small hrt hpx
        have hJs := bs_size (joinL (p.texts.map escB))
        have h1 : (ByteArray.mk #[60]).size = 1 := rfl
        have h2 : (ByteArray.mk #[62]).size = 1 := rfl
        have h3 : (ByteArray.mk #[123]).size = 1 := rfl
        have h4 : (ByteArray.mk #[125]).size = 1 := rfl
        have h5 : (ByteArray.mk #[91]).size = 1 := rfl
        have h6 : (ByteArray.mk #[93]).size = 1 := rfl
        have hpl : (bs (pcL p)).size = (pcL p).length := bs_size _
        have hXs := bs_size X
        have hw65 : IntKind.i64.wrap (65536 - ((bs X).size : Int)) = 65536 - ((bs X).size : Int) := wrap64 (by omega) (by omega)
        have hp20 : (pcL p).length ≤ 20000004 := by
          unfold pcL
          have hn2 : (numL p.n.toNat).length ≤ 2 := by unfold numL; split <;> simp
          split
          · simp; omega
          split
          · simp only [List.length_cons, List.length_append, List.length_nil]; omega
          split
          · simp only [List.length_cons, List.length_append, List.length_nil]; omega
          · omega
        have hs1 : (ByteArray.mk #[60] ++ bs (joinL (p.texts.map escB))).size = 1 + (joinL (p.texts.map escB)).length := by rw [ByteArray.size_append, hJs]; rfl
        have hs2 : (ByteArray.mk #[123] ++ bs (joinL (p.texts.map escB))).size = 1 + (joinL (p.texts.map escB)).length := by rw [ByteArray.size_append, hJs]; rfl
        have hjn := join_fn (p.texts.map (fun b => bs (escB b))) ⟨#[124]⟩ (by rw [List.length_map]; have := right_texts hrt; omega) (by
          rw [show (ByteArray.mk #[124]).data.toList = [124] from rfl, joinL_is, show (p.texts.map (fun b => bs (escB b))).map bl = p.texts.map escB by rw [List.map_map]; congr 1]
          omega)
        rw [show (ByteArray.mk #[124]).data.toList = [124] from rfl, joinL_is] at hjn
        rw [show (p.texts.map (fun b => bs (escB b))).map bl = p.texts.map escB by rw [List.map_map]; congr 1] at hjn
        refine Run.go ?_; (conv => whnf); repeat' (first | ((with_reducible refine Know.mk fun _ => ?_); conv => whnf) | ((with_reducible refine Need.mk ?_ ?_); exact nd; conv => whnf) | ((with_reducible first | refine Both.mk ?_ ?_ | refine Any.mk fun b hb => ?_ | refine AskB.dec (fun hb => ?_) (fun hb => ?_) | refine AskB.ndec (fun hb => ?_) (fun hb => ?_) | refine AskB.mk (fun hb => ?_) (fun hb => ?_)) <;> conv => whnf) | ((with_reducible first | refine Run.drawX rfl (by decide +kernel) ?_ | refine Run.drawT rfl (by decide +kernel) ?_ | refine Run.drawW rfl (by decide +kernel) ?_); conv => whnf) | fail)
        all_goals try (exfalso; omega)
        refine Run.callAX hjn rfl rfl ⟨Le.refl _, Le.refl _, trivial⟩ rfl rfl rfl ?_
        (conv => whnf); repeat' (first | ((with_reducible refine Know.mk fun _ => ?_); conv => whnf) | ((with_reducible refine Need.mk ?_ ?_); exact nd; conv => whnf) | ((with_reducible first | refine Both.mk ?_ ?_ | refine Any.mk fun b hb => ?_ | refine AskB.dec (fun hb => ?_) (fun hb => ?_) | refine AskB.ndec (fun hb => ?_) (fun hb => ?_) | refine AskB.mk (fun hb => ?_) (fun hb => ?_)) <;> conv => whnf) | ((with_reducible first | refine Run.drawX rfl (by decide +kernel) ?_ | refine Run.drawT rfl (by decide +kernel) ?_ | refine Run.drawW rfl (by decide +kernel) ?_); conv => whnf) | fail)
        · have hk2 : p.kind = 2 := by assumption
          have hn : 1 ≤ p.n ∧ p.n ≤ 99 := by rcases hrt with h | h | h <;> omega
          have hit := itoa_fn p.n.toNat (by omega)
          have hnl : (bs (numL p.n.toNat)).size ≤ 2 := by rw [bs_size]; unfold numL; split <;> simp
          have hs3 : (ByteArray.mk #[91] ++ bs (numL p.n.toNat)).size = 1 + (bs (numL p.n.toNat)).size := by rw [ByteArray.size_append]; rfl
          refine Run.callBX hit rfl rfl ⟨Le.int (by omega), trivial⟩ rfl rfl rfl ?_
          (conv => whnf); repeat' (first | ((with_reducible refine Know.mk fun _ => ?_); conv => whnf) | ((with_reducible refine Need.mk ?_ ?_); exact nd; conv => whnf) | ((with_reducible first | refine Both.mk ?_ ?_ | refine Any.mk fun b hb => ?_ | refine AskB.dec (fun hb => ?_) (fun hb => ?_) | refine AskB.ndec (fun hb => ?_) (fun hb => ?_) | refine AskB.mk (fun hb => ?_) (fun hb => ?_)) <;> conv => whnf) | ((with_reducible first | refine Run.drawX rfl (by decide +kernel) ?_ | refine Run.drawT rfl (by decide +kernel) ?_ | refine Run.drawW rfl (by decide +kernel) ?_); conv => whnf) | fail)
          have hS : ByteArray.mk #[91] ++ bs (numL p.n.toNat) ++ ByteArray.mk #[93] = bs (pcL p) := by
            unfold pcL
            rw [if_pos hk2]
            show bs [91] ++ bs (numL p.n.toNat) ++ bs [93] = _
            rw [bs_app, bs_app]; rfl
          rw [hS]
          refine Run.bldr 60 5 5 90 q (bs X) (MOle.refl _) (MOle.refl _) ?_
          refine ln5 q _ rfl rfl rfl rfl rfl (by omega) hq ?_
          refine Run.go ?_; (conv => whnf); repeat' (first | ((with_reducible refine Know.mk fun _ => ?_); conv => whnf) | ((with_reducible refine Need.mk ?_ ?_); exact nd; conv => whnf) | ((with_reducible first | refine Both.mk ?_ ?_ | refine Any.mk fun b hb => ?_ | refine AskB.dec (fun hb => ?_) (fun hb => ?_) | refine AskB.ndec (fun hb => ?_) (fun hb => ?_) | refine AskB.mk (fun hb => ?_) (fun hb => ?_)) <;> conv => whnf) | ((with_reducible first | refine Run.drawX rfl (by decide +kernel) ?_ | refine Run.drawT rfl (by decide +kernel) ?_ | refine Run.drawW rfl (by decide +kernel) ?_); conv => whnf) | fail)
          all_goals try (exfalso; omega)
          · have hbig : 65536 < (prK ps).length := by
              have hb : ((bs (pcL p)).size : Int) > IntKind.i64.wrap (65536 - ((bs X).size : Int)) := by first | assumption | exact Int.lt_of_not_le (by assumption) | exact Int.not_le.mp (by assumption)
              rw [hw65] at hb
              rw [List.length_append] at hpr
              omega
            rw [if_pos hbig]
            exact Run.leave (ts := [2,3]) (.inr ⟨_, rfl⟩) rfl Tryd.func14 rfl (resT ⟨Le.refl _, Le.refl _, trivial⟩)
          · refine Run.bldr 60 5 5 90 q (bs X) (MOle.refl _) (MOle.refl _) ?_
            refine ws5 q _ (bs (pcL p)) rfl rfl rfl rfl rfl rfl (by omega) hq ?_
            refine Run.tidy [5, 17, 18, 19] [5, 90] ?_; (conv => whnf)
            refine Run.go ?_; (conv => whnf); repeat' (first | ((with_reducible refine Know.mk fun _ => ?_); conv => whnf) | ((with_reducible refine Need.mk ?_ ?_); exact nd; conv => whnf) | ((with_reducible first | refine Both.mk ?_ ?_ | refine Any.mk fun b hb => ?_ | refine AskB.dec (fun hb => ?_) (fun hb => ?_) | refine AskB.ndec (fun hb => ?_) (fun hb => ?_) | refine AskB.mk (fun hb => ?_) (fun hb => ?_)) <;> conv => whnf) | ((with_reducible first | refine Run.drawX rfl (by decide +kernel) ?_ | refine Run.drawT rfl (by decide +kernel) ?_ | refine Run.drawW rfl (by decide +kernel) ?_); conv => whnf) | fail)
            refine Run.to _ _ ?_ ?_ (IH (.box 5 0) ⟨by omega, by rw [List.length_append]; omega, .inr rfl⟩)
            · exact ⟨Le.refl _, Le.refl _, Le.refl _, Le.int hw1, trivial⟩
            · refine ⟨MOle.refl _, ?_, trivial⟩
              rw [bs_app]
              exact MOle.refl _
        · have hk2 : p.kind = 4 := by assumption
          have hS : ByteArray.mk #[60] ++ bs (joinL (p.texts.map escB)) ++ ByteArray.mk #[62] = bs (pcL p) := by
            unfold pcL
            rw [if_neg (by omega), if_pos hk2]
            show bs [60] ++ bs (joinL (p.texts.map escB)) ++ bs [62] = _
            rw [bs_app, bs_app]; rfl
          rw [hS]
          refine Run.bldr 60 5 5 90 q (bs X) (MOle.refl _) (MOle.refl _) ?_
          refine ln5 q _ rfl rfl rfl rfl rfl (by omega) hq ?_
          refine Run.go ?_; (conv => whnf); repeat' (first | ((with_reducible refine Know.mk fun _ => ?_); conv => whnf) | ((with_reducible refine Need.mk ?_ ?_); exact nd; conv => whnf) | ((with_reducible first | refine Both.mk ?_ ?_ | refine Any.mk fun b hb => ?_ | refine AskB.dec (fun hb => ?_) (fun hb => ?_) | refine AskB.ndec (fun hb => ?_) (fun hb => ?_) | refine AskB.mk (fun hb => ?_) (fun hb => ?_)) <;> conv => whnf) | ((with_reducible first | refine Run.drawX rfl (by decide +kernel) ?_ | refine Run.drawT rfl (by decide +kernel) ?_ | refine Run.drawW rfl (by decide +kernel) ?_); conv => whnf) | fail)
          all_goals try (exfalso; omega)
          · have hbig : 65536 < (prK ps).length := by
              have hb : ((bs (pcL p)).size : Int) > IntKind.i64.wrap (65536 - ((bs X).size : Int)) := by first | assumption | exact Int.lt_of_not_le (by assumption) | exact Int.not_le.mp (by assumption)
              rw [hw65] at hb
              rw [List.length_append] at hpr
              omega
            rw [if_pos hbig]
            exact Run.leave (ts := [2,3]) (.inr ⟨_, rfl⟩) rfl Tryd.func14 rfl (resT ⟨Le.refl _, Le.refl _, trivial⟩)
          · refine Run.bldr 60 5 5 90 q (bs X) (MOle.refl _) (MOle.refl _) ?_
            refine ws5 q _ (bs (pcL p)) rfl rfl rfl rfl rfl rfl (by omega) hq ?_
            refine Run.tidy [5, 17, 18, 19] [5, 90] ?_; (conv => whnf)
            refine Run.go ?_; (conv => whnf); repeat' (first | ((with_reducible refine Know.mk fun _ => ?_); conv => whnf) | ((with_reducible refine Need.mk ?_ ?_); exact nd; conv => whnf) | ((with_reducible first | refine Both.mk ?_ ?_ | refine Any.mk fun b hb => ?_ | refine AskB.dec (fun hb => ?_) (fun hb => ?_) | refine AskB.ndec (fun hb => ?_) (fun hb => ?_) | refine AskB.mk (fun hb => ?_) (fun hb => ?_)) <;> conv => whnf) | ((with_reducible first | refine Run.drawX rfl (by decide +kernel) ?_ | refine Run.drawT rfl (by decide +kernel) ?_ | refine Run.drawW rfl (by decide +kernel) ?_); conv => whnf) | fail)
            refine Run.to _ _ ?_ ?_ (IH (.box 5 0) ⟨by omega, by rw [List.length_append]; omega, .inr rfl⟩)
            · exact ⟨Le.refl _, Le.refl _, Le.refl _, Le.int hw1, trivial⟩
            · refine ⟨MOle.refl _, ?_, trivial⟩
              rw [bs_app]
              exact MOle.refl _
        · have hk2 : p.kind = 3 := by assumption
          have hS : ByteArray.mk #[123] ++ bs (joinL (p.texts.map escB)) ++ ByteArray.mk #[125] = bs (pcL p) := by
            unfold pcL
            rw [if_neg (by omega), if_neg (by omega), if_pos hk2]
            show bs [123] ++ bs (joinL (p.texts.map escB)) ++ bs [125] = _
            rw [bs_app, bs_app]; rfl
          rw [hS]
          refine Run.bldr 60 5 5 90 q (bs X) (MOle.refl _) (MOle.refl _) ?_
          refine ln5 q _ rfl rfl rfl rfl rfl (by omega) hq ?_
          refine Run.go ?_; (conv => whnf); repeat' (first | ((with_reducible refine Know.mk fun _ => ?_); conv => whnf) | ((with_reducible refine Need.mk ?_ ?_); exact nd; conv => whnf) | ((with_reducible first | refine Both.mk ?_ ?_ | refine Any.mk fun b hb => ?_ | refine AskB.dec (fun hb => ?_) (fun hb => ?_) | refine AskB.ndec (fun hb => ?_) (fun hb => ?_) | refine AskB.mk (fun hb => ?_) (fun hb => ?_)) <;> conv => whnf) | ((with_reducible first | refine Run.drawX rfl (by decide +kernel) ?_ | refine Run.drawT rfl (by decide +kernel) ?_ | refine Run.drawW rfl (by decide +kernel) ?_); conv => whnf) | fail)
          all_goals try (exfalso; omega)
          · have hbig : 65536 < (prK ps).length := by
              have hb : ((bs (pcL p)).size : Int) > IntKind.i64.wrap (65536 - ((bs X).size : Int)) := by first | assumption | exact Int.lt_of_not_le (by assumption) | exact Int.not_le.mp (by assumption)
              rw [hw65] at hb
              rw [List.length_append] at hpr
              omega
            rw [if_pos hbig]
            exact Run.leave (ts := [2,3]) (.inr ⟨_, rfl⟩) rfl Tryd.func14 rfl (resT ⟨Le.refl _, Le.refl _, trivial⟩)
          · refine Run.bldr 60 5 5 90 q (bs X) (MOle.refl _) (MOle.refl _) ?_
            refine ws5 q _ (bs (pcL p)) rfl rfl rfl rfl rfl rfl (by omega) hq ?_
            refine Run.tidy [5, 17, 18, 19] [5, 90] ?_; (conv => whnf)
            refine Run.go ?_; (conv => whnf); repeat' (first | ((with_reducible refine Know.mk fun _ => ?_); conv => whnf) | ((with_reducible refine Need.mk ?_ ?_); exact nd; conv => whnf) | ((with_reducible first | refine Both.mk ?_ ?_ | refine Any.mk fun b hb => ?_ | refine AskB.dec (fun hb => ?_) (fun hb => ?_) | refine AskB.ndec (fun hb => ?_) (fun hb => ?_) | refine AskB.mk (fun hb => ?_) (fun hb => ?_)) <;> conv => whnf) | ((with_reducible first | refine Run.drawX rfl (by decide +kernel) ?_ | refine Run.drawT rfl (by decide +kernel) ?_ | refine Run.drawW rfl (by decide +kernel) ?_); conv => whnf) | fail)
            refine Run.to _ _ ?_ ?_ (IH (.box 5 0) ⟨by omega, by rw [List.length_append]; omega, .inr rfl⟩)
            · exact ⟨Le.refl _, Le.refl _, Le.refl _, Le.int hw1, trivial⟩
            · refine ⟨MOle.refl _, ?_, trivial⟩
              rw [bs_app]
              exact MOle.refl _
        · have hS : bs (joinL (p.texts.map escB)) = bs (pcL p) := by
            unfold pcL
            rw [if_neg (by assumption), if_neg (by assumption), if_neg (by assumption)]
          rw [hS]
          refine Run.bldr 60 5 5 90 q (bs X) (MOle.refl _) (MOle.refl _) ?_
          refine ln5 q _ rfl rfl rfl rfl rfl (by omega) hq ?_
          refine Run.go ?_; (conv => whnf); repeat' (first | ((with_reducible refine Know.mk fun _ => ?_); conv => whnf) | ((with_reducible refine Need.mk ?_ ?_); exact nd; conv => whnf) | ((with_reducible first | refine Both.mk ?_ ?_ | refine Any.mk fun b hb => ?_ | refine AskB.dec (fun hb => ?_) (fun hb => ?_) | refine AskB.ndec (fun hb => ?_) (fun hb => ?_) | refine AskB.mk (fun hb => ?_) (fun hb => ?_)) <;> conv => whnf) | ((with_reducible first | refine Run.drawX rfl (by decide +kernel) ?_ | refine Run.drawT rfl (by decide +kernel) ?_ | refine Run.drawW rfl (by decide +kernel) ?_); conv => whnf) | fail)
          all_goals try (exfalso; omega)
          · have hbig : 65536 < (prK ps).length := by
              have hb : ((bs (pcL p)).size : Int) > IntKind.i64.wrap (65536 - ((bs X).size : Int)) := by first | assumption | exact Int.lt_of_not_le (by assumption) | exact Int.not_le.mp (by assumption)
              rw [hw65] at hb
              rw [List.length_append] at hpr
              omega
            rw [if_pos hbig]
            exact Run.leave (ts := [2,3]) (.inr ⟨_, rfl⟩) rfl Tryd.func14 rfl (resT ⟨Le.refl _, Le.refl _, trivial⟩)
          · refine Run.bldr 60 5 5 90 q (bs X) (MOle.refl _) (MOle.refl _) ?_
            refine ws5 q _ (bs (pcL p)) rfl rfl rfl rfl rfl rfl (by omega) hq ?_
            refine Run.tidy [5, 17, 18, 19] [5, 90] ?_; (conv => whnf)
            refine Run.go ?_; (conv => whnf); repeat' (first | ((with_reducible refine Know.mk fun _ => ?_); conv => whnf) | ((with_reducible refine Need.mk ?_ ?_); exact nd; conv => whnf) | ((with_reducible first | refine Both.mk ?_ ?_ | refine Any.mk fun b hb => ?_ | refine AskB.dec (fun hb => ?_) (fun hb => ?_) | refine AskB.ndec (fun hb => ?_) (fun hb => ?_) | refine AskB.mk (fun hb => ?_) (fun hb => ?_)) <;> conv => whnf) | ((with_reducible first | refine Run.drawX rfl (by decide +kernel) ?_ | refine Run.drawT rfl (by decide +kernel) ?_ | refine Run.drawW rfl (by decide +kernel) ?_); conv => whnf) | fail)
            refine Run.to _ _ ?_ ?_ (IH (.box 5 0) ⟨by omega, by rw [List.length_append]; omega, .inr rfl⟩)
            · exact ⟨Le.refl _, Le.refl _, Le.refl _, Le.int hw1, trivial⟩
            · refine ⟨MOle.refl _, ?_, trivial⟩
              rw [bs_app]
              exact MOle.refl _
    · refine Run.go ?_; (conv => whnf); repeat' (first | ((with_reducible refine Know.mk fun _ => ?_); conv => whnf) | ((with_reducible refine Need.mk ?_ ?_); exact nd; conv => whnf) | ((with_reducible first | refine Both.mk ?_ ?_ | refine Any.mk fun b hb => ?_ | refine AskB.dec (fun hb => ?_) (fun hb => ?_) | refine AskB.ndec (fun hb => ?_) (fun hb => ?_) | refine AskB.mk (fun hb => ?_) (fun hb => ?_)) <;> conv => whnf) | ((with_reducible first | refine Run.drawX rfl (by decide +kernel) ?_ | refine Run.drawT rfl (by decide +kernel) ?_ | refine Run.drawW rfl (by decide +kernel) ?_); conv => whnf) | fail)
      all_goals try (exfalso; omega)
      obtain rfl : i = ps.length := by omega
      rw [List.take_length] at hlen ⊢
      refine Run.bldr 60 5 5 90 q (bs (prK ps)) (MOle.refl _) (MOle.refl _) ?_
      refine bs5 q _ rfl rfl rfl rfl rfl ?_
      refine Run.go ?_; (conv => whnf); repeat' (first | ((with_reducible refine Know.mk fun _ => ?_); conv => whnf) | ((with_reducible refine Need.mk ?_ ?_); exact nd; conv => whnf) | ((with_reducible first | refine Both.mk ?_ ?_ | refine Any.mk fun b hb => ?_ | refine AskB.dec (fun hb => ?_) (fun hb => ?_) | refine AskB.ndec (fun hb => ?_) (fun hb => ?_) | refine AskB.mk (fun hb => ?_) (fun hb => ?_)) <;> conv => whnf) | ((with_reducible first | refine Run.drawX rfl (by decide +kernel) ?_ | refine Run.drawT rfl (by decide +kernel) ?_ | refine Run.drawW rfl (by decide +kernel) ?_); conv => whnf) | fail)
      rw [if_neg (show ¬ 65536 < (prK ps).length by omega)]
      exact Run.leave (ts := [2,3]) (.inr ⟨_, rfl⟩) rfl Tryd.func14 rfl (resT ⟨Le.refl _, Le.refl _, trivial⟩)
  · rw [if_neg hk] at hc
    rw [if_neg hk]
    refine Fn.of Tryd.f14 _ Tryd.func14 rfl (by decide) (by show 1 ≤ _; decide) tbOk 66 rfl fun S w0 gl => ?_
    refine Run.go ?_; (conv => whnf); repeat' (first | ((with_reducible refine Know.mk fun _ => ?_); conv => whnf) | ((with_reducible refine Need.mk ?_ ?_); exact nd; conv => whnf) | ((with_reducible first | refine Both.mk ?_ ?_ | refine Any.mk fun b hb => ?_ | refine AskB.dec (fun hb => ?_) (fun hb => ?_) | refine AskB.ndec (fun hb => ?_) (fun hb => ?_) | refine AskB.mk (fun hb => ?_) (fun hb => ?_)) <;> conv => whnf) | ((with_reducible first | refine Run.drawX rfl (by decide +kernel) ?_ | refine Run.drawT rfl (by decide +kernel) ?_ | refine Run.drawW rfl (by decide +kernel) ?_); conv => whnf) | fail)
    refine Run.callBX hc rfl rfl ⟨Le.refl _, trivial⟩ rfl rfl rfl ?_
    (conv => whnf); repeat' (first | ((with_reducible refine Know.mk fun _ => ?_); conv => whnf) | ((with_reducible refine Need.mk ?_ ?_); exact nd; conv => whnf) | ((with_reducible first | refine Both.mk ?_ ?_ | refine Any.mk fun b hb => ?_ | refine AskB.dec (fun hb => ?_) (fun hb => ?_) | refine AskB.ndec (fun hb => ?_) (fun hb => ?_) | refine AskB.mk (fun hb => ?_) (fun hb => ?_)) <;> conv => whnf) | ((with_reducible first | refine Run.drawX rfl (by decide +kernel) ?_ | refine Run.drawT rfl (by decide +kernel) ?_ | refine Run.drawW rfl (by decide +kernel) ?_); conv => whnf) | fail)
    · exact absurd (by assumption : (51 : Int) = 0) (by decide)
    · exact Run.leave (ts := [2,3]) (.inr ⟨_, rfl⟩) rfl Tryd.func14 rfl (resT ⟨Le.refl _, Le.refl _, trivial⟩)
end Go.Proofs.YtkdpmkjbfkjmdaaDoor.V

namespace Go.Proofs.YtkdpmkjbfkjmdaaDoor.V
set_option linter.unusedVariables false
set_option linter.unusedSimpArgs false
open Go Go.Proofs Go.RowKit
set_option maxRecDepth 100000
set_option maxHeartbeats 1000000
theorem joinL_snoc (x : List UInt8) : ∀ ts : List (List UInt8), ts ≠ [] → joinL (ts ++ [x]) = joinL ts ++ 124 :: x
  | [], h => absurd rfl h
  | [a], _ => rfl
  | a :: b :: r, _ => by
    show a ++ 124 :: joinL ((b :: r) ++ [x]) = (a ++ 124 :: joinL (b :: r)) ++ 124 :: x
    rw [joinL_snoc x (b :: r) (by simp)]; simp
def fixL : List (List UInt8) → List UInt8
  | [] => []
  | x :: r => 123 :: joinL (x :: r)
theorem fixL_snoc (x : List UInt8) (ts : List (List UInt8)) : fixL (ts ++ [x]) = fixL ts ++ (if ts = [] then [123] else [124]) ++ x := by
  cases ts with
  | nil => rfl
  | cons a r =>
    show 123 :: joinL ((a :: r) ++ [x]) = (123 :: joinL (a :: r)) ++ _ ++ x
    rw [joinL_snoc x (a :: r) (by simp), if_neg (by simp)]; simp
theorem bsG_join (e : Nat) (X s : List UInt8) : MOle (.row e 1 ((bs X).size + (bs s).size) (joinRow (bs X).size (bytesG (bs X)) (fun i _ => .int .u8 (bt (bs s) i)))) (.row e 1 (bs (X ++ s)).size (bytesG (bs (X ++ s)))) := by
  rw [← bs_app]; exact bytesG_join e (bs X) (bs s)
theorem rprint_fn (ps : List Pc) (hl : ps.length ≤ 1000000) (ht : ∀ p ∈ ps, p.texts.length ≤ 2000000) (hx : ∀ p ∈ ps, ∀ x ∈ p.texts, x.size ≤ 2000000) (hpk : (prK ps).length ≤ 20000000000) : Fn Tryd.prog 15 [tPc.L ps] (prtA ps) := by
  have hc := rright_fn ps hl ht
  unfold prtA prtL
  by_cases hk : checkB 0 ps = true
  · rw [hk] at hc
    rw [if_pos hk]
    have hall := check_len hk
    refine Fn.of Tryd.f15 _ Tryd.func15 rfl (by decide) (by show 1 ≤ _; decide) tbOk 91 rfl fun S w0 gl => ?_
    refine Run.go ?_; (conv => whnf); repeat' (first | ((with_reducible refine Know.mk fun _ => ?_); conv => whnf) | ((with_reducible refine Need.mk ?_ ?_); exact nd; conv => whnf) | ((with_reducible first | refine Both.mk ?_ ?_ | refine Any.mk fun b hb => ?_ | refine AskB.dec (fun hb => ?_) (fun hb => ?_) | refine AskB.ndec (fun hb => ?_) (fun hb => ?_) | refine AskB.mk (fun hb => ?_) (fun hb => ?_)) <;> conv => whnf) | ((with_reducible first | refine Run.drawX rfl (by decide +kernel) ?_ | refine Run.drawT rfl (by decide +kernel) ?_ | refine Run.drawW rfl (by decide +kernel) ?_); conv => whnf) | fail)
    refine Run.callBX hc rfl rfl ⟨Le.refl _, trivial⟩ rfl rfl rfl ?_
    (conv => whnf); repeat' (first | ((with_reducible refine Know.mk fun _ => ?_); conv => whnf) | ((with_reducible refine Need.mk ?_ ?_); exact nd; conv => whnf) | ((with_reducible first | refine Both.mk ?_ ?_ | refine Any.mk fun b hb => ?_ | refine AskB.dec (fun hb => ?_) (fun hb => ?_) | refine AskB.ndec (fun hb => ?_) (fun hb => ?_) | refine AskB.mk (fun hb => ?_) (fun hb => ?_)) <;> conv => whnf) | ((with_reducible first | refine Run.drawX rfl (by decide +kernel) ?_ | refine Run.drawT rfl (by decide +kernel) ?_ | refine Run.drawW rfl (by decide +kernel) ?_); conv => whnf) | fail)
    · exact absurd (by assumption : (!true) = true) (by decide)
    refine Run.holdNil 4 90 5 1 (bytesG .empty) rfl ?_
    refine Run.loop [0] (fun (i : Nat) => [(4, .row 90), (5, .int .i64 (i : Int))]) (fun i => [(90, .row 5 1 (bs (prK (ps.take i))).size (bytesG (bs (prK (ps.take i)))))]) (fun i => i ≤ ps.length) (fun i => ps.length - i) 0 (Nat.zero_le _) ⟨Le.refl _, Le.refl _, trivial⟩ ⟨MOle.refl _, trivial⟩ ?_
    intro i hi IH
    have hw1 : IntKind.i64.wrap ((i : Int) + 1) = ((i + 1 : Nat) : Int) := wrap64 (by omega) (by omega)
    by_cases hil : i < ps.length
    · have hpm := getD_mem' (z := tPc.z) i hil
      have htl := ht _ hpm
      have hpx := hx _ hpm
      have htk := prK_take ps i hil
      have hpr := prK_pre ps (i + 1)
      rw [htk] at hpr
      have hrt := hall _ hpm
      have IH := IH (i + 1) (by omega) (by omega)
      rw [htk] at IH
      generalize prK (ps.take i) = X at *
      have hp3 : ps.getD (i : Int).toNat tPc.z = ps.getD i tPc.z := rfl
      generalize hpp : ps.getD i tPc.z = p at *
      rw [List.length_append] at hpr
      have hXs := bs_size X
      have hps := bs_size (pcL p)
      have hXb : (bs X).size ≤ 20000000000 := by omega
      have hk0 : (ps.getD (i : Int).toNat tPc.z).kind = p.kind := by rw [hp3]
      have hk1 : (ps.getD (i : Int).toNat tPc.z).texts.length = p.texts.length := by rw [hp3]
      have hk2 : p.kind = 1 ∨ p.kind = 4 → p.texts.length = 1 := by rintro (h | h) <;> rcases hrt with h2 | h2 | h2 <;> omega
      have hk3 : p.kind ≠ 1 → p.kind ≠ 4 → p.kind ≠ 2 → p.kind = 3 ∧ 2 ≤ p.texts.length ∧ p.texts.length ≤ 4 := by intro a b c; rcases hrt with h2 | h2 | h2 <;> omega
      refine Run.go ?_; (conv => whnf); repeat' (first | ((with_reducible refine Know.mk fun _ => ?_); conv => whnf) | ((with_reducible refine Need.mk ?_ ?_); exact nd; conv => whnf) | ((with_reducible first | refine Both.mk ?_ ?_ | refine Any.mk fun b hb => ?_ | refine AskB.dec (fun hb => ?_) (fun hb => ?_) | refine AskB.ndec (fun hb => ?_) (fun hb => ?_) | refine AskB.mk (fun hb => ?_) (fun hb => ?_)) <;> conv => whnf) | ((with_reducible first | refine Run.drawX rfl (by decide +kernel) ?_ | refine Run.drawT rfl (by decide +kernel) ?_ | refine Run.drawW rfl (by decide +kernel) ?_); conv => whnf) | fail)
      all_goals try (exfalso; omega)
      · have hkk : p.kind = 1 := by omega
        obtain ⟨x0, hx0⟩ : ∃ x0, p.texts = [x0] := ⟨_, one_text (hk2 (.inl hkk))⟩
        have hes := resc_fn (bl x0) (hpx x0 (by rw [hx0]; exact List.mem_singleton.mpr rfl))
        rw [bs_bl] at hes
        have hpc : pcL p = escL (bl x0) := by
          unfold pcL
          rw [if_neg (by omega), if_neg (by omega), if_neg (by omega), hx0]; rfl
        rw [hpc] at IH hps hpr
        have hes0 := bs_size (escL (bl x0))
        refine Run.callBX hes rfl rfl ⟨Le.of_eq (by rw [hp3, hx0]; rfl), trivial⟩ rfl rfl rfl ?_
        (conv => whnf); repeat' (first | ((with_reducible refine Know.mk fun _ => ?_); conv => whnf) | ((with_reducible refine Need.mk ?_ ?_); exact nd; conv => whnf) | ((with_reducible first | refine Both.mk ?_ ?_ | refine Any.mk fun b hb => ?_ | refine AskB.dec (fun hb => ?_) (fun hb => ?_) | refine AskB.ndec (fun hb => ?_) (fun hb => ?_) | refine AskB.mk (fun hb => ?_) (fun hb => ?_)) <;> conv => whnf) | ((with_reducible first | refine Run.drawX rfl (by decide +kernel) ?_ | refine Run.drawT rfl (by decide +kernel) ?_ | refine Run.drawW rfl (by decide +kernel) ?_); conv => whnf) | fail)
        refine Run.hold (z := 57) 4 90 (by rfl) (by rfl) (by rfl) ?_
        refine Run.to _ _ ?_ ?_ IH
        · exact ⟨Le.refl _, Le.refl _, Le.int hw1, trivial⟩
        · exact ⟨bsG_join 5 X _, trivial⟩
      · have hkk : p.kind = 2 := by omega
        have hn : 1 ≤ p.n ∧ p.n ≤ 99 := by rcases hrt with h | h | h <;> omega
        have hnf := number_fn p.n.toNat (by omega)
        have hn2 : (numL p.n.toNat).length ≤ 2 := by unfold numL; split <;> simp
        have hn3 := bs_size (numL p.n.toNat)
        have hpc : pcL p = 91 :: (numL p.n.toNat ++ [93]) := by
          unfold pcL
          rw [if_pos hkk]
        rw [show X ++ pcL p = ((X ++ [91]) ++ numL p.n.toNat) ++ [93] by rw [hpc]; simp] at IH
        refine Run.callBX hnf rfl rfl ⟨Le.int (by rw [hp3]; omega), trivial⟩ rfl rfl rfl ?_
        (conv => whnf); repeat' (first | ((with_reducible refine Know.mk fun _ => ?_); conv => whnf) | ((with_reducible refine Need.mk ?_ ?_); exact nd; conv => whnf) | ((with_reducible first | refine Both.mk ?_ ?_ | refine Any.mk fun b hb => ?_ | refine AskB.dec (fun hb => ?_) (fun hb => ?_) | refine AskB.ndec (fun hb => ?_) (fun hb => ?_) | refine AskB.mk (fun hb => ?_) (fun hb => ?_)) <;> conv => whnf) | ((with_reducible first | refine Run.drawX rfl (by decide +kernel) ?_ | refine Run.drawT rfl (by decide +kernel) ?_ | refine Run.drawW rfl (by decide +kernel) ?_); conv => whnf) | fail)
        refine Run.hold (z := 70) 4 90 (by rfl) (by rfl) (by rfl) ?_
        refine Run.to _ _ ?_ ?_ IH
        · exact ⟨Le.refl _, Le.refl _, Le.int hw1, trivial⟩
        · exact ⟨MOle.rowT (MOle.rowJ (MOle.rowT (MOle.rowJ (bsG_push 5 X 91 _ rfl)) (bsG_join 5 _ _))) (bsG_push 5 _ 93 _ rfl), trivial⟩
      · have hkk : p.kind = 4 := by omega
        obtain ⟨x0, hx0⟩ : ∃ x0, p.texts = [x0] := ⟨_, one_text (hk2 (.inr hkk))⟩
        have hes := resc_fn (bl x0) (hpx x0 (by rw [hx0]; exact List.mem_singleton.mpr rfl))
        rw [bs_bl] at hes
        have hpc : pcL p = 60 :: (escL (bl x0) ++ [62]) := by
          unfold pcL
          rw [if_neg (by omega), if_pos hkk, hx0]; rfl
        have hpcl : (pcL p).length = (escL (bl x0)).length + 2 := by rw [hpc]; simp
        rw [show X ++ pcL p = ((X ++ [60]) ++ escL (bl x0)) ++ [62] by rw [hpc]; simp] at IH
        have hes0 := bs_size (escL (bl x0))
        refine Run.callBX hes rfl rfl ⟨Le.of_eq (by rw [hp3, hx0]; rfl), trivial⟩ rfl rfl rfl ?_
        (conv => whnf); repeat' (first | ((with_reducible refine Know.mk fun _ => ?_); conv => whnf) | ((with_reducible refine Need.mk ?_ ?_); exact nd; conv => whnf) | ((with_reducible first | refine Both.mk ?_ ?_ | refine Any.mk fun b hb => ?_ | refine AskB.dec (fun hb => ?_) (fun hb => ?_) | refine AskB.ndec (fun hb => ?_) (fun hb => ?_) | refine AskB.mk (fun hb => ?_) (fun hb => ?_)) <;> conv => whnf) | ((with_reducible first | refine Run.drawX rfl (by decide +kernel) ?_ | refine Run.drawT rfl (by decide +kernel) ?_ | refine Run.drawW rfl (by decide +kernel) ?_); conv => whnf) | fail)
        refine Run.hold (z := 85) 4 90 (by rfl) (by rfl) (by rfl) ?_
        refine Run.to _ _ ?_ ?_ IH
        · exact ⟨Le.refl _, Le.refl _, Le.int hw1, trivial⟩
        · exact ⟨MOle.rowT (MOle.rowJ (MOle.rowT (MOle.rowJ (bsG_push 5 X 60 _ rfl)) (bsG_join 5 _ _))) (bsG_push 5 _ 62 _ rfl), trivial⟩
      · obtain ⟨hkk, hk4, hk5⟩ := hk3 (by omega) (by omega) (by omega)
        have hfl : ∀ j, (fixL ((p.texts.map escB).take j)).length ≤ 20000001 := fun j => by
          have h1 := joinL_len 4000000 ((p.texts.map escB).take j) (fun y hy => by
            obtain ⟨x, hxm, rfl⟩ := List.mem_map.mp (List.mem_of_mem_take hy)
            have h1 := hpx x hxm
            have h2 := (escL_len (bl x)).2
            have h3 : (bl x).length = x.size := rfl
            show (escL (bl x)).length ≤ _
            omega)
          have h2 : ((p.texts.map escB).take j).length ≤ 4 := by rw [List.length_take, List.length_map]; omega
          have h3 : ((p.texts.map escB).take j).length * (4000000 + 1) ≤ 4 * (4000000 + 1) := Nat.mul_le_mul_right _ h2
          generalize (p.texts.map escB).take j = Y at *
          cases Y with
          | nil => exact Nat.zero_le _
          | cons y Y => show (joinL (y :: Y)).length + 1 ≤ _; omega
        refine Run.loop [0, 5, 6] (fun (j : Nat) => [(4, .row 90), (7, .int .i64 (j : Int))]) (fun j => [(90, .row 5 1 (bs (X ++ fixL ((p.texts.map escB).take j))).size (bytesG (bs (X ++ fixL ((p.texts.map escB).take j))))), (6, .box 34 [.int .i64 p.kind, tS.L p.texts, .int .i64 p.n])]) (fun j => j ≤ p.texts.length) (fun j => p.texts.length - j) 0 (Nat.zero_le _) ⟨Le.refl _, Le.refl _, trivial⟩ ⟨?_, ?_, trivial⟩ ?_
        · show MOle _ (.row 5 1 (bs (X ++ [])).size (bytesG (bs (X ++ []))))
          rw [List.append_nil]; exact MOle.refl _
        · subst hpp; exact MOle.refl _
        intro j hj IHj
        have hw2 : IntKind.i64.wrap ((j : Int) + 1) = ((j + 1 : Nat) : Int) := wrap64 (by omega) (by omega)
        have hflj := hfl j
        by_cases hjl : j < p.texts.length
        · have hpt : p.texts.getD j .empty ∈ p.texts := getD_mem' (z := .empty) j hjl
          have hes := resc_fn (bl (p.texts.getD j .empty)) (hpx _ hpt)
          have hes0 := bs_size (escL (bl (p.texts.getD j .empty)))
          have hesl := (escL_len (bl (p.texts.getD j .empty))).2
          have hesm : (bl (p.texts.getD j .empty)).length ≤ 2000000 := hpx _ hpt
          rw [bs_bl] at hes
          have hgt : fixL ((p.texts.map escB).take (j + 1)) = fixL ((p.texts.map escB).take j) ++ (if j = 0 then [123] else [124]) ++ escL (bl (p.texts.getD j .empty)) := by
            rw [take_at _ j [] (by rw [List.length_map]; exact hjl), fixL_snoc]
            congr 1
            · congr 1
              by_cases h0 : j = 0
              · subst h0; rfl
              · rw [if_neg h0, if_neg]
                intro e
                have := congrArg List.length e
                rw [List.length_take, List.length_map] at this
                have h9 : min j p.texts.length = 0 := this
                omega
            · rw [List.getD_eq_getElem?_getD, List.getElem?_map, List.getD_eq_getElem?_getD, List.getElem?_eq_getElem hjl]; rfl
          have IHj := IHj (j + 1) (by omega) (by omega)
          rw [hgt] at IHj
          have hYs := bs_size (X ++ fixL ((p.texts.map escB).take j))
          rw [List.length_append] at hYs
          generalize fixL ((p.texts.map escB).take j) = Y at hflj IHj hYs ⊢
          refine Run.go ?_; (conv => whnf); repeat' (first | ((with_reducible refine Know.mk fun _ => ?_); conv => whnf) | ((with_reducible refine Need.mk ?_ ?_); exact nd; conv => whnf) | ((with_reducible first | refine Both.mk ?_ ?_ | refine Any.mk fun b hb => ?_ | refine AskB.dec (fun hb => ?_) (fun hb => ?_) | refine AskB.ndec (fun hb => ?_) (fun hb => ?_) | refine AskB.mk (fun hb => ?_) (fun hb => ?_)) <;> conv => whnf) | ((with_reducible first | refine Run.drawX rfl (by decide +kernel) ?_ | refine Run.drawT rfl (by decide +kernel) ?_ | refine Run.drawW rfl (by decide +kernel) ?_); conv => whnf) | fail)
          all_goals try (exfalso; omega)
          · rw [if_pos (show j = 0 by omega), show X ++ (Y ++ [123] ++ escL (bl (p.texts.getD j .empty))) = ((X ++ Y) ++ [123]) ++ escL (bl (p.texts.getD j .empty)) by simp] at IHj
            refine Run.callBX hes rfl rfl ⟨Le.refl _, trivial⟩ rfl rfl rfl ?_
            (conv => whnf); repeat' (first | ((with_reducible refine Know.mk fun _ => ?_); conv => whnf) | ((with_reducible refine Need.mk ?_ ?_); exact nd; conv => whnf) | ((with_reducible first | refine Both.mk ?_ ?_ | refine Any.mk fun b hb => ?_ | refine AskB.dec (fun hb => ?_) (fun hb => ?_) | refine AskB.ndec (fun hb => ?_) (fun hb => ?_) | refine AskB.mk (fun hb => ?_) (fun hb => ?_)) <;> conv => whnf) | ((with_reducible first | refine Run.drawX rfl (by decide +kernel) ?_ | refine Run.drawT rfl (by decide +kernel) ?_ | refine Run.drawW rfl (by decide +kernel) ?_); conv => whnf) | fail)
            refine Run.hold (z := 45) 4 90 (by rfl) (by rfl) (by rfl) ?_
            refine Run.to _ _ ?_ ?_ IHj
            · exact ⟨Le.refl _, Le.refl _, Le.refl _, Le.refl _, Le.int hw2, trivial⟩
            · exact ⟨MOle.rowT (MOle.rowJ (bsG_push 5 (X ++ Y) 123 _ rfl)) (bsG_join 5 _ _), MOle.refl _, trivial⟩
          · rw [if_neg (show ¬ j = 0 by omega), show X ++ (Y ++ [124] ++ escL (bl (p.texts.getD j .empty))) = ((X ++ Y) ++ [124]) ++ escL (bl (p.texts.getD j .empty)) by simp] at IHj
            refine Run.callBX hes rfl rfl ⟨Le.refl _, trivial⟩ rfl rfl rfl ?_
            (conv => whnf); repeat' (first | ((with_reducible refine Know.mk fun _ => ?_); conv => whnf) | ((with_reducible refine Need.mk ?_ ?_); exact nd; conv => whnf) | ((with_reducible first | refine Both.mk ?_ ?_ | refine Any.mk fun b hb => ?_ | refine AskB.dec (fun hb => ?_) (fun hb => ?_) | refine AskB.ndec (fun hb => ?_) (fun hb => ?_) | refine AskB.mk (fun hb => ?_) (fun hb => ?_)) <;> conv => whnf) | ((with_reducible first | refine Run.drawX rfl (by decide +kernel) ?_ | refine Run.drawT rfl (by decide +kernel) ?_ | refine Run.drawW rfl (by decide +kernel) ?_); conv => whnf) | fail)
            refine Run.hold (z := 45) 4 90 (by rfl) (by rfl) (by rfl) ?_
            refine Run.to _ _ ?_ ?_ IHj
            · exact ⟨Le.refl _, Le.refl _, Le.refl _, Le.refl _, Le.int hw2, trivial⟩
            · exact ⟨MOle.rowT (MOle.rowJ (bsG_push 5 (X ++ Y) 124 _ rfl)) (bsG_join 5 _ _), MOle.refl _, trivial⟩
        · obtain rfl : j = p.texts.length := by omega
          have hfin : X ++ pcL p = (X ++ fixL ((p.texts.map escB).take p.texts.length)) ++ [125] := by
            rw [List.take_of_length_le (by rw [List.length_map]; exact Nat.le_refl _)]
            unfold pcL
            rw [if_neg (by omega), if_neg (by omega), if_pos hkk]
            cases hq : p.texts with
            | nil => rw [hq] at hk4; simp at hk4
            | cons a r =>
              show X ++ 123 :: (joinL ((a :: r).map escB) ++ [125]) = (X ++ 123 :: joinL ((a :: r).map escB)) ++ [125]
              simp
          rw [hfin] at IH
          have hYs := bs_size (X ++ fixL ((p.texts.map escB).take p.texts.length))
          rw [List.length_append] at hYs
          refine Run.go ?_; (conv => whnf); repeat' (first | ((with_reducible refine Know.mk fun _ => ?_); conv => whnf) | ((with_reducible refine Need.mk ?_ ?_); exact nd; conv => whnf) | ((with_reducible first | refine Both.mk ?_ ?_ | refine Any.mk fun b hb => ?_ | refine AskB.dec (fun hb => ?_) (fun hb => ?_) | refine AskB.ndec (fun hb => ?_) (fun hb => ?_) | refine AskB.mk (fun hb => ?_) (fun hb => ?_)) <;> conv => whnf) | ((with_reducible first | refine Run.drawX rfl (by decide +kernel) ?_ | refine Run.drawT rfl (by decide +kernel) ?_ | refine Run.drawW rfl (by decide +kernel) ?_); conv => whnf) | fail)
          all_goals try (exfalso; omega)
          refine Run.hold (z := 48) 4 90 (by rfl) (by rfl) (by rfl) ?_
          refine Run.to _ _ ?_ ?_ IH
          · exact ⟨Le.refl _, Le.refl _, Le.int hw1, trivial⟩
          · exact ⟨bsG_push 5 _ 125 _ rfl, trivial⟩
    · obtain rfl : i = ps.length := by omega
      rw [List.take_length] at *
      have hXs := bs_size (prK ps)
      refine Run.go ?_; (conv => whnf); repeat' (first | ((with_reducible refine Know.mk fun _ => ?_); conv => whnf) | ((with_reducible refine Need.mk ?_ ?_); exact nd; conv => whnf) | ((with_reducible first | refine Both.mk ?_ ?_ | refine Any.mk fun b hb => ?_ | refine AskB.dec (fun hb => ?_) (fun hb => ?_) | refine AskB.ndec (fun hb => ?_) (fun hb => ?_) | refine AskB.mk (fun hb => ?_) (fun hb => ?_)) <;> conv => whnf) | ((with_reducible first | refine Run.drawX rfl (by decide +kernel) ?_ | refine Run.drawT rfl (by decide +kernel) ?_ | refine Run.drawW rfl (by decide +kernel) ?_); conv => whnf) | fail)
      all_goals try (exfalso; omega)
      · rw [if_pos (by omega)]
        exact Run.leave (ts := [2,3]) (.inr ⟨_, rfl⟩) rfl Tryd.func15 rfl (resT ⟨Le.refl _, Le.refl _, trivial⟩)
      · rw [if_neg (by omega)]
        refine Run.rowStr (x := .tmp 89) (src := 58) (dst := 9) (e := 5) (q := 90) (bs (prK ps)) rfl rfl rfl rfl rfl rfl rfl (fun _ _ => rfl) (by kernel_rfl) (by kernel_rfl) (by kernel_rfl) ?_
        refine Run.go ?_; (conv => whnf); repeat' (first | ((with_reducible refine Know.mk fun _ => ?_); conv => whnf) | ((with_reducible refine Need.mk ?_ ?_); exact nd; conv => whnf) | ((with_reducible first | refine Both.mk ?_ ?_ | refine Any.mk fun b hb => ?_ | refine AskB.dec (fun hb => ?_) (fun hb => ?_) | refine AskB.ndec (fun hb => ?_) (fun hb => ?_) | refine AskB.mk (fun hb => ?_) (fun hb => ?_)) <;> conv => whnf) | ((with_reducible first | refine Run.drawX rfl (by decide +kernel) ?_ | refine Run.drawT rfl (by decide +kernel) ?_ | refine Run.drawW rfl (by decide +kernel) ?_); conv => whnf) | fail)
        exact Run.leave (ts := [2,3]) (.inr ⟨_, rfl⟩) rfl Tryd.func15 rfl (resT ⟨Le.refl _, Le.refl _, trivial⟩)
  · have hk' : checkB 0 ps = false := by simpa using hk
    rw [hk'] at hc
    rw [if_neg hk]
    refine Fn.of Tryd.f15 _ Tryd.func15 rfl (by decide) (by show 1 ≤ _; decide) tbOk 91 rfl fun S w0 gl => ?_
    refine Run.go ?_; (conv => whnf); repeat' (first | ((with_reducible refine Know.mk fun _ => ?_); conv => whnf) | ((with_reducible refine Need.mk ?_ ?_); exact nd; conv => whnf) | ((with_reducible first | refine Both.mk ?_ ?_ | refine Any.mk fun b hb => ?_ | refine AskB.dec (fun hb => ?_) (fun hb => ?_) | refine AskB.ndec (fun hb => ?_) (fun hb => ?_) | refine AskB.mk (fun hb => ?_) (fun hb => ?_)) <;> conv => whnf) | ((with_reducible first | refine Run.drawX rfl (by decide +kernel) ?_ | refine Run.drawT rfl (by decide +kernel) ?_ | refine Run.drawW rfl (by decide +kernel) ?_); conv => whnf) | fail)
    refine Run.callBX hc rfl rfl ⟨Le.refl _, trivial⟩ rfl rfl rfl ?_
    (conv => whnf); repeat' (first | ((with_reducible refine Know.mk fun _ => ?_); conv => whnf) | ((with_reducible refine Need.mk ?_ ?_); exact nd; conv => whnf) | ((with_reducible first | refine Both.mk ?_ ?_ | refine Any.mk fun b hb => ?_ | refine AskB.dec (fun hb => ?_) (fun hb => ?_) | refine AskB.ndec (fun hb => ?_) (fun hb => ?_) | refine AskB.mk (fun hb => ?_) (fun hb => ?_)) <;> conv => whnf) | ((with_reducible first | refine Run.drawX rfl (by decide +kernel) ?_ | refine Run.drawT rfl (by decide +kernel) ?_ | refine Run.drawW rfl (by decide +kernel) ?_); conv => whnf) | fail)
    · exact Run.leave (ts := [2,3]) (.inr ⟨_, rfl⟩) rfl Tryd.func15 rfl (resT ⟨Le.refl _, Le.refl _, trivial⟩)
    · exact absurd (by assumption : (!false) = false) (by decide)
end Go.Proofs.YtkdpmkjbfkjmdaaDoor.V

