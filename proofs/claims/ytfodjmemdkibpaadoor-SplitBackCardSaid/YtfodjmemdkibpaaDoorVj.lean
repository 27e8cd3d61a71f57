/-
The engine: a frame's list of things to do is gone through; the rules for what it stops at.
-/
import Derived.Test.YtfodjmemdkibpaaDoorVi
namespace Go.Proofs.YtfodjmemdkibpaaDoor.V
open Go Go.RowKit
set_option linter.unusedSimpArgs false
set_option linter.unusedVariables false

def isRange : Nat → Nat → List Nat → Bool
  | i, n, [] => Nat.beq i n
  | i, n, j :: l => Nat.beq i j && isRange (i + 1) n l

def dstOf (ops : Array Oper) (j : Nat) : Option Nat := (ops.toList[j]?).bind (·.dst)

/-- A region's operations from the i-th on. -/
def areg (C : Ctx) (E : List Item → Env → Heap → Prop) (ops : Array Oper) (k : List Item) : List Oper → Nat → Env → Heap → Prop
  | [], _, env, h => E k env h
  | o :: l, i, env, h =>
    match o.dst, o.guard with
    | none, none => aop C o env h (fun env' h' _ => areg C E ops k l (i + 1) env' h') (Run C (.inRegion ops (List.range' i (l.length + 1)) :: k) env h)
    | some d, none => cond (Nat.blt d C.N) (aop C o env h (fun env' h' x => fv x fun x => areg C E ops k l (i + 1) (upd env' d x) h') (Run C (.inRegion ops (List.range' i (l.length + 1)) :: k) env h)) (Run C (.inRegion ops (List.range' i (l.length + 1)) :: k) env h)
    | dst, some (j, want) => cond (okD C.N dst) (match dstOf ops j with
      | some g => match env g with
        | .tt => cond want (aop C o env h (fun env' h' x => fv x fun x => areg C E ops k l (i + 1) (putE env' dst x) h') (Run C (.inRegion ops (List.range' i (l.length + 1)) :: k) env h))
            (areg C E ops k l (i + 1) (putE env dst .sk) h)
        | .ff => cond want (areg C E ops k l (i + 1) (putE env dst .sk) h)
            (aop C o env h (fun env' h' x => fv x fun x => areg C E ops k l (i + 1) (putE env' dst x) h') (Run C (.inRegion ops (List.range' i (l.length + 1)) :: k) env h))
        | .bool b => AskB b
            (cond want (aop C o (upd env g .tt) h (fun env' h' x => fv x fun x => areg C E ops k l (i + 1) (putE env' dst x) h') (Run C (.inRegion ops (List.range' i (l.length + 1)) :: k) (upd env g .tt) h)) (areg C E ops k l (i + 1) (putE (upd env g .tt) dst .sk) h))
            (cond want (areg C E ops k l (i + 1) (putE (upd env g .ff) dst .sk) h) (aop C o (upd env g .ff) h (fun env' h' x => fv x fun x => areg C E ops k l (i + 1) (putE env' dst x) h') (Run C (.inRegion ops (List.range' i (l.length + 1)) :: k) (upd env g .ff) h)))
        | .sk => areg C E ops k l (i + 1) (putE env dst .sk) h
        | _ => Run C (.inRegion ops (List.range' i (l.length + 1)) :: k) env h
      | none => Run C (.inRegion ops (List.range' i (l.length + 1)) :: k) env h) (Run C (.inRegion ops (List.range' i (l.length + 1)) :: k) env h)

/-- A truth, once asked for, is known. -/
def toldE (c : Operand) (env : Env) (x : AV) : Env := match c with
  | .tmp t => upd env t x
  | _ => env
def astep (C : Ctx) (E : List Item → Env → Heap → Prop) : List Item → Env → Heap → Prop
  | [], env, h => Run C [] env h
  | .code (.seq x y) :: k, env, h => E (.code x :: .code y :: k) env h
  | .code .skip :: k, env, h => E k env h
  | .code (.label _) :: k, env, h => Run C k env h
  | .code (.cond c x y) :: k, env, h => match ev env c with
    | .tt => E (.code x :: k) env h
    | .ff => E (.code y :: k) env h
    | .bool b => AskB b (E (.code x :: k) (toldE c env .tt) h) (E (.code y :: k) (toldE c env .ff) h)
    | _ => Run C (.code (.cond c x y) :: k) env h
  | .code (.block id c) :: k, env, h => E (.code c :: .inBlock id :: k) env h
  | .code (.loop c) :: k, env, h => Run C (.code c :: .inLoop c :: k) env h
  | .inLoop c :: k, env, h => Run C (.code c :: .inLoop c :: k) env h
  | .code (.scope c) :: k, env, h => E (.code c :: .inScope c :: k) env h
  | .code (.exit id) :: k, env, h => match exitTo id k with
    | some k' => E k' env h
    | none => Run C (.code (.exit id) :: k) env h
  | .code (.goto l) :: k, env, h => match gotoIn l k with
    | some k' => Run C k' env h
    | none => Run C (.code (.goto l) :: k) env h
  | .code (.region id ops false) :: k, env, h => areg C E ops k ops.toList 0 env h
  | .inBlock _ :: k, env, h => E k env h
  | .inScope _ :: k, env, h => E k env h
  | .inRegion ops [] :: k, env, h => E k env h
  | .inRegion ops (i :: rest) :: k, env, h => cond (isRange i ops.size (i :: rest)) (areg C E ops k (ops.toList.drop i) i env h) (Run C (.inRegion ops (i :: rest) :: k) env h)
  | k, env, h => Run C k env h

def aexec (C : Ctx) : Nat → List Item → Env → Heap → Prop
  | 0 => Run C
  | n + 1 => astep C (aexec C n)

section
variable {C : Ctx} {env : Env} {h : Heap}

theorem Run.of_step {k : List Item} (hs : ∀ ι a w (b : Frame) cs, b.fn = C.f → Rel C env h ι a w → ∃ env' h' ι' a' w' k', Steps C.P (lone (b.at a k) cs w) (lone (b.at a' k') cs w') ∧ Rel C env' h' ι' a' w' ∧ Run C k' env' h') : Run C k env h :=
  ⟨fun ι a w b cs hb hkd R => by
    obtain ⟨env', h', ι', a', w', k', hst, R', hrun⟩ := hs ι a w b cs hb R
    obtain ⟨e, w2, fr, h1, h2, h3⟩ := hrun.run ι' a' w' b cs hb hkd R'
    exact ⟨e, w2, fr, h1, Comes.of_steps hst h2, h3⟩⟩

theorem Run.quiet {k k' : List Item} (hs : ∀ (b : Frame) a cs w, step C.P (lone (b.at a k) cs w) = .next (lone (b.at a k') cs w)) (hr : Run C k' env h) : Run C k env h :=
  Run.of_step fun ι a w b cs _ R => ⟨env, h, ι, a, w, k', .one (hs b a cs w), R, hr⟩

theorem step_scope {P : Program} {b : Frame} {a : Act} {k : List Item} {cs : List Frame} {w : World} {c : Code} :
    step P (lone (b.at a (.code (.scope c) :: k)) cs w) = .next (lone (b.at a (.code c :: .inScope c :: k)) cs w) :=
  step_lone_go (by simp [stepG, stepG.exec, Frame.at])
theorem step_inScope {P : Program} {b : Frame} {a : Act} {k : List Item} {cs : List Frame} {w : World} {c : Code} :
    step P (lone (b.at a (.inScope c :: k)) cs w) = .next (lone (b.at a k) cs w) :=
  step_lone_go (by simp [stepG, stepG.exec, Frame.at])

theorem step_op_ok {P : Program} {b : Frame} {a : Act} {k : List Item} {cs : List Frame} {w w' : World} {ops : Array Oper} {i : Nat} {rest : List Nat} {o : Oper} {nx : Next} {v : Value}
    (ho : ops[i]? = some o) (hw : Region.wanted o (yielded ops a.tmps) = true) (hr : (execOp a.eval o).run P w = .ok nx w') (hv : nx = .value v ∨ (nx = .skip ∧ v = undef)) :
    step P (lone (b.at a (.inRegion ops (i :: rest) :: k)) cs w) = .next (lone (b.at (a.put o.dst v) (.inRegion ops rest :: k)) cs w') := by
  have hg := stepG_op (P := P) (b := b) (k := k) (cs := cs) (w := w) (rest := rest) ho hw
  have hfin : (b.at a (.inRegion ops (i :: rest) :: k)).finish v = b.at (a.put o.dst v) (.inRegion ops rest :: k) := by
    rw [Frame.finish_at, ho]; rfl
  refine step_lone_go ?_
  rw [hg, ← hfin]
  rcases hv with rfl | ⟨rfl, rfl⟩ <;> simp [stepG.apply, hr]

theorem yield_of {ι : Loc} {a : Act} {w : World} (R : Rel C env h ι a w) {ops : Array Oper} {j d : Nat} {b : Bool} (hj : (ops.toList[j]?).bind (·.dst) = some d) (hx : VR w (okB C h ι w) (env d) (rf h ι) (.bool b) ∧ a.tmps.getD d undef = .bool b) :
    yielded ops a.tmps j = some b := by
  have hj' : (ops[j]?).bind (·.dst) = some d := by simpa using hj
  unfold yielded
  rw [hj']
  have h2 := hx.2
  rw [Array.getD_eq_getD_getElem?] at h2
  simp only [Option.bind_some]
  cases hq : a.tmps[d]? with
  | none => rw [hq] at h2; cases h2
  | some u => rw [hq] at h2; simp only [Option.getD_some] at h2; subst h2; rfl

theorem op_ok {o : Oper} {ops : Array Oper} {i : Nat} {rest : List Nat} {k : List Item} (ho : ops[i]? = some o) (hd : okD C.N o.dst = true) {K : Env → Heap → AV → Prop}
    (hK : ∀ env' h' x, K env' h' x → Run C (.inRegion ops rest :: k) (putE env' o.dst x) h')
    (hw : ∀ ι a w, Rel C env h ι a w → Region.wanted o (yielded ops a.tmps) = true) (hk : aop C o env h K (Run C (.inRegion ops (i :: rest) :: k) env h)) : Run C (.inRegion ops (i :: rest) :: k) env h :=
  ⟨fun ι a w b cs hb hkd R => by
    rcases aop_ok R o hk with hk | ⟨nx, v, w', ι', env', h', x, hr, hv, R', hx, hk⟩
    · exact hk.run ι a w b cs hb hkd R
    · have hst := step_op_ok (b := b) (k := k) (cs := cs) (rest := rest) ho (hw ι a w R) hr hv
      obtain ⟨e, w2, fr, h1, h2, h3⟩ := (hK env' h' x hk).run ι' (a.put o.dst v) w' b cs hb hkd (R'.put hx hd)
      exact ⟨e, w2, fr, h1, Comes.of_steps (.one hst) h2, h3⟩⟩

theorem skip_ok {o : Oper} {ops : Array Oper} {i : Nat} {rest : List Nat} {k : List Item} (ho : ops[i]? = some o) (hd : okD C.N o.dst = true)
    (hw : ∀ ι a w, Rel C env h ι a w → Region.wanted o (yielded ops a.tmps) = false) (hk : Run C (.inRegion ops rest :: k) (putE env o.dst .sk) h) : Run C (.inRegion ops (i :: rest) :: k) env h :=
  Run.of_step fun ι a w b cs _ R => by
    have hs := step_op_skip (P := C.P) (b := b) (a := a) (k := k) (cs := cs) (w := w) (ops := ops) (i := i) (rest := rest) (by simp [ho, hw ι a w R])
    rw [ho] at hs
    exact ⟨_, h, ι, _, w, _, .one hs, R.put (x := .sk) rfl hd, hk⟩

theorem wanted_none {o : Oper} (hg : o.guard = none) (f : Nat → Option Bool) : Region.wanted o f = true := by simp [Region.wanted, hg]
theorem wanted_some {o : Oper} {j : Nat} {want b : Bool} (hg : o.guard = some (j, want)) {f : Nat → Option Bool} (hf : f j = some b) : Region.wanted o f = (b == want) := by
  simp [Region.wanted, hg, hf]

theorem wanted_sk {o : Oper} {j : Nat} {want : Bool} (hg : o.guard = some (j, want)) {f : Nat → Option Bool} (hf : f j = none) : Region.wanted o f = false := by
  simp [Region.wanted, hg, hf]
theorem yield_sk {ops : Array Oper} {tmps : Array Value} {j d : Nat} (hj : (ops.toList[j]?).bind (·.dst) = some d) (hx : tmps.getD d undef = undef) : yielded ops tmps j = none := by
  have hj' : (ops[j]?).bind (·.dst) = some d := by simpa using hj
  unfold yielded
  rw [hj']
  rw [Array.getD_eq_getD_getElem?] at hx
  simp only [Option.bind_some]
  cases hq : tmps[d]? with
  | none => rfl
  | some u => rw [hq] at hx; simp only [Option.getD_some] at hx; subst hx; rfl

theorem Run.retell {k : List Item} {env' : Env} (he : ∀ ι a w, Rel C env h ι a w → ∀ i, VR w (okB C h ι w) (env' i) (rf h ι) (a.tmps.getD i undef)) (hr : Run C k env' h) : Run C k env h :=
  ⟨fun ι a w b cs hb hkd R => hr.run ι a w b cs hb hkd (R.env_ (he ι a w R))⟩

theorem Run.told {k : List Item} {d : Nat} {b : Bool} (hd : env d = .bool b) (hb : b = true → Run C k (upd env d .tt) h) (hf : b = false → Run C k (upd env d .ff) h) : Run C k env h := by
  cases b with
  | true =>
    refine Run.retell (fun ι a w R i => ?_) (hb rfl)
    by_cases e : i = d
    · subst e; rw [upd_same]; have := R.env i; rw [hd] at this; exact this
    · rw [upd_other _ _ e]; exact R.env i
  | false =>
    refine Run.retell (fun ι a w R i => ?_) (hf rfl)
    by_cases e : i = d
    · subst e; rw [upd_same]; have := R.env i; rw [hd] at this; exact this
    · rw [upd_other _ _ e]; exact R.env i
end

theorem isRange_ok : ∀ (l : List Nat) (i n : Nat), isRange i n l = true → i + l.length = n ∧ l = List.range' i l.length
  | [], i, n, h => ⟨by simpa using Nat.eq_of_beq_eq_true h, rfl⟩
  | j :: l, i, n, h => by
    simp only [isRange, Bool.and_eq_true] at h
    have e := Nat.eq_of_beq_eq_true h.1
    subst e
    obtain ⟨h1, h2⟩ := isRange_ok l (i + 1) n h.2
    exact ⟨by simp only [List.length_cons]; omega, by rw [List.length_cons, List.range'_succ, ← h2]⟩

theorem areg_ok {C : Ctx} {E : List Item → Env → Heap → Prop} (ih : ∀ k env h, E k env h → Run C k env h) {ops : Array Oper} {k : List Item} :
    ∀ (l : List Oper) (i : Nat) (env : Env) (h : Heap), (∀ j, l[j]? = ops[i + j]?) → areg C E ops k l i env h → Run C (.inRegion ops (List.range' i l.length) :: k) env h := by
  intro l
  induction l with
  | nil => intro i env h _ hx; exact Run.quiet (fun b a cs w => step_region_end) (ih _ _ _ hx)
  | cons o l ihl =>
    intro i env h hl hx
    have ho : ops[i]? = some o := by simpa using (hl 0).symm
    have hl' : ∀ j, l[j]? = ops[i + 1 + j]? := fun j => by
      have := hl (j + 1)
      rw [List.getElem?_cons_succ] at this
      rw [this]; congr 1; omega
    have hrec : ∀ env' h', areg C E ops k l (i + 1) env' h' → Run C (.inRegion ops (List.range' (i + 1) l.length) :: k) env' h' := fun env' h' => ihl (i + 1) env' h' hl'
    have hrec2 : ∀ env' h' x, fv x (fun x => areg C E ops k l (i + 1) (putE env' o.dst x) h') → Run C (.inRegion ops (List.range' (i + 1) l.length) :: k) (putE env' o.dst x) h' := fun env' h' x hk => hrec _ _ ((fv_eq x _).mp hk)
    rw [List.length_cons, List.range'_succ]
    unfold areg at hx
    rw [List.range'_succ] at hx
    split at hx
    · rename_i hd hg
      refine op_ok ho (by rw [hd]; rfl) (fun env' h' x hk => ?_) (fun _ _ _ _ => wanted_none hg _) hx
      rw [hd]; exact hrec _ _ hk
    · rename_i d hd hg
      cases hb : Nat.blt d C.N with
      | false => rw [hb] at hx; exact hx
      | true =>
        rw [hb, cond_true] at hx
        refine op_ok ho (by rw [hd]; exact hb) (fun env' h' x hk => ?_) (fun _ _ _ _ => wanted_none hg _) hx
        rw [hd]; exact hrec _ _ ((fv_eq _ _).mp hk)
    · rename_i j want hg
      cases hd : okD C.N o.dst with
      | false => rw [hd] at hx; exact hx
      | true =>
        rw [hd, cond_true] at hx
        split at hx
        · rename_i g hj
          have yes : ∀ e, e g = .tt → ∀ ι a w, Rel C e h ι a w → yielded ops a.tmps j = some true := fun e he ι a w R => yield_of R hj (by have := R.env g; rw [he] at this; have h2 : a.tmps.getD g undef = .bool true := this; exact ⟨by rw [he]; rfl, h2⟩)
          have no : ∀ e, e g = .ff → ∀ ι a w, Rel C e h ι a w → yielded ops a.tmps j = some false := fun e he ι a w R => yield_of R hj (by have := R.env g; rw [he] at this; have h2 : a.tmps.getD g undef = .bool false := this; exact ⟨by rw [he]; rfl, h2⟩)
          split at hx
          · rename_i e
            cases want with
            | true => exact op_ok ho hd hrec2 (fun ι a w R => wanted_some hg (yes _ e ι a w R)) hx
            | false => exact skip_ok ho hd (fun ι a w R => wanted_some hg (yes _ e ι a w R)) (hrec _ _ hx)
          · rename_i e
            cases want with
            | true => exact skip_ok ho hd (fun ι a w R => wanted_some hg (no _ e ι a w R)) (hrec _ _ hx)
            | false => exact op_ok ho hd hrec2 (fun ι a w R => wanted_some hg (no _ e ι a w R)) hx
          · rename_i b e
            refine Run.told e (fun ht => ?_) (fun ht => ?_)
            · have hx := hx.t ht
              cases want with
              | true => exact op_ok ho hd hrec2 (fun ι a w R => wanted_some hg (yes _ (upd_same _ _ _) ι a w R)) hx
              | false => exact skip_ok ho hd (fun ι a w R => wanted_some hg (yes _ (upd_same _ _ _) ι a w R)) (hrec _ _ hx)
            · have hx := hx.f ht
              cases want with
              | true => exact skip_ok ho hd (fun ι a w R => wanted_some hg (no _ (upd_same _ _ _) ι a w R)) (hrec _ _ hx)
              | false => exact op_ok ho hd hrec2 (fun ι a w R => wanted_some hg (no _ (upd_same _ _ _) ι a w R)) hx
          · rename_i e
            exact skip_ok ho hd (fun ι a w R => wanted_sk hg (yield_sk hj (by have := R.env g; rw [e] at this; exact this))) (hrec _ _ hx)
          · exact hx
        · exact hx

theorem astep_ok {C : Ctx} {E : List Item → Env → Heap → Prop} (ih : ∀ k env h, E k env h → Run C k env h) (k : List Item) (env : Env) (h : Heap) (hx : astep C E k env h) : Run C k env h := by
    unfold astep at hx
    split at hx
    · exact hx
    · exact Run.quiet (fun b a cs w => step_seq) (ih _ _ _ hx)
    · exact Run.quiet (fun b a cs w => step_skip) (ih _ _ _ hx)
    · exact Run.quiet (fun b a cs w => step_label) hx
    · rename_i c x y k
      have key : ∀ t : Bool, (∀ ι a w, Rel C env h ι a w → a.eval c = .bool t) → Run C (.code (if t then x else y) :: k) env h → Run C (.code (.cond c x y) :: k) env h := by
        intro t ht hr
        exact Run.of_step fun ι a w b cs _ R => ⟨env, h, ι, a, w, _, .one (step_cond (ht ι a w R)), R, hr⟩
      split at hx
      · rename_i e
        exact key true (fun ι a w R => by have := ev_ok R c; rw [e] at this; exact this) (ih _ _ _ hx)
      · rename_i e
        exact key false (fun ι a w R => by have := ev_ok R c; rw [e] at this; exact this) (ih _ _ _ hx)
      · rename_i t e
        refine key t (fun ι a w R => by have := ev_ok R c; rw [e] at this; exact this) ?_
        have told : ∀ (t : Bool) (y : AV), ev env c = .bool t → (∀ w ok r v, VR w ok (.bool t) r v → VR w ok y r v) → ∀ k', Run C k' (toldE c env y) h → Run C k' env h := by
          intro t y he hy k' hr
          cases c with
          | tmp s =>
            refine Run.retell (fun ι a w R i => ?_) hr
            by_cases ei : i = s
            · subst ei
              show VR _ _ (upd env i y i) _ _
              rw [upd_same]
              have := R.env i
              rw [show env i = .bool t from he] at this
              exact hy _ _ _ _ this
            · show VR _ _ (upd env s y i) _ _
              rw [upd_other _ _ ei]; exact R.env i
          | _ => exact hr
        cases t with
        | true => exact told true .tt e (fun _ _ _ _ h => h) _ (ih _ _ _ (hx.t rfl))
        | false => exact told false .ff e (fun _ _ _ _ h => h) _ (ih _ _ _ (hx.f rfl))
      · exact hx
    · exact Run.quiet (fun b a cs w => step_block) (ih _ _ _ hx)
    · exact Run.quiet (fun b a cs w => step_loop) hx
    · exact Run.quiet (fun b a cs w => step_inLoop) hx
    · exact Run.quiet (fun b a cs w => step_scope) (ih _ _ _ hx)
    · split at hx
      · rename_i k' e
        exact Run.quiet (fun b a cs w => step_exit e) (ih _ _ _ hx)
      · exact hx
    · split at hx
      · rename_i k' e
        exact Run.quiet (fun b a cs w => step_goto e) hx
      · exact hx
    · rename_i id ops k
      refine Run.quiet (fun b a cs w => step_region) ?_
      have := areg_ok ih ops.toList 0 env h (fun j => by simp) hx
      rwa [Array.length_toList, ← List.range_eq_range'] at this
    · exact Run.quiet (fun b a cs w => step_inBlock) (ih _ _ _ hx)
    · exact Run.quiet (fun b a cs w => step_inScope) (ih _ _ _ hx)
    · exact Run.quiet (fun b a cs w => step_region_end) (ih _ _ _ hx)
    · rename_i ops i rest k
      cases hb : isRange i ops.size (i :: rest) with
      | false => rw [hb] at hx; exact hx
      | true =>
        rw [hb, cond_true] at hx
        obtain ⟨h1, h2⟩ := isRange_ok _ _ _ hb
        have := areg_ok ih (ops.toList.drop i) i env h (fun j => by simp) hx
        rw [h2]
        have e : (i :: rest).length = (ops.toList.drop i).length := by
          have h3 : ops.toList.length = ops.size := Array.length_toList
          rw [List.length_drop, h3]; omega
        rw [e]; exact this
    · exact hx

theorem aexec_ok {C : Ctx} : ∀ (n : Nat) {k : List Item} {env : Env} {h : Heap}, aexec C n k env h → Run C k env h := by
  intro n
  induction n with
  | zero => intro k env h hx; exact hx
  | succ n ih => intro k env h hx; exact astep_ok (fun k env h => ih) k env h hx

end Go.Proofs.YtfodjmemdkibpaaDoor.V
