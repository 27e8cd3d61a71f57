/-
A call gone through in place: the callee sees the caller's own memory; the caller's slots lie by, as an object, while it runs.
-/
import Derived.Test.YtfodjmemdkibpaaDoorVz
import Derived.Lib.Builder
import Derived.Laws.Externs
namespace Go.Proofs.YtfodjmemdkibpaaDoor.V
open Go Go.RowKit
set_option linter.unusedSimpArgs false
set_option linter.unusedVariables false

/-- The callee has come back to the caller's slots: a's. -/
def RetQ (C : Ctx) (a : Act) (K : Env → Heap → AV → Prop) (e : Ending) (w' : World) : Prop :=
  ∃ v ι' env' h' x, e = .returned v ∧ Rel C env' h' ι' a w' ∧ VR w' (okB C h' ι' w') x (rf h' ι') v ∧ K env' h' x

/-- What the callee is walked in. -/
def Ctx.sub (C : Ctx) (f : FuncId) (N : Nat) (a : Act) (K : Env → Heap → AV → Prop) : Ctx := { C with N := N, f := f, R := RetQ C a K }

theorem Run.inline {C : Ctx} {env : Env} {h : Heap} {ops : Array Oper} {i : Nat} {rest : List Nat} {k : List Item} {o : Oper} {f : FuncId} {xs : List Operand} (F : Nat) (fn : Func) (c : Code) (N : Nat)
    (ho : ops.toList[i]? = some o) (hc : calls? o = some (f, xs)) (hf : C.P.funcs[f]? = some fn) (hb : fn.body = some c) (hname : fn.name ≠ "runtime.NumGoroutine") (hN : fn.ntmps = N) (hn : xs.length ≤ N)
    (hd : okD C.N o.dst = true) (hr : ready env ops o = true)
    (sub : ∀ a : Act, a.tmps.size = C.N → a.defers = [] → Run (C.sub f N a (fun env' h' x => Run C (.inRegion ops rest :: k) (putE env' o.dst x) h')) [.code c] (envOf (xs.map (ev (scrubE F env)))) (upd (upd (scrubH F h) F .dead) F (.frame a.tmps (scrubE F env)))) :
    Run C (.inRegion ops (i :: rest) :: k) env h := by
  subst hN
  refine Run.of_step fun ι a w b cs _ R => ?_
  have ho' : ops[i]? = some o := by simpa using ho
  obtain ⟨R2, hok2, S2⟩ := R.make F F (.frame a.tmps (scrubE F env)) .nilIface w (Below.refl _ _) (fun _ _ => rfl) (fun _ _ _ _ _ _ => rfl) rfl (fun g hg => by cases hg) (fun g hg => by cases hg) (fun _ _ _ _ g _ e => by cases e)
    (fun ok r hok hS hrr => by
      subst hrr
      exact fun j => VR.scrub hS hok (fun _ _ => rfl) _ _ (R.env j))
  have hcalls : Calls C.P f (xs.map a.eval).toArray w (RetQ C a (fun env' h' x => Run C (.inRegion ops rest :: k) (putE env' o.dst x) h')) := by
    intro cs2
    let b2 : Frame := { (default : Frame) with fn := f, kind := .normal }
    have henter : Frame.enter C.P f (xs.map a.eval).toArray .normal = b2.at { tmps := (xs.map a.eval).toArray ++ Array.replicate (fn.ntmps - (xs.map a.eval).toArray.size) undef, defers := [] } [.code c] := by
      simp [Frame.enter, Frame.at, hf, hb, b2]
    rw [henter]
    refine (sub a R.size R.defers).run (upd ι F (fun _ => .nilIface)) _ w b2 cs2 rfl rfl ?_
    constructor
    · exact R.below
    · rfl
    · show ((xs.map a.eval).toArray ++ Array.replicate (fn.ntmps - (xs.map a.eval).toArray.size) undef).size = fn.ntmps
      simp; omega
    · intro j
      show VR w _ (envOf (xs.map (ev (scrubE F env))) j) _ _
      unfold envOf
      cases hx : xs[j]? with
      | none =>
        have : (xs.map (ev (scrubE F env))).getD j .u = .u := by simp [List.getD, hx]
        rw [this]; trivial
      | some y =>
        have hj : j < xs.length := by
          rcases Nat.lt_or_ge j xs.length with h' | h'
          · exact h'
          · rw [List.getElem?_eq_none h'] at hx; cases hx
        have e1 : (xs.map (ev (scrubE F env))).getD j .u = ev (scrubE F env) y := by simp [List.getD, hx]
        have e2 : ((xs.map a.eval).toArray ++ Array.replicate (fn.ntmps - (xs.map a.eval).toArray.size) undef).getD j undef = a.eval y := by
          rw [Array.getD_eq_getD_getElem?, Array.getElem?_append_left (by simpa using hj)]
          simp [hx]
        rw [e1, e2]
        exact ev_ok R2 y
    · exact R2.obj
    · exact R2.one
    · exact R2.base
    · exact R2.apart
  obtain ⟨v, w', ⟨v', ι', env', h', x, e, R', hv, hk⟩, hst⟩ := step_call (b := b) (k := k) (cs := cs) (rest := rest) ho' (ready_ok hr R) (exec_call hc ⟨fn, hf, hname, by rw [hb]; rfl⟩ a w) hcalls (fun e w' ⟨v, _, _, _, _, h, _⟩ => ⟨v, h⟩)
  cases e
  exact ⟨_, h', ι', _, w', _, hst, R'.put hv hd, hk⟩

/-- Back from a call gone through in place: one answer, or none. -/
theorem Run.back {C : Ctx} {a : Act} {f : FuncId} {N : Nat} {K : Env → Heap → AV → Prop} {env : Env} {h : Heap} {k : List Item} (F : Nat) {E : Env} {fn : Func} {ts : List Nat} (hsz : a.tmps.size = C.N) (hdf : a.defers = []) (hk : k = [] ∨ ∃ k', k = .code .ret :: k')
    (hfr : h F = .frame a.tmps E) (hf : C.P.funcs[f]? = some fn) (hres : fn.results = (ts.map ResultVar.tmp).toArray) (hK : K E (upd h F .dead) (resAV env ts)) : Run (C.sub f N a K) k env h := by
  refine ⟨fun ι a2 w b cs hb hkd R => ?_⟩
  obtain ⟨R2, hok, hrf⟩ := R.kill F
  have hfo : ∀ i, VR w (okB (C.sub f N a K) h ι w) (E i) (rf h ι) (a.tmps.getD i undef) := by
    have := R.obj F
    rw [hfr] at this
    exact this
  have Rc : Rel C E (upd h F .dead) ι a w := by
    constructor
    · exact R2.below
    · exact hdf
    · exact hsz
    · exact fun i => VR.mono hok (fun _ _ => rfl) _ _ _ _ hrf (hfo i)
    · exact R2.obj
    · exact R2.one
    · exact R2.base
    · exact R2.apart
  have hv : VR w (okB C (upd h F .dead) ι w) (resAV env ts) (rf (upd h F .dead) ι) (resV a2.tmps ts) := by
    match ts, hres with
    | [t], _ => exact R2.env t
    | [], _ => exact ⟨#[], rfl, rfl, fun j hj => by cases hj⟩
    | t :: u :: ts, _ =>
      refine ⟨_, rfl, by simp, fun j hj => ?_⟩
      refine ⟨a2.tmps.getD ((t :: u :: ts).getD j 0) undef, ?_, R2.env _⟩
      rw [List.getElem?_toArray, List.getElem?_map, List.getElem?_eq_getElem hj, List.getD, List.getElem?_eq_getElem hj]
      rfl
  refine ⟨.returned _, w, { b.at a2 k with mode := .returning }, ⟨_, ι, E, upd h F .dead, _, rfl, Rc, hv, hK⟩, ?_, hb, rfl, R.defers, hkd, fn, by show C.P.funcs[b.fn]? = _; rw [hb]; exact hf, results_run hres a2.tmps w⟩
  rcases hk with rfl | ⟨k', rfl⟩
  · exact Steps.one step_end
  · exact Steps.one step_ret

/-- One operation that the engine does not know: what it does is handed in. -/
theorem Run.opG {C : Ctx} {env : Env} {h : Heap} {o : Oper} {ops : Array Oper} {i : Nat} {rest : List Nat} {k : List Item} (K : Env → Heap → AV → Prop) (ho : ops.toList[i]? = some o) (hd : okD C.N o.dst = true) (hr : ready env ops o = true)
    (hop : ∀ ι a w, Rel C env h ι a w → OpOut C a w o K) (hK : ∀ env' h' x, K env' h' x → Run C (.inRegion ops rest :: k) (putE env' o.dst x) h') : Run C (.inRegion ops (i :: rest) :: k) env h :=
  ⟨fun ι a w b cs hb hkd R => by
    obtain ⟨nx, v, w', ι', env', h', x, hr1, hv, R', hx, hk⟩ := hop ι a w R
    have hst := step_op_ok (b := b) (k := k) (cs := cs) (rest := rest) (by simpa using ho) (ready_ok hr R) hr1 hv
    obtain ⟨e, w2, fr, h1, h2, h3⟩ := (hK env' h' x hk).run ι' (a.put o.dst v) w' b cs hb hkd (R'.put hx hd)
    exact ⟨e, w2, fr, h1, Comes.of_steps (.one hst) h2, h3⟩⟩

theorem box_shape {C : Ctx} {env : Env} {h : Heap} {ι : Loc} {a : Act} {w : World} (R : Rel C env h ι a w) {id : Nat} {t : TypeId} {l : List AV} (hb : h id = .box t l) : ∃ g, ι id 0 = .pointer (some ⟨g, 0, none⟩) ∧ w.shape? g = some (t, l.length) := by
  have := R.obj id
  rw [hb] at this
  obtain ⟨g, cs, h1, h2, h3, _⟩ := this
  exact ⟨g, h1, by simp [World.shape?, h2, h3]⟩
/-- A box's address turned to unsafe.Pointer: the address as it is. -/
theorem Run.toUnsafe {C : Ctx} {env : Env} {h : Heap} {o : Oper} {ops : Array Oper} {i : Nat} {rest : List Nat} {k : List Item} {src dst t e : TypeId} {x : Operand} {id : Nat} {l : List AV} {j : TypeInfo} (ho : ops.toList[i]? = some o) (hc : o.op = .convert src dst x) (hd : okD C.N o.dst = true) (hr : ready env ops o = true)
    (hx : ev env x = .box id 0) (hb : h id = .box e l) (hl : 0 < l.length) (hs : C.P.underlying src = some (.pointer t)) (hds : C.P.underlying dst = some .unsafePointer) (ht : C.P.info? t = some j) (hj : j.size ≠ 0)
    (next : Run C (.inRegion ops rest :: k) (putE env o.dst (.box id 0)) h) : Run C (.inRegion ops (i :: rest) :: k) env h :=
  Run.opG (fun env' h' y => env' = env ∧ h' = h ∧ y = .box id 0) ho hd hr (fun ι a w R => by
    obtain ⟨g, h1, h2⟩ := box_shape R hb
    have hv := ev_ok R x
    rw [hx] at hv
    obtain ⟨g', h3, h4⟩ := hv
    rw [h1] at h3
    cases h3
    have h4' : a.eval x = .pointer (some ⟨g, 0, none⟩) := by rw [h4]; rfl
    refine OpOut.of (s := convert src dst (a.eval x)) (by simp [execOp, hc]) (Out.same R ⟨rfl, rfl, rfl⟩ ?_ ⟨g, h1, h4⟩)
    rw [h4']
    exact Lib.run_to_unsafe w ⟨g, 0, none⟩ hs hds ht hj h2 hl) (fun env' h' y ⟨e1, e2, e3⟩ => by subst e1; subst e2; subst e3; exact next)
/-- unsafe.Pointer to a pointer to what lies there: the address as it is. -/
theorem Run.fromUnsafe {C : Ctx} {env : Env} {h : Heap} {o : Oper} {ops : Array Oper} {i : Nat} {rest : List Nat} {k : List Item} {src dst u e : TypeId} {x : Operand} {id : Nat} {l : List AV} {j : TypeInfo} (ho : ops.toList[i]? = some o) (hc : o.op = .convert src dst x) (hd : okD C.N o.dst = true) (hr : ready env ops o = true)
    (hx : ev env x = .box id 0) (hb : h id = .box e l) (hs : C.P.underlying src = some .unsafePointer) (hds : C.P.underlying dst = some (.pointer u)) (hu : C.P.info? u = some j) (hlies : liesAt C.P C.P.depth e (l.length / C.P.cellsOf e) 0 u 1 = true)
    (next : Run C (.inRegion ops rest :: k) (putE env o.dst (.box id 0)) h) : Run C (.inRegion ops (i :: rest) :: k) env h :=
  Run.opG (fun env' h' y => env' = env ∧ h' = h ∧ y = .box id 0) ho hd hr (fun ι a w R => by
    obtain ⟨g, h1, h2⟩ := box_shape R hb
    have hv := ev_ok R x
    rw [hx] at hv
    obtain ⟨g', h3, h4⟩ := hv
    rw [h1] at h3
    cases h3
    have h4' : a.eval x = .pointer (some ⟨g, 0, none⟩) := by rw [h4]; rfl
    refine OpOut.of (s := convert src dst (a.eval x)) (by simp [execOp, hc]) (Out.same R ⟨rfl, rfl, rfl⟩ ?_ ⟨g, h1, h4⟩)
    rw [h4']
    exact Lib.run_from_unsafe w ⟨g, 0, none⟩ hs hds hu h2 hlies) (fun env' h' y ⟨e1, e2, e3⟩ => by subst e1; subst e2; subst e3; exact next)

/-- A call of one of the model's own entries that answers a value and leaves the world as it is. -/
theorem exec_extern {P : Program} {f : FuncId} {fn : Func} {o : Oper} {xs : List Operand} {e : Array Value → Sem Value} (ho : calls? o = some (f, xs)) (hf : P.funcs[f]? = some fn) (hname : (fn.name == "runtime.NumGoroutine") = false)
    (hb : fn.body.isNone = true) (hn : Extern.findNext fn = none) (he : Extern.find fn = some e) (a : Act) (w : World) {v : Value} (hv : (e (xs.map a.eval).toArray).run P w = .ok v w) :
    (execOp a.eval o).run P w = .ok (.value v) w := by
  unfold calls? at ho
  split at ho
  · rename_i f' args at_ heq
    cases ho
    have h1 := run_callFunc_extern hf hname hb hn he (args.toList.map a.eval).toArray w
    rw [hv] at h1
    have h2 : (args.toList.map a.eval).toArray = args.map a.eval := by apply Array.ext'; simp
    rw [h2] at h1
    simp only [execOp, heq, resolve, Act.eval, Deferred.ofValue, Sem.run_bind, Sem.run_pure, Result.andThen_ok, invoke]
    first | exact h1 | simpa [Act.eval, Result.andThen] using h1
  · cases ho
/-- internal/abi.NoEscape: what goes in. -/
theorem Run.noEscape {C : Ctx} {env : Env} {h : Heap} {o : Oper} {ops : Array Oper} {i : Nat} {rest : List Nat} {k : List Item} {f : FuncId} {fn : Func} {x : Operand} (ho : ops.toList[i]? = some o) (hc : calls? o = some (f, [x])) (hd : okD C.N o.dst = true) (hr : ready env ops o = true)
    (hf : C.P.funcs[f]? = some fn) (hname : (fn.name == "runtime.NumGoroutine") = false) (hb : fn.body.isNone = true) (hn : Extern.findNext fn = none) (he : Extern.find fn = some Extern.AbiNoEscape.same)
    (next : Run C (.inRegion ops rest :: k) (putE env o.dst (ev env x)) h) : Run C (.inRegion ops (i :: rest) :: k) env h :=
  Run.opG (fun env' h' y => env' = env ∧ h' = h ∧ y = ev env x) ho hd hr (fun ι a w R =>
    OpOut.same R ⟨rfl, rfl, rfl⟩ (exec_extern hc hf hname hb hn he a w (by exact Lib.run_noEscape w (a.eval x))) (ev_ok R x)) (fun env' h' y ⟨e1, e2, e3⟩ => by subst e1; subst e2; subst e3; exact next)
end Go.Proofs.YtfodjmemdkibpaaDoor.V
