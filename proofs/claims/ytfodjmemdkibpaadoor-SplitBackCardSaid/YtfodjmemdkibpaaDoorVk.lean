/-
Contracts of functions; entering a body, coming back, calling.
-/
import Derived.Test.YtfodjmemdkibpaaDoorVj
namespace Go.Proofs.YtfodjmemdkibpaaDoor.V
open Go Go.RowKit
set_option linter.unusedSimpArgs false
set_option linter.unusedVariables false

/-- Where what a call answers may lie: in what its arguments lead to, or in new memory. -/
def okR (S : Nat → Prop) (w w' : World) (b : Nat) : Prop := (S b ∨ w.heap.size ≤ b) ∧ b < w'.heap.size

def Post (S : Nat → Prop) (w : World) (r : AV) (e : Ending) (w' : World) : Prop := ∃ v, e = .returned v ∧ Below w.heap.size w w' ∧ VR w' (okR S w w') r noref v

/-- Called with what reads as 'args', the function returns what reads as 'r'; nothing that was there has changed. -/
structure Fn (P : Program) (f : FuncId) (args : List AV) (r : AV) : Prop where
  there : ∃ fn, P.funcs[f]? = some fn ∧ fn.name ≠ "runtime.NumGoroutine" ∧ fn.body.isNone = false
  calls : ∀ (S : Nat → Prop) (w : World) (vs : Array Value), (∀ b, S b → b < w.heap.size) → GlobOk S w → args.length = vs.size →
    (∀ (i : Nat) x v, args[i]? = some x → vs[i]? = some v → VR w S x noref v) → Calls P f vs w (Post S w r)

def envOf (args : List AV) : Env := fun i => args.getD i .u
def noObjs : Heap := fun _ => .dead

theorem envOf_ok {C : Ctx} {args : List AV} {vs : Array Value} {n : Nat} {r : Ref} (hlen : args.length = vs.size) (hargs : ∀ (i : Nat) x v, args[i]? = some x → vs[i]? = some v → VR C.w0 C.S x noref v) (i : Nat) :
    VR C.w0 C.S (envOf args i) noref ((vs ++ Array.replicate n undef).getD i undef) := by
  unfold envOf
  cases hx : args[i]? with
  | none => simp only [List.getD, hx]; trivial
  | some x =>
    have hi : i < args.length := by
      rcases Nat.lt_or_ge i args.length with h' | h'
      · exact h'
      · rw [List.getElem?_eq_none h'] at hx; cases hx
    have hi2 : i < vs.size := by omega
    have := hargs i x vs[i] hx (by simp [hi2])
    simp only [List.getD, hx, Option.getD_some]
    rw [Array.getD_eq_getD_getElem?, Array.getElem?_append_left hi2]
    simpa [hi2] using this

theorem Fn.of {P : Program} {f : FuncId} {args : List AV} {r : AV} (fn : Func) (c : Code) (hf : P.funcs[f]? = some fn) (hb : fn.body = some c) (hname : fn.name ≠ "runtime.NumGoroutine") (hn : args.length ≤ fn.ntmps)
    {T : TT} (tok : TOk P T) (N : Nat) (hN : fn.ntmps = N)
    (hrun : ∀ S w0 (gl : GlobOk S w0), Run { P := P, T := T, tok := tok, N := N, w0 := w0, S := S, glob := gl, f := f, R := Post S w0 r } [.code c] (envOf args) noObjs) : Fn P f args r := by
  subst hN
  refine ⟨⟨fn, hf, hname, by rw [hb]; rfl⟩, fun S w vs hS gl hlen hargs cs => ?_⟩
  let b : Frame := { (default : Frame) with fn := f, kind := .normal }
  have henter : Frame.enter P f vs .normal = b.at { tmps := vs ++ Array.replicate (fn.ntmps - vs.size) undef, defers := [] } [.code c] := by
    simp [Frame.enter, Frame.at, hf, hb, b]
  rw [henter]
  refine (hrun S w gl).run (fun _ _ => .nilIface) _ w b cs rfl rfl ?_
  constructor
  · exact Below.refl _ _
  · rfl
  · simp; omega
  · intro i
    have := envOf_ok (C := { P := P, T := T, tok := tok, N := fn.ntmps, w0 := w, S := S, glob := gl, f := f, R := Post S w r }) (n := fn.ntmps - vs.size) (r := noref) hlen hargs i
    exact VR.mono (fun b hb => ⟨hS b hb, .inl hb, fun id hl => absurd rfl hl⟩) (fun _ _ => rfl) _ _ _ _ (fun _ _ h => False.elim h) this
  · intro id; trivial
  · intro id i; rfl
  · intro id hl; exact absurd rfl hl
  · intro id id' hl; exact absurd rfl hl

/-! ### coming back -/
theorem Rel.globOk {C : Ctx} {env : Env} {h : Heap} {ι : Loc} {a : Act} {w : World} (R : Rel C env h ι a w) : GlobOk (okB C h ι w) w := fun g =>
  VR.mono (fun b hb => ⟨Nat.lt_of_lt_of_le hb.1 R.below.size, Nat.lt_of_lt_of_le hb.1 R.below.size, .inl hb.2, fun id hl hg => Nat.not_lt.mpr (R.base id hl b hg).1 hb.1⟩) (fun b hb => R.below.block b hb.1) _ _ _ _ (fun _ _ h => h) (C.glob g)
theorem Rel.globAll {C : Ctx} {env : Env} {h : Heap} {ι : Loc} {a : Act} {w : World} (R : Rel C env h ι a w) : GlobOk (fun b => b < w.heap.size) w := fun g =>
  VR.mono (fun b hb => ⟨hb.1, hb.1⟩) (fun _ _ => rfl) _ _ _ _ (fun _ _ h => h) (R.globOk g)

def fz (h : Heap) : AV → AV
  | .row id => match h id with
    | .row _ sz n get => .sl n sz get
    | .mat _ sz n get0 o _ szi len get none => .sl n sz (fun i j => cond (Nat.beq j o) (.sl (len i) szi (get i)) (get0 i j))
    | _ => .u
  | .mrow id i => match h id with
    | .mat _ _ _ _ _ _ szi len get _ => .sl (len i) szi (get i)
    | _ => .u
  | .madr .. => .u
  | .radr .. => .u
  | .box .. => .u
  | .obj _ => .u
  | .agg n get => .agg n (fun j => fz h (get j))
  | .tup n get => .tup n (fun j => fz h (get j))
  | x => x

section
variable {C : Ctx} {env : Env} {h : Heap} {ι : Loc} {a : Act} {w : World}

theorem own_sl {w : World} {B e sz n : Nat} {v : Value} {xs : List Value} {get : Nat → Nat → AV} {ok : Nat → Prop} (hrow : w.ownsRow B e sz v n xs) (hone : ∀ u ∈ xs, u.oneCell' = true) (hown : ∀ g, blk v = some g → ok g)
    (hcells : ∀ i j, i < n → j < sz → ∃ cv, xs[i * sz + j]? = some cv ∧ VR w ok (get i j) noref cv) (r : Ref) : VR w ok (.sl n sz get) r v := by
  rcases hrow.2 with ⟨hv, hn0⟩ | ⟨g, cap, cur, hv, hB, hg, hnc, hcap, hcs, htake⟩
  · rw [hv]; subst hn0
    exact ⟨none, 0, rfl, Nat.le_refl _, by simp [maxLen], fun _ => rfl, fun h => absurd h (Nat.lt_irrefl _)⟩
  · rw [hv]
    refine ⟨_, cap, rfl, hnc, hcap, (fun e => by cases e), fun _ => ⟨_, rfl, hown g (by rw [hv]; rfl), fun i j hi hj => ?_⟩⟩
    obtain ⟨cv, c1, c3⟩ := hcells i j hi hj
    exact ⟨cv, hrow.cells (g := g) (by rw [hv]; rfl) _ _ c1, hone cv (List.mem_of_getElem? c1), c3⟩

theorem row_sl (R : Rel C env h ι a w) {id e sz n : Nat} {get : Nat → Nat → AV} (hh : h id = .row e sz n get) {ok : Nat → Prop} (hok : ∀ b, okB C h ι w b → ok b) (hown : ∀ g, owns (h id) (ι id) g → ok g) (r : Ref) :
    VR w ok (.sl n sz get) r (ι id 0) := by
  have ho := R.obj id
  rw [hh] at ho
  obtain ⟨xs, hrow, hone, hcells⟩ := ho
  refine own_sl hrow hone (fun g hg => hown g (owns_zero hg)) (fun i j hi hj => ?_) r
  obtain ⟨cv, c1, c3⟩ := hcells i j hi hj
  exact ⟨cv, c1, VR.mono hok (fun _ _ => rfl) _ _ _ _ (fun _ _ h => h) c3⟩

theorem mrow_sl (R : Rel C env h ι a w) {id e sz n o ei szi : Nat} {get0 : Nat → Nat → AV} {len : Nat → Nat} {get : Nat → Nat → Nat → AV} {hole : Option Nat} (hh : h id = .mat e sz n get0 o ei szi len get hole) {ok : Nat → Prop} (hok : ∀ b, okB C h ι w b → ok b)
    (hown : ∀ g, owns (h id) (ι id) g → ok g) {i : Nat} (hi : i < n) (hho : hole ≠ some i) (r : Ref) : VR w ok (.sl (len i) szi (get i)) r (ι id (i + 1)) := by
  have ho := R.obj id
  rw [hh] at ho
  obtain ⟨_, _, hrows, _⟩ := ho
  obtain ⟨_, ys, hy, hy1, hyc⟩ := hrows i hi hho
  refine own_sl hy hy1 (fun g hg => hown g (by rw [hh]; exact .inr ⟨i, hi, hho, hg⟩)) (fun a b ha hb => ?_) r
  obtain ⟨u, u1, u3⟩ := hyc a b ha hb
  exact ⟨u, u1, VR.mono hok (fun _ _ => rfl) _ _ _ _ (fun _ _ h => h) u3⟩

theorem mat_sl (R : Rel C env h ι a w) {id e sz n o ei szi : Nat} {get0 : Nat → Nat → AV} {len : Nat → Nat} {get : Nat → Nat → Nat → AV} (hh : h id = .mat e sz n get0 o ei szi len get none) {ok : Nat → Prop} (hok : ∀ b, okB C h ι w b → ok b)
    (hown : ∀ g, owns (h id) (ι id) g → ok g) (r : Ref) : VR w ok (.sl n sz (fun i j => cond (Nat.beq j o) (.sl (len i) szi (get i)) (get0 i j))) r (ι id 0) := by
  have ho := R.obj id
  rw [hh] at ho
  obtain ⟨_, ⟨xs, hx, h1, hc0, hin⟩, _, _⟩ := ho
  refine own_sl hx h1 (fun g hg => hown g (owns_zero hg)) (fun i j hi hj => ?_) r
  by_cases hjo : j = o
  · subst hjo
    exact ⟨_, hin i hi (by simp), by rw [Nat.beq_refl, cond_true]; exact mrow_sl R hh hok hown hi (by simp) _⟩
  · obtain ⟨cv, c1, c3⟩ := hc0 i j hi hj hjo
    exact ⟨cv, c1, by rw [beq_ne hjo, cond_false]; exact VR.mono hok (fun _ _ => rfl) _ _ _ _ (fun _ _ h => h) c3⟩

theorem fz_ok (R : Rel C env h ι a w) {ok : Nat → Prop} (hok : ∀ b, okB C h ι w b → ok b) (hown : ∀ id, h id ≠ .dead → ∀ g, owns (h id) (ι id) g → ok g) :
    ∀ (x : AV) (v : Value), VR w (okB C h ι w) x (rf h ι) v → VR w ok (fz h x) noref v := by
  intro x
  induction x with
  | agg n get ih =>
    intro v ⟨cs, e, hs, hc⟩
    refine ⟨cs, e, hs, fun j hj => ?_⟩
    obtain ⟨cv, c1, c2, c3⟩ := hc j hj
    exact ⟨cv, c1, c2, ih j _ c3⟩
  | tup n get ih =>
    intro v ⟨cs, e, hs, hc⟩
    refine ⟨cs, e, hs, fun j hj => ?_⟩
    obtain ⟨cv, c1, c3⟩ := hc j hj
    exact ⟨cv, c1, ih j _ c3⟩
  | row id =>
    intro v hv
    have e : v = ι id 0 := hv
    rw [e]
    simp only [fz]
    split
    · rename_i hh; exact row_sl R hh hok (hown id (by rw [hh]; simp)) _
    · rename_i hh; exact mat_sl R hh hok (hown id (by rw [hh]; simp)) _
    · trivial
  | mrow id i =>
    intro v hv
    obtain ⟨e, h3⟩ := hv
    rw [e]
    simp only [fz]
    split
    · rename_i hh
      rw [hh] at h3
      exact mrow_sl R hh hok (hown id (by rw [hh]; simp)) h3.1 h3.2 _
    · trivial
  | madr id i sz a b => intro v _; trivial
  | radr id sz i j => intro v _; trivial
  | box id off => intro v _; trivial
  | obj id => intro v _; trivial
  | sl n sz get _ => intro v hv; exact VR.mono hok (fun _ _ => rfl) (.sl n sz get) noref noref v (fun _ _ h => h) hv
  | iadr m get _ => intro v hv; exact VR.mono hok (fun _ _ => rfl) (.iadr m get) noref noref v (fun _ _ h => h) hv
  | _ => intro v hv; exact hv

def Le (x y : AV) : Prop := ∀ w ok r v, VR w ok x r v → VR w ok y r v
theorem Le.refl (x : AV) : Le x x := fun _ _ _ _ h => h
theorem Le.trans {x y z : AV} (h : Le x y) (k : Le y z) : Le x z := fun w ok r v hv => k w ok r v (h w ok r v hv)
theorem Le.u (x : AV) : Le x .u := fun _ _ _ _ _ => trivial
theorem Le.of_eq {x y : AV} (h : x = y) : Le x y := h ▸ Le.refl x
theorem Le.sl {n sz : Nat} {g1 g2 : Nat → Nat → AV} (hg : ∀ i j, i < n → j < sz → Le (g1 i j) (g2 i j)) : Le (.sl n sz g1) (.sl n sz g2) := by
  rintro w ok r v ⟨A, c, e, h1, h2, h3, h4⟩
  refine ⟨A, c, e, h1, h2, h3, fun hn => ?_⟩
  obtain ⟨ad, e, hb, hc⟩ := h4 hn
  refine ⟨ad, e, hb, fun i j hi hj => ?_⟩
  obtain ⟨cv, c1, c2, c3⟩ := hc i j hi hj
  exact ⟨cv, c1, c2, hg i j hi hj _ _ _ _ c3⟩
theorem Le.agg {n : Nat} {g1 g2 : Nat → AV} (hg : ∀ j, j < n → Le (g1 j) (g2 j)) : Le (.agg n g1) (.agg n g2) := by
  rintro w ok r v ⟨cs, e, hs, hc⟩
  refine ⟨cs, e, hs, fun j hj => ?_⟩
  obtain ⟨cv, c1, c2, c3⟩ := hc j hj
  exact ⟨cv, c1, c2, hg j hj _ _ _ _ c3⟩
theorem Le.tup {n : Nat} {g1 g2 : Nat → AV} (hg : ∀ j, j < n → Le (g1 j) (g2 j)) : Le (.tup n g1) (.tup n g2) := by
  rintro w ok r v ⟨cs, e, hs, hc⟩
  refine ⟨cs, e, hs, fun j hj => ?_⟩
  obtain ⟨cv, c1, c3⟩ := hc j hj
  exact ⟨cv, c1, hg j hj _ _ _ _ c3⟩
theorem Le.nils (sz : Nat) (g : Nat → Nat → AV) : Le .nils (.sl 0 sz g) := by
  intro w ok r v hv
  exact ⟨none, 0, hv, Nat.le_refl _, by simp [maxLen], fun _ => rfl, fun h => absurd h (Nat.lt_irrefl _)⟩
theorem Le.tt : Le .tt (.bool true) := fun _ _ _ _ h => h
theorem Le.ff : Le .ff (.bool false) := fun _ _ _ _ h => h

def resAV (env : Env) : List Nat → AV
  | [t] => env t
  | ts => .tup ts.length (fun j => env (ts.getD j 0))

def resV (tmps : Array Value) : List Nat → Value
  | [t] => tmps.getD t undef
  | ts => .tuple (ts.map fun t => tmps.getD t undef).toArray

def resM (tmps : Array Value) : ResultVar → Sem Value
  | .tmp t => pure (tmps.getD t undef)
  | .cell a t => do loadVar t (← asAddr (tmps.getD a undef))

theorem results_eq (fn : Func) (tmps : Array Value) : results fn tmps = (do
    let vs ← fn.results.mapM (resM tmps)
    pure (if h : vs.size = 1 then vs[0] else .tuple vs)) := rfl

theorem results_run {P : Program} {fn : Func} {ts : List Nat} (hres : fn.results = (ts.map ResultVar.tmp).toArray) (tmps : Array Value) (w : World) :
    (results fn tmps).run P w = .ok (resV tmps ts) w := by
  have hm : ∀ ts : List Nat, ((ts.map ResultVar.tmp).mapM (resM tmps)).run P w = .ok (ts.map fun t => tmps.getD t undef) w := by
    intro ts
    induction ts with
    | nil => rfl
    | cons t ts ih => simp only [List.map_cons, List.mapM_cons, resM, Sem.run_bind, Sem.run_pure, Result.andThen_ok, ih]
  have h2 := hm ts
  rw [results_eq, hres, List.mapM_toArray, Sem.run_bind, Sem.run_map, h2]
  clear hres hm h2
  match ts with
  | [] => rfl
  | [t] => rfl
  | t :: u :: ts => simp [resV]

theorem Run.leave {k : List Item} {fn : Func} {ts : List Nat} {r : AV} (hk : k = [] ∨ ∃ k', k = .code .ret :: k') (hR : C.R = Post C.S C.w0 r) (hf : C.P.funcs[C.f]? = some fn) (hres : fn.results = (ts.map ResultVar.tmp).toArray)
    (hle : Le (fz h (resAV env ts)) r) : Run C k env h := by
  refine ⟨fun ι a w b cs hb hkd R => ?_⟩
  have hv : VR w (okB C h ι w) (resAV env ts) (rf h ι) (resV a.tmps ts) := by
    match ts, hle, hres with
    | [t], _, _ => exact R.env t
    | [], _, _ => exact ⟨#[], rfl, rfl, fun j hj => by cases hj⟩
    | t :: u :: ts, _, _ =>
      refine ⟨_, rfl, by simp, fun j hj => ?_⟩
      refine ⟨a.tmps.getD ((t :: u :: ts).getD j 0) undef, ?_, R.env _⟩
      rw [List.getElem?_toArray, List.getElem?_map, List.getElem?_eq_getElem hj, List.getD, List.getElem?_eq_getElem hj]
      rfl
  refine ⟨.returned _, w, { b.at a k with mode := .returning }, ?_, ?_, hb, rfl, R.defers, hkd, fn, by show C.P.funcs[b.fn]? = _; rw [hb]; exact hf, results_run hres a.tmps w⟩
  · rw [hR]
    refine ⟨_, rfl, R.below, ?_⟩
    refine hle _ _ _ _ (fz_ok R (fun b hb' => ⟨hb'.2.1, hb'.1⟩) (fun id hl g hg => ?_) _ _ hv)
    have := R.base id hl g hg
    exact ⟨.inr this.1, this.2⟩
  · rcases hk with rfl | ⟨k', rfl⟩
    · exact Steps.one step_end
    · exact Steps.one step_ret

/-! ### calling -/
def bor (h : Heap) : AV → AV := fz h

/-- What is handed in says at least what is asked for. -/
def ArgsLe : List AV → List AV → Prop
  | [], [] => True
  | x :: xs, y :: ys => Le x y ∧ ArgsLe xs ys
  | _, _ => False
theorem ArgsLe.of_eq {xs ys : List AV} (h : xs = ys) : ArgsLe xs ys := by
  subst h
  induction xs with
  | nil => trivial
  | cons x xs ih => exact ⟨Le.refl _, ih⟩
theorem ArgsLe.at : ∀ {xs ys : List AV}, ArgsLe xs ys → ys.length = xs.length ∧ ∀ (i : Nat) y, ys[i]? = some y → ∃ x, xs[i]? = some x ∧ Le x y
  | [], [], _ => ⟨rfl, fun i y h => by cases h⟩
  | x :: xs, y :: ys, h => by
    obtain ⟨h1, h2⟩ := h
    obtain ⟨h3, h4⟩ := ArgsLe.at h2
    refine ⟨by simp [h3], fun i y' hy => ?_⟩
    cases i with
    | zero => cases hy; exact ⟨x, rfl, h1⟩
    | succ i => exact h4 i y' hy
  | [], _ :: _, h => h.elim
  | _ :: _, [], h => h.elim

def flat : AV → Bool
  | .sl .. => false
  | .iadr .. => false
  | .agg n get => (List.range n).all fun j => flat (get j)
  | .tup n get => (List.range n).all fun j => flat (get j)
  | _ => true

theorem flat_ok {w w' : World} {ok ok' : Nat → Prop} : ∀ (x : AV) (r : Ref) (v : Value), flat x = true → VR w ok x r v → VR w' ok' x r v := by
  intro x
  induction x with
  | sl n sz get _ => intro r v hf; cases hf
  | iadr m get _ => intro r v hf; cases hf
  | agg n get ih =>
    intro r v hf ⟨cs, e, hs, hc⟩
    refine ⟨cs, e, hs, fun j hj => ?_⟩
    obtain ⟨cv, c1, c2, c3⟩ := hc j hj
    exact ⟨cv, c1, c2, ih j _ _ (List.all_eq_true.mp hf j (List.mem_range.mpr hj)) c3⟩
  | tup n get ih =>
    intro r v hf ⟨cs, e, hs, hc⟩
    refine ⟨cs, e, hs, fun j hj => ?_⟩
    obtain ⟨cv, c1, c3⟩ := hc j hj
    exact ⟨cv, c1, ih j _ _ (List.all_eq_true.mp hf j (List.mem_range.mpr hj)) c3⟩
  | _ => intro r v _ hv; exact hv

def imm : AV → Bool
  | .row _ => false
  | .radr .. => false
  | .box .. => false
  | .obj _ => false
  | .mrow .. => false
  | .madr .. => false
  | .agg n get => (List.range n).all fun j => imm (get j)
  | .tup n get => (List.range n).all fun j => imm (get j)
  | _ => true

theorem imm_ok {w : World} {ok : Nat → Prop} : ∀ (x : AV) (r r' : Ref) (v : Value), imm x = true → VR w ok x r v → VR w ok x r' v := by
  intro x
  induction x with
  | agg n get ih =>
    intro r r' v hf ⟨cs, e, hs, hc⟩
    refine ⟨cs, e, hs, fun j hj => ?_⟩
    obtain ⟨cv, c1, c2, c3⟩ := hc j hj
    exact ⟨cv, c1, c2, ih j _ _ _ (List.all_eq_true.mp hf j (List.mem_range.mpr hj)) c3⟩
  | tup n get ih =>
    intro r r' v hf ⟨cs, e, hs, hc⟩
    refine ⟨cs, e, hs, fun j hj => ?_⟩
    obtain ⟨cv, c1, c3⟩ := hc j hj
    exact ⟨cv, c1, ih j _ _ _ (List.all_eq_true.mp hf j (List.mem_range.mpr hj)) c3⟩
  | row id => intro r r' v hf; cases hf
  | radr => intro r r' v hf; cases hf
  | box => intro r r' v hf; cases hf
  | obj => intro r r' v hf; cases hf
  | mrow => intro r r' v hf; cases hf
  | madr => intro r r' v hf; cases hf
  | _ => intro r r' v _ hv; exact hv

/-- A call of a function of the program, written out by name. -/
def calls? (o : Oper) : Option (FuncId × List Operand) :=
  match o.op with
  | .call { callee := .value (.func f), args, .. } => some (f, args.toList)
  | _ => none

theorem exec_call {P : Program} {f : FuncId} {o : Oper} {xs : List Operand} (ho : calls? o = some (f, xs)) (ht : ∃ fn, P.funcs[f]? = some fn ∧ fn.name ≠ "runtime.NumGoroutine" ∧ fn.body.isNone = false) (a : Act) (w : World) :
    (execOp a.eval o).run P w = .ok (.enter f (xs.map a.eval).toArray) w := by
  obtain ⟨fn, h1, h2, h3⟩ := ht
  unfold calls? at ho
  split at ho
  · rename_i f' args at_ heq
    cases ho
    have h2' : (fn.name == "runtime.NumGoroutine") = false := by simpa using h2
    simp only [execOp, heq, resolve, Act.eval, Deferred.ofValue, Sem.run_bind, Sem.run_pure, Result.andThen_ok, invoke, callFunc, program, Sem.run, h1, h2', h3, Bool.false_eq_true, if_false]
    congr 2
    apply Array.ext'
    simp
  · cases ho

theorem step_call {P : Program} {b : Frame} {a : Act} {k : List Item} {cs : List Frame} {w : World} {ops : Array Oper} {i : Nat} {rest : List Nat} {o : Oper} {f : FuncId} {vs : Array Value} {R : Ending → World → Prop}
    (ho : ops[i]? = some o) (hw : Region.wanted o (yielded ops a.tmps) = true) (hr : (execOp a.eval o).run P w = .ok (.enter f vs) w) (hc : Calls P f vs w R) (hR : ∀ e w', R e w' → ∃ v, e = .returned v) :
    ∃ v w', R (.returned v) w' ∧ Steps P (lone (b.at a (.inRegion ops (i :: rest) :: k)) cs w) (lone (b.at (a.put o.dst v) (.inRegion ops rest :: k)) cs w') := by
  have hg := stepG_op (P := P) (b := b) (k := k) (cs := cs) (w := w) (rest := rest) ho hw
  obtain ⟨e, w', fr, hRe, hcomes, _, hleave⟩ := hc (b.at a (.inRegion ops (i :: rest) :: k) :: cs)
  obtain ⟨v, rfl⟩ := hR e w' hRe
  have henter : step P (lone (b.at a (.inRegion ops (i :: rest) :: k)) cs w) = .next (lone (Frame.enter P f vs .normal) (b.at a (.inRegion ops (i :: rest) :: k) :: cs) w) :=
    step_lone_go (by rw [hg]; simp [stepG.apply, hr, Frame.at])
  have hfin : (b.at a (.inRegion ops (i :: rest) :: k)).finish v = b.at (a.put o.dst v) (.inRegion ops rest :: k) := by
    rw [Frame.finish_at, ho]; rfl
  refine ⟨v, w', hRe, .head henter (Steps.trans hcomes (.one ?_))⟩
  rw [← hfin]
  exact step_leave_returned hleave

theorem post_returned {S : Nat → Prop} {w : World} {r : AV} : ∀ e w', Post S w r e w' → ∃ v, e = .returned v := fun e w' ⟨v, h, _⟩ => ⟨v, h⟩

/-- May this operation be done now? -/
def ready (env : Env) (ops : Array Oper) (o : Oper) : Bool :=
  match o.guard with
  | none => true
  | some (j, want) => match (ops.toList[j]?).bind (·.dst) with
    | some d => match env d with
      | .tt => want
      | .ff => !want
      | _ => false
    | none => false

theorem ready_ok {ops : Array Oper} {o : Oper} (hr : ready env ops o = true) (R : Rel C env h ι a w) : Region.wanted o (yielded ops a.tmps) = true := by
  unfold ready at hr
  split at hr
  · rename_i hg; exact wanted_none hg _
  · rename_i j want hg
    split at hr
    · rename_i d hj
      split at hr
      · rename_i e
        have hy : yielded ops a.tmps j = some true := yield_of R hj (by have := R.env d; rw [e] at this; have h2 : a.tmps.getD d undef = .bool true := this; exact ⟨by rw [e]; rfl, h2⟩)
        rw [wanted_some hg hy, hr]; rfl
      · rename_i e
        have hy : yielded ops a.tmps j = some false := yield_of R hj (by have := R.env d; rw [e] at this; have h2 : a.tmps.getD d undef = .bool false := this; exact ⟨by rw [e]; rfl, h2⟩)
        rw [wanted_some hg hy]; cases want <;> first | rfl | cases hr
      · cases hr
    · cases hr

/-- A call whose answer holds no memory: what is handed in may be the caller's own. -/
theorem Run.callA {ops : Array Oper} {i : Nat} {rest : List Nat} {k : List Item} {o : Oper} {f : FuncId} {xs : List Operand} {args : List AV} {r : AV} (hfn : Fn C.P f args r) (ho : ops.toList[i]? = some o) (hc : calls? o = some (f, xs))
    (hargs : ArgsLe (xs.map (fun x => bor h (ev env x))) args) (hd : okD C.N o.dst = true) (hr : ready env ops o = true) (hflat : flat r = true)
    (next : Run C (.inRegion ops rest :: k) (putE env o.dst r) h) : Run C (.inRegion ops (i :: rest) :: k) env h :=
  Run.of_step fun ι a w b cs _ R => by
    have ho' : ops[i]? = some o := by simpa using ho
    have hcalls := hfn.calls (fun b => b < w.heap.size) w (xs.map a.eval).toArray (fun b hb => hb) R.globAll (by rw [hargs.at.1]; simp) (fun i x v hx hv => by
      obtain ⟨x0, hx0, hle0⟩ := hargs.at.2 i x hx
      rw [List.getElem?_map] at hx0
      rw [List.getElem?_toArray, List.getElem?_map] at hv
      cases hq : xs[i]? with
      | none => rw [hq] at hx0; cases hx0
      | some y =>
        rw [hq] at hx0 hv
        cases hx0; cases hv
        exact hle0 _ _ _ _ (fz_ok R (fun b hb => hb.1) (fun id hl g hg => (R.base id hl g hg).2) _ _ (ev_ok R y)))
    obtain ⟨v, w', ⟨v', e, hbel, hv⟩, hst⟩ := step_call (b := b) (k := k) (cs := cs) (rest := rest) ho' (ready_ok hr R) (exec_call hc hfn.there a w) hcalls post_returned
    cases e
    have R' := R.grow hbel
    exact ⟨_, h, ι, _, w', _, hst, R'.put (imm_any hflat hv) hd, next⟩
where
  imm_any {r : AV} {w' : World} {ok ok' : Nat → Prop} {rr : Ref} {v : Value} (hf : flat r = true) (hv : VR w' ok r noref v) : VR w' ok' r rr v :=
    flat_ok _ _ _ hf (VR.mono (fun _ h => h) (fun _ _ => rfl) _ _ _ _ (fun _ _ h => False.elim h) hv)

/-- A call that is handed nothing of the caller's own that may still change. -/
theorem Run.callB {ops : Array Oper} {i : Nat} {rest : List Nat} {k : List Item} {o : Oper} {f : FuncId} {xs : List Operand} {args : List AV} {r : AV} (hfn : Fn C.P f args r) (ho : ops.toList[i]? = some o) (hc : calls? o = some (f, xs))
    (hargs : ArgsLe (xs.map (ev env)) args) (himm : args.all imm = true) (hd : okD C.N o.dst = true) (hr : ready env ops o = true)
    (next : Run C (.inRegion ops rest :: k) (putE env o.dst r) h) : Run C (.inRegion ops (i :: rest) :: k) env h :=
  Run.of_step fun ι a w b cs _ R => by
    have ho' : ops[i]? = some o := by simpa using ho
    have hcalls := hfn.calls (okB C h ι w) w (xs.map a.eval).toArray (fun b hb => hb.1) R.globOk (by rw [hargs.at.1]; simp) (fun i x v hx hv => by
      have hix : imm x = true := List.all_eq_true.mp himm x (List.mem_of_getElem? hx)
      obtain ⟨x0, hx0, hle0⟩ := hargs.at.2 i x hx
      rw [List.getElem?_map] at hx0
      rw [List.getElem?_toArray, List.getElem?_map] at hv
      cases hq : xs[i]? with
      | none => rw [hq] at hx0; cases hx0
      | some y =>
        rw [hq] at hx0 hv
        cases hx0; cases hv
        exact imm_ok _ _ _ _ hix (hle0 _ _ _ _ (ev_ok R y)))
    obtain ⟨v, w', ⟨v', e, hbel, hv⟩, hst⟩ := step_call (b := b) (k := k) (cs := cs) (rest := rest) ho' (ready_ok hr R) (exec_call hc hfn.there a w) hcalls post_returned
    cases e
    have R' := R.grow hbel
    refine ⟨_, h, ι, _, w', _, hst, R'.put (VR.mono (fun b hb => ?_) (fun _ _ => rfl) _ _ _ _ (fun _ _ h => False.elim h) hv) hd, next⟩
    refine ⟨hb.2, ?_, ?_⟩
    · rcases hb.1 with hb1 | hb1
      · exact hb1.2.1
      · exact .inr (Nat.le_trans R.below.size hb1)
    · intro id hl e
      rcases hb.1 with hb1 | hb1
      · exact hb1.2.2 id hl e
      · have := (R.base id hl b e).2; omega
end

end Go.Proofs.YtfodjmemdkibpaaDoor.V
