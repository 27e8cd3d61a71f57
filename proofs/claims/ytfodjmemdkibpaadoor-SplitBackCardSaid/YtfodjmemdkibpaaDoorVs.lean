/-
Functions that answer with memory of their own making; own rows that are given up.
-/
import Derived.Test.YtfodjmemdkibpaaDoorVy
namespace Go.Proofs.YtfodjmemdkibpaaDoor.V
open Go Go.RowKit
set_option linter.unusedSimpArgs false
set_option linter.unusedVariables false

/-! ### references told anew -/
def mapRef (p : Nat → Bool) (f : Nat → Nat) : AV → AV
  | .row id => cond (p id) (.row (f id)) .u
  | .radr id sz i j => cond (p id) (.radr (f id) sz i j) .u
  | .box id off => cond (p id) (.box (f id) off) .u
  | .obj id => cond (p id) (.obj (f id)) .u
  | .mrow id i => cond (p id) (.mrow (f id) i) .u
  | .madr id i sz a b => cond (p id) (.madr (f id) i sz a b) .u
  | .agg n get => .agg n (fun j => mapRef p f (get j))
  | .tup n get => .tup n (fun j => mapRef p f (get j))
  | x => x

theorem mapRef_scr (p : Nat → Bool) (f : Nat → Nat) : Scr (mapRef p f) := by
  refine ⟨fun _ _ => rfl, fun _ _ => rfl, fun x h1 h2 h3 => ?_⟩
  cases x <;> first
    | rfl
    | exact absurd rfl (h2 _ _)
    | exact absurd rfl (h3 _ _)
    | exact absurd rfl (h1 (fun _ => .dead) (fun _ _ => .nilIface) _)
    | (exfalso; exact h1 (fun _ => .dead) (fun _ _ => .nilIface) _ ⟨rfl, trivial⟩)
    | (exfalso; exact h1 (fun _ => .dead) (fun _ _ => .slice (some ⟨0, 0, none⟩) 0 0) _ ⟨0, 0, 0, rfl, rfl, trivial⟩)
    | (exfalso; exact h1 (fun _ => .dead) (fun _ _ => .pointer (some ⟨0, 0, none⟩)) _ ⟨0, rfl, rfl⟩)

/-- References lead where they led, under other names. -/
theorem rf_mapRef {p : Nat → Bool} {f : Nat → Nat} {h h' : Heap} {ι ι' : Loc} {σ : AV → AV} (hp : ∀ id, p id = true → ι' (f id) = ι id ∧ (h' (f id) = .dead ∨ h' (f id) = scrM σ (h id)))
    {w : World} {ok : Nat → Prop} {x : AV} {v : Value} (hr : rf h ι x v) : VR w ok (mapRef p f x) (rf h' ι') v := by
  cases x with
  | row id =>
    cases hb : p id with
    | false => simp only [mapRef, hb, cond_false, VR]
    | true => simp only [mapRef, hb, cond_true, VR]; exact (show v = ι id 0 from hr).trans (by rw [(hp id hb).1])
  | obj id =>
    cases hb : p id with
    | false => simp only [mapRef, hb, cond_false, VR]
    | true => simp only [mapRef, hb, cond_true, VR]; exact (show v = ι id 0 from hr).trans (by rw [(hp id hb).1])
  | box id off =>
    cases hb : p id with
    | false => simp only [mapRef, hb, cond_false, VR]
    | true =>
      simp only [mapRef, hb, cond_true, VR]
      obtain ⟨g, h1, h2⟩ := hr
      exact ⟨g, by rw [(hp id hb).1]; exact h1, h2⟩
  | radr id sz i j =>
    cases hb : p id with
    | false => simp only [mapRef, hb, cond_false, VR]
    | true =>
      simp only [mapRef, hb, cond_true, VR]
      obtain ⟨g, n, c, h1, h2, h3⟩ := hr
      refine ⟨g, n, c, by rw [(hp id hb).1]; exact h1, h2, ?_⟩
      rcases (hp id hb).2 with e2 | e2
      · rw [e2]; trivial
      · rw [e2]
        cases hq : h id <;> rw [hq] at h3 <;> first | trivial | exact h3
  | mrow id i =>
    cases hb : p id with
    | false => simp only [mapRef, hb, cond_false, VR]
    | true =>
      simp only [mapRef, hb, cond_true, VR]
      refine ⟨hr.1.trans (by rw [(hp id hb).1]), ?_⟩
      have h3 := hr.2
      rcases (hp id hb).2 with e2 | e2
      · rw [e2]; trivial
      · rw [e2]
        cases hq : h id <;> rw [hq] at h3 <;> first | trivial | exact h3
  | madr id i sz a b =>
    cases hb : p id with
    | false => simp only [mapRef, hb, cond_false, VR]
    | true =>
      simp only [mapRef, hb, cond_true, VR]
      obtain ⟨g, n, c, h1, h2, h3⟩ := hr
      refine ⟨g, n, c, by rw [(hp id hb).1]; exact h1, h2, ?_⟩
      rcases (hp id hb).2 with e2 | e2
      · rw [e2]; trivial
      · rw [e2]
        cases hq : h id <;> rw [hq] at h3 <;> first | trivial | exact h3
  | _ => exact absurd hr (by simp [rf])

theorem scrM_owns {σ : AV → AV} {m : MO} {v : Nat → Value} {g : Nat} : owns (scrM σ m) v g ↔ owns m v g := owns_scrM

theorem MR.monoB {B B' : Nat} (hB : B' ≤ B) {w : World} {ok : Nat → Prop} {r : Ref} {m : MO} {v : Nat → Value} (hm : MR B w ok r m v) : MR B' w ok r m v := by
  have key : ∀ {e sz n : Nat} {v : Value} {xs : List Value}, w.ownsRow B e sz v n xs → w.ownsRow B' e sz v n xs := by
    intro e sz n v xs ho
    refine ⟨ho.1, ?_⟩
    rcases ho.2 with hn | ⟨g, cap, cur, e1, hBg, rest⟩
    · exact .inl hn
    · exact .inr ⟨g, cap, cur, e1, Nat.le_trans hB hBg, rest⟩
  cases m with
  | row e sz n get => obtain ⟨xs, ho, rest⟩ := hm; exact ⟨xs, key ho, rest⟩
  | mat e sz n get0 o ei szi len get hole =>
    obtain ⟨ho, ⟨xs, hx, rest⟩, hrows, hap⟩ := hm
    refine ⟨ho, ⟨xs, key hx, rest⟩, fun i hi hh => ?_, hap⟩
    obtain ⟨h2, ys, hy, r2⟩ := hrows i hi hh
    exact ⟨h2, ys, key hy, r2⟩
  | _ => exact hm

/-! ### contracts -/
def objsH (objs : List MO) : Heap := fun k => objs.getD k .dead

/-- Where what a call answers may lie: in what its arguments lead to, or in new memory that is not among what is handed over. -/
def okF (S : Nat → Prop) (B : Nat) (objs : List MO) (ι : Loc) (w' : World) (b : Nat) : Prop := b < w'.heap.size ∧ (S b ∨ B ≤ b) ∧ ∀ k, objsH objs k ≠ .dead → ¬ owns (objsH objs k) (ι k) b

structure Fresh (S : Nat → Prop) (B : Nat) (objs : List MO) (ι : Loc) (w' : World) : Prop where
  obj : ∀ k, MR B w' (okF S B objs ι w') (rf (objsH objs) ι) (objsH objs k) (ι k)
  one : ∀ k i, (ι k i).oneCell' = true
  base : ∀ k, objsH objs k ≠ .dead → ∀ g, owns (objsH objs k) (ι k) g → B ≤ g ∧ g < w'.heap.size
  apart : ∀ k k', objsH objs k ≠ .dead → objsH objs k' ≠ .dead → k ≠ k' → ∀ g, owns (objsH objs k) (ι k) g → ¬ owns (objsH objs k') (ι k') g

def PostF (S : Nat → Prop) (w : World) (r : AV) (objs : List MO) (e : Ending) (w' : World) : Prop :=
  ∃ v ι, e = .returned v ∧ Below w.heap.size w w' ∧ Fresh S w.heap.size objs ι w' ∧ VR w' (okF S w.heap.size objs ι w') r (rf (objsH objs) ι) v

/-- Called with what reads as 'args', the function returns what reads as 'r', with new memory that is the caller's own; nothing that was there has changed. -/
structure FnF (P : Program) (f : FuncId) (args : List AV) (r : AV) (objs : List MO) : Prop where
  there : ∃ fn, P.funcs[f]? = some fn ∧ fn.name ≠ "runtime.NumGoroutine" ∧ fn.body.isNone = false
  calls : ∀ (S : Nat → Prop) (w : World) (vs : Array Value), (∀ b, S b → b < w.heap.size) → GlobOk S w → args.length = vs.size →
    (∀ (i : Nat) x v, args[i]? = some x → vs[i]? = some v → VR w S x noref v) → Calls P f vs w (PostF S w r objs)

theorem FnF.of {P : Program} {f : FuncId} {args : List AV} {r : AV} {objs : List MO} (fn : Func) (c : Code) (hf : P.funcs[f]? = some fn) (hb : fn.body = some c) (hname : fn.name ≠ "runtime.NumGoroutine") (hn : args.length ≤ fn.ntmps)
    {T : TT} (tok : TOk P T) (N : Nat) (hN : fn.ntmps = N)
    (hrun : ∀ S w0 (gl : GlobOk S w0), Run { P := P, T := T, tok := tok, N := N, w0 := w0, S := S, glob := gl, f := f, R := PostF S w0 r objs } [.code c] (envOf args) noObjs) : FnF P f args r objs := by
  subst hN
  refine ⟨⟨fn, hf, hname, by rw [hb]; rfl⟩, fun S w vs hS gl hlen hargs cs => ?_⟩
  let b : Frame := { (default : Frame) with fn := f, kind := .normal }
  have henter : Frame.enter P f vs .normal = b.at { tmps := vs ++ Array.replicate (fn.ntmps - vs.size) undef, defers := [] } [.code c] := by
    simp [Frame.enter, Frame.at, hf, hb, b]
  rw [henter]
  refine (hrun S w gl).run (fun _ _ => .nilIface) _ w b cs rfl rfl ?_
  constructor
  · exact Below.refl _ _
  · rfl
  · simp; omega
  · intro i
    have := envOf_ok (C := { P := P, T := T, tok := tok, N := fn.ntmps, w0 := w, S := S, glob := gl, f := f, R := PostF S w r objs }) (n := fn.ntmps - vs.size) (r := noref) hlen hargs i
    exact VR.mono (fun b hb => ⟨hS b hb, .inl hb, fun id hl => absurd rfl hl⟩) (fun _ _ => rfl) _ _ _ _ (fun _ _ h => False.elim h) this
  · intro id; trivial
  · intro id i; rfl
  · intro id hl; exact absurd rfl hl
  · intro id id' hl; exact absurd rfl hl

section
variable {C : Ctx} {env : Env} {h : Heap} {ι : Loc} {a : Act} {w : World}

/-- What is handed over: the objects 'ids', told as 'objs'. -/
def handed (ids : List Nat) (objs : List MO) (h : Heap) : Prop := match ids, objs with
  | [], [] => True
  | id :: ids, m :: objs => MOle (h id) m ∧ handed ids objs h
  | _, _ => False

theorem handed_at {h : Heap} : ∀ {ids : List Nat} {objs : List MO}, handed ids objs h → ids.length = objs.length ∧ ∀ k, k < objs.length → MOle (h (ids.getD k 0)) (objsH objs k)
  | [], [], _ => ⟨rfl, fun k hk => absurd hk (Nat.not_lt_zero _)⟩
  | id :: ids, m :: objs, hh => by
    obtain ⟨h1, h2⟩ := hh
    obtain ⟨h3, h4⟩ := handed_at h2
    refine ⟨by simp [h3], fun k hk => ?_⟩
    cases k with
    | zero => exact h1
    | succ k => exact h4 k (by simpa using hk)
  | [], _ :: _, hh => hh.elim
  | _ :: _, [], hh => hh.elim

def noRefM : MO → Bool
  | .box _ l => l.all noRef
  | .frame _ _ => false
  | _ => true

theorem scr_noRef {σ : AV → AV} (S : Scr σ) {x : AV} (hx : noRef x = true) : σ x = x := by
  cases x with
  | row => cases hx
  | radr => cases hx
  | box => cases hx
  | obj => cases hx
  | mrow => cases hx
  | madr => cases hx
  | agg => cases hx
  | tup => cases hx
  | _ => exact S.plain _ (fun _ _ _ hr => by simp [rf] at hr) (fun _ _ e => by cases e) (fun _ _ e => by cases e)
theorem scrM_noRef {σ : AV → AV} (S : Scr σ) {m : MO} (hm : noRefM m = true) : scrM σ m = m := by
  cases m with
  | box t l =>
    have hl : l.map σ = l := by
      have : ∀ x ∈ l, σ x = x := fun x hx => scr_noRef S (List.all_eq_true.mp hm x hx)
      rw [List.map_congr_left this]; simp
    show MO.box t (l.map σ) = _
    rw [hl]
  | frame => cases hm
  | _ => rfl

def memL (ids : List Nat) (id : Nat) : Bool := match ids with
  | [] => false
  | x :: l => cond (Nat.beq id x) true (memL l id)
def idxL (ids : List Nat) (id : Nat) : Nat := match ids with
  | [] => 0
  | x :: l => cond (Nat.beq id x) 0 (idxL l id + 1)
theorem memL_ok : ∀ {ids : List Nat} {id : Nat}, memL ids id = true → idxL ids id < ids.length ∧ ids.getD (idxL ids id) 0 = id
  | [], id, h => by cases h
  | x :: l, id, h => by
    unfold memL at h
    unfold idxL
    cases hb : Nat.beq id x with
    | true => have := Nat.eq_of_beq_eq_true hb; subst this; simp
    | false =>
      rw [hb, cond_false] at h
      obtain ⟨h1, h2⟩ := memL_ok h
      rw [cond_false]
      exact ⟨by simpa using h1, by simpa using h2⟩
theorem idxL_at : ∀ {ids : List Nat} {k : Nat}, ids.Nodup → k < ids.length → memL ids (ids.getD k 0) = true ∧ idxL ids (ids.getD k 0) = k
  | [], k, _, hk => absurd hk (Nat.not_lt_zero _)
  | x :: l, 0, _, _ => by simp [memL, idxL]
  | x :: l, k + 1, hn, hk => by
    obtain ⟨h1, h2⟩ := List.nodup_cons.mp hn
    have hk' : k < l.length := by simpa using hk
    obtain ⟨h3, h4⟩ := idxL_at h2 hk'
    have hne : l.getD k 0 ≠ x := by
      rw [List.getD, List.getElem?_eq_getElem hk']
      exact fun e => h1 (e ▸ List.getElem_mem hk')
    have e1 : (x :: l).getD (k + 1) 0 = l.getD k 0 := by simp
    rw [e1]
    unfold memL idxL
    rw [beq_ne hne, cond_false, cond_false]
    exact ⟨h3, by rw [h4]⟩

theorem Run.leaveF {k : List Item} {fn : Func} {ts : List Nat} {r : AV} {objs : List MO} (ids : List Nat) (hk : k = [] ∨ ∃ k', k = .code .ret :: k') (hR : C.R = PostF C.S C.w0 r objs) (hf : C.P.funcs[C.f]? = some fn) (hres : fn.results = (ts.map ResultVar.tmp).toArray)
    (hids : ids.Nodup) (hobjs : handed ids objs h) (hnr : objs.all noRefM = true)
    (hle : Le (mapRef (memL ids) (idxL ids) (resAV env ts)) r) : Run C k env h := by
  obtain ⟨hlen, hat⟩ := handed_at hobjs
  refine ⟨fun ι a w b cs hb hkd R0 => ?_⟩
  let h1 : Heap := fun id => cond (memL ids id) (objsH objs (idxL ids id)) .dead
  have h1at : ∀ k, k < objs.length → h1 (ids.getD k 0) = objsH objs k := by
    intro k hk
    obtain ⟨e1, e2⟩ := idxL_at hids (show k < ids.length by omega)
    show cond (memL ids (ids.getD k 0)) _ _ = _
    rw [e1, cond_true, e2]
  have R : Rel C env h1 ι a w := R0.weaken (fun _ => Le.refl _) (fun id => by
    show MOle (h id) (cond (memL ids id) _ _)
    cases hm : memL ids id with
    | false => rw [cond_false]; cases h id <;> trivial
    | true =>
      rw [cond_true]
      obtain ⟨e1, e2⟩ := memL_ok hm
      have := hat (idxL ids id) (by omega)
      rwa [e2] at this)
  have hv : VR w (okB C h1 ι w) (resAV env ts) (rf h1 ι) (resV a.tmps ts) := by
    match ts, hle, hres with
    | [t], _, _ => exact R.env t
    | [], _, _ => exact ⟨#[], rfl, rfl, fun j hj => by cases hj⟩
    | t :: u :: ts, _, _ =>
      refine ⟨_, rfl, by simp, fun j hj => ?_⟩
      refine ⟨a.tmps.getD ((t :: u :: ts).getD j 0) undef, ?_, R.env _⟩
      rw [List.getElem?_toArray, List.getElem?_map, List.getElem?_eq_getElem hj, List.getD, List.getElem?_eq_getElem hj]
      rfl
  have S := mapRef_scr (memL ids) (idxL ids)
  let ι' : Loc := fun k => ι (ids.getD k 0)
  have hdead : ∀ k, objsH objs k ≠ .dead → k < objs.length := by
    intro k hl
    rcases Nat.lt_or_ge k objs.length with h' | h'
    · exact h'
    · exfalso; exact hl (by unfold objsH; rw [List.getD, List.getElem?_eq_none h']; rfl)
  have hscr : ∀ k, scrM (mapRef (memL ids) (idxL ids)) (objsH objs k) = objsH objs k := by
    intro k
    refine scrM_noRef S ?_
    unfold objsH
    rw [List.getD]
    cases hq : objs[k]? with
    | none => rfl
    | some m => exact List.all_eq_true.mp hnr m (List.mem_of_getElem? hq)
  have hσ : ∀ (w : World) ok x v, rf h1 ι x v → VR w ok (mapRef (memL ids) (idxL ids) x) (rf (objsH objs) ι') v := fun w ok x v hr =>
    rf_mapRef (σ := mapRef (memL ids) (idxL ids)) (fun id hm => by
      obtain ⟨e1, e2⟩ := memL_ok hm
      refine ⟨by show ι (ids.getD (idxL ids id) 0) = _; rw [e2], .inr ?_⟩
      have := h1at (idxL ids id) (by omega)
      rw [e2] at this
      rw [this, hscr]) hr
  have hok : ∀ b, okB C h1 ι w b → okF C.S C.B objs ι' w b := fun b hb => ⟨hb.1, hb.2.1, fun k hl => by
    have := hb.2.2 (ids.getD k 0)
    rw [h1at k (hdead k hl)] at this
    exact this hl⟩
  have hlive : ∀ k, objsH objs k ≠ .dead → h1 (ids.getD k 0) ≠ .dead := fun k hl => by rw [h1at k (hdead k hl)]; exact hl
  refine ⟨.returned _, w, { b.at a k with mode := .returning }, ?_, ?_, hb, rfl, R.defers, hkd, fn, by show C.P.funcs[b.fn]? = _; rw [hb]; exact hf, results_run hres a.tmps w⟩
  · rw [hR]
    refine ⟨_, ι', rfl, R.below, ⟨fun k => ?_, fun k i => R.one _ i, fun k hl g hg => ?_, fun k k' hl hl' hne g hg => ?_⟩, ?_⟩
    · by_cases hl : objsH objs k = .dead
      · rw [hl]; trivial
      · have hm := R.obj (ids.getD k 0)
        rw [h1at k (hdead k hl)] at hm
        have := MR.scr S (hσ _ _) hok (fun _ _ => rfl) (fun _ _ => rfl) hm
        rwa [hscr] at this
    · have := R.base (ids.getD k 0) (hlive k hl) g (by rw [h1at k (hdead k hl)]; exact hg)
      exact this
    · have hkl := hdead k hl
      have hkl' := hdead k' hl'
      have hneq : ids.getD k 0 ≠ ids.getD k' 0 := fun e => hne (by
        have e1 := (idxL_at hids (show k < ids.length by omega)).2
        have e2 := (idxL_at hids (show k' < ids.length by omega)).2
        rw [e] at e1; omega)
      have := R.apart (ids.getD k 0) (ids.getD k' 0) (hlive k hl) (hlive k' hl') hneq g (by rw [h1at k hkl]; exact hg)
      rwa [h1at k' hkl'] at this
    · exact hle _ _ _ _ (VR.scr S (hσ _ _) hok (fun _ _ => rfl) _ _ hv)
  · rcases hk with rfl | ⟨k', rfl⟩
    · exact Steps.one step_end
    · exact Steps.one step_ret

/-! ### calling them -/
def inR (q n id : Nat) : Bool := Nat.ble q id && Nat.blt id (q + n)
def outR (q n id : Nat) : Bool := !inR q n id
def ltN (n id : Nat) : Bool := Nat.blt id n
/-- The caller's objects with what has been handed over, under the ids from 'q' on. -/
def gotH (q : Nat) (objs : List MO) (h : Heap) : Heap := fun id => cond (inR q objs.length id) (scrM (mapRef (ltN objs.length) (fun k => q + k)) (objsH objs (id - q))) (scrM (mapRef (outR q objs.length) (fun k => k)) (h id))
def gotE (q n : Nat) (env : Env) : Env := fun i => mapRef (outR q n) (fun k => k) (env i)

theorem Rel.got (R : Rel C env h ι a w) (q : Nat) {objs : List MO} {w' : World} {ιF : Loc} {r : AV} {v : Value} (hbel : Below w.heap.size w w') (F : Fresh (okB C h ι w) w.heap.size objs ιF w')
    (hv : VR w' (okF (okB C h ι w) w.heap.size objs ιF w') r (rf (objsH objs) ιF) v) :
    ∃ ι', Rel C (gotE q objs.length env) (gotH q objs h) ι' a w' ∧ VR w' (okB C (gotH q objs h) ι' w') (mapRef (ltN objs.length) (fun k => q + k) r) (rf (gotH q objs h) ι') v := by
  let n := objs.length
  let ι' : Loc := fun id => cond (inR q n id) (ιF (id - q)) (ι id)
  have hB : C.B ≤ w.heap.size := R.below.size
  have S1 := mapRef_scr (outR q n) (fun k => k)
  have S2 := mapRef_scr (ltN n) (fun k => q + k)
  have hsz := hbel.size
  have yes : ∀ id, inR q n id = true → gotH q objs h id = scrM (mapRef (ltN n) (fun k => q + k)) (objsH objs (id - q)) ∧ ι' id = ιF (id - q) ∧ q ≤ id ∧ id < q + n := by
    intro id hb
    have hb2 := hb
    unfold inR at hb2
    rw [Bool.and_eq_true, Nat.blt_eq] at hb2
    refine ⟨?_, ?_, Nat.ble_eq ▸ hb2.1, hb2.2⟩
    · show cond (inR q n id) _ _ = _; rw [hb]; rfl
    · show cond (inR q n id) _ _ = _; rw [hb]; rfl
  have no : ∀ id, inR q n id = false → gotH q objs h id = scrM (mapRef (outR q n) (fun k => k)) (h id) ∧ ι' id = ι id := by
    intro id hb
    constructor
    · show cond (inR q n id) _ _ = _; rw [hb]; rfl
    · show cond (inR q n id) _ _ = _; rw [hb]; rfl
  have dead : ∀ {σ : AV → AV} {m : MO}, scrM σ m ≠ .dead → m ≠ .dead := fun hl e => hl (scrM_dead.mpr e)
  have old : ∀ id, inR q n id = false → gotH q objs h id ≠ .dead → h id ≠ .dead := fun id hb hl => by rw [(no id hb).1] at hl; exact dead hl
  have new : ∀ id, inR q n id = true → gotH q objs h id ≠ .dead → objsH objs (id - q) ≠ .dead := fun id hb hl => by rw [(yes id hb).1] at hl; exact dead hl
  have oown : ∀ id, inR q n id = false → ∀ g, owns (gotH q objs h id) (ι' id) g ↔ owns (h id) (ι id) g := fun id hb g => by rw [(no id hb).1, (no id hb).2, owns_scrM]
  have nown : ∀ id, inR q n id = true → ∀ g, owns (gotH q objs h id) (ι' id) g ↔ owns (objsH objs (id - q)) (ιF (id - q)) g := fun id hb g => by rw [(yes id hb).1, (yes id hb).2.1, owns_scrM]
  have hok1 : ∀ b, okB C h ι w b → okB C (gotH q objs h) ι' w' b := fun b hb => ⟨by have := hb.1; omega, hb.2.1, fun id hl hg => by
    cases hr : inR q n id with
    | true => have := (F.base _ (new id hr hl) b ((nown id hr b).mp hg)).1; have := hb.1; omega
    | false => exact hb.2.2 id (old id hr hl) ((oown id hr b).mp hg)⟩
  have hok2 : ∀ b, okF (okB C h ι w) w.heap.size objs ιF w' b → okB C (gotH q objs h) ι' w' b := fun b hb => ⟨hb.1, by
      rcases hb.2.1 with h1 | h1
      · exact h1.2.1
      · exact .inr (by omega), fun id hl hg => by
    cases hr : inR q n id with
    | true => exact hb.2.2 _ (new id hr hl) ((nown id hr b).mp hg)
    | false =>
      have hg' := (oown id hr b).mp hg
      rcases hb.2.1 with h1 | h1
      · exact h1.2.2 id (old id hr hl) hg'
      · have := (R.base id (old id hr hl) b hg').2; omega⟩
  have hw : ∀ b, okB C h ι w b → w'.heap[b]? = w.heap[b]? := fun b hb => hbel.block b hb.1
  have hσ1 : ∀ ok x v, rf h ι x v → VR w' ok (mapRef (outR q n) (fun k => k) x) (rf (gotH q objs h) ι') v := fun ok x v hr =>
    rf_mapRef (σ := mapRef (outR q n) (fun k => k)) (fun id hp => by
      have hr : inR q n id = false := by unfold outR at hp; simpa using hp
      exact ⟨(no id hr).2, .inr (no id hr).1⟩) hr
  have hσ2 : ∀ ok x v, rf (objsH objs) ιF x v → VR w' ok (mapRef (ltN n) (fun k => q + k) x) (rf (gotH q objs h) ι') v := fun ok x v hr =>
    rf_mapRef (σ := mapRef (ltN n) (fun k => q + k)) (fun id hp => by
      have hlt : id < n := by unfold ltN at hp; rwa [Nat.blt_eq] at hp
      have hr : inR q n (q + id) = true := by unfold inR; rw [Bool.and_eq_true, Nat.blt_eq]; exact ⟨Nat.ble_eq.symm ▸ Nat.le_add_right q id, by omega⟩
      have e : q + id - q = id := by omega
      have := yes (q + id) hr
      rw [e] at this
      exact ⟨this.2.1, .inr this.1⟩) hr
  refine ⟨ι', ⟨R.below.trans (hbel.mono hB), R.defers, R.size, fun i => VR.scr S1 (hσ1 _) hok1 hw _ _ (R.env i), fun id => ?_, fun id i => ?_, fun id hl g hg => ?_, fun id id' hl hl' hne g hg hg' => ?_⟩, VR.scr S2 (hσ2 _) hok2 (fun _ _ => rfl) _ _ hv⟩
  · cases hr : inR q n id with
    | true =>
      rw [(yes id hr).1, (yes id hr).2.1]
      exact MR.monoB hB (MR.scr S2 (hσ2 _) hok2 (fun _ _ => rfl) (fun _ _ => rfl) (F.obj _))
    | false =>
      by_cases hl : h id = .dead
      · rw [(no id hr).1, hl]; trivial
      · rw [(no id hr).1, (no id hr).2]
        exact MR.scr S1 (hσ1 _) hok1 hw (fun g hg => hbel.block g (R.base id hl g hg).2) (R.obj id)
  · cases hr : inR q n id with
    | true => rw [(yes id hr).2.1]; exact F.one _ i
    | false => rw [(no id hr).2]; exact R.one id i
  · cases hr : inR q n id with
    | true => have := F.base _ (new id hr hl) g ((nown id hr g).mp hg); exact ⟨by omega, this.2⟩
    | false => have := R.base id (old id hr hl) g ((oown id hr g).mp hg); exact ⟨this.1, by omega⟩
  · cases hr : inR q n id with
    | true =>
      have b1 := F.base _ (new id hr hl) g ((nown id hr g).mp hg)
      cases hr' : inR q n id' with
      | true =>
        have h1 := yes id hr
        have h2 := yes id' hr'
        exact F.apart _ _ (new id hr hl) (new id' hr' hl') (by omega) g ((nown id hr g).mp hg) ((nown id' hr' g).mp hg')
      | false => have := (R.base id' (old id' hr' hl') g ((oown id' hr' g).mp hg')).2; omega
    | false =>
      have b1 := R.base id (old id hr hl) g ((oown id hr g).mp hg)
      cases hr' : inR q n id' with
      | true => have := (F.base _ (new id' hr' hl') g ((nown id' hr' g).mp hg')).1; omega
      | false => exact R.apart id id' (old id hr hl) (old id' hr' hl') hne g ((oown id hr g).mp hg) ((oown id' hr' g).mp hg')

theorem postF_returned {S : Nat → Prop} {w : World} {r : AV} {objs : List MO} : ∀ e w', PostF S w r objs e w' → ∃ v, e = .returned v := fun e w' ⟨v, _, h, _⟩ => ⟨v, h⟩

/-- A call that answers with new memory; it is handed nothing of the caller's own. -/
theorem Run.callF {ops : Array Oper} {i : Nat} {rest : List Nat} {k : List Item} {o : Oper} {f : FuncId} {xs : List Operand} {args : List AV} {r : AV} {objs : List MO} (q : Nat) (hfn : FnF C.P f args r objs) (ho : ops.toList[i]? = some o) (hc : calls? o = some (f, xs))
    (hargs : ArgsLe (xs.map (ev env)) args) (himm : args.all imm = true) (hd : okD C.N o.dst = true) (hr : ready env ops o = true)
    (next : aexec C 400 (.inRegion ops rest :: k) (putE (gotE q objs.length env) o.dst (mapRef (ltN objs.length) (fun k => q + k) r)) (gotH q objs h)) : Run C (.inRegion ops (i :: rest) :: k) env h :=
  Run.of_step fun ι a w b cs _ R => by
    have ho' : ops[i]? = some o := by simpa using ho
    have hcalls := hfn.calls (okB C h ι w) w (xs.map a.eval).toArray (fun b hb => hb.1) R.globOk (by rw [hargs.at.1]; simp) (fun i x v hx hv => by
      have hix : imm x = true := List.all_eq_true.mp himm x (List.mem_of_getElem? hx)
      obtain ⟨x0, hx0, hle0⟩ := hargs.at.2 i x hx
      rw [List.getElem?_map] at hx0
      rw [List.getElem?_toArray, List.getElem?_map] at hv
      cases hq : xs[i]? with
      | none => rw [hq] at hx0; cases hx0
      | some y =>
        rw [hq] at hx0 hv
        cases hx0; cases hv
        exact imm_ok _ _ _ _ hix (hle0 _ _ _ _ (ev_ok R y)))
    obtain ⟨v, w', ⟨v', ιF, e, hbel, F, hv⟩, hst⟩ := step_call (b := b) (k := k) (cs := cs) (rest := rest) ho' (ready_ok hr R) (exec_call hc hfn.there a w) hcalls postF_returned
    cases e
    obtain ⟨ι', R', hv'⟩ := R.got q hbel F hv
    exact ⟨_, _, ι', _, w', _, hst, R'.put hv' hd, aexec_ok 400 next⟩

/-! ### answers that hold no memory but their own -/
def FlatM : MO → Prop
  | .row _ sz n get => ∀ i j, i < n → j < sz → flat (get i j) = true
  | .mat _ sz n get0 o _ szi len get _ => (∀ i j, i < n → j < sz → j ≠ o → flat (get0 i j) = true) ∧ ∀ i a b, i < n → a < len i → b < szi → flat (get i a b) = true
  | .box _ l => ∀ x ∈ l, flat x = true
  | .frame _ _ => False
  | _ => True

theorem MR.flat {B : Nat} {w : World} {ok ok' : Nat → Prop} {r : Ref} {m : MO} {v : Nat → Value} (hf : FlatM m) (hm : MR B w ok r m v) : MR B w ok' r m v := by
  cases m with
  | box t l =>
    obtain ⟨g, cs, e, hg, hs, hc⟩ := hm
    refine ⟨g, cs, e, hg, hs, fun j x hx => ?_⟩
    obtain ⟨cv, c1, c2, c3⟩ := hc j x hx
    exact ⟨cv, c1, c2, flat_ok _ _ _ (hf x (List.mem_of_getElem? hx)) c3⟩
  | row e sz n get =>
    obtain ⟨xs, ho, h1, hc⟩ := hm
    refine ⟨xs, ho, h1, fun i j hi hj => ?_⟩
    obtain ⟨cv, c1, c3⟩ := hc i j hi hj
    exact ⟨cv, c1, flat_ok _ _ _ (hf i j hi hj) c3⟩
  | mat e sz n get0 o ei szi len get hole =>
    obtain ⟨ho, ⟨xs, hx, h1, hc0, hin⟩, hrows, hap⟩ := hm
    refine ⟨ho, ⟨xs, hx, h1, fun i j hi hj hne => ?_, hin⟩, fun i hi hh => ?_, hap⟩
    · obtain ⟨cv, c1, c3⟩ := hc0 i j hi hj hne
      exact ⟨cv, c1, flat_ok _ _ _ (hf.1 i j hi hj hne) c3⟩
    · obtain ⟨h2, ys, hy, hy1, hyc⟩ := hrows i hi hh
      refine ⟨h2, ys, hy, hy1, fun a b ha hb' => ?_⟩
      obtain ⟨u, u1, u3⟩ := hyc a b ha hb'
      exact ⟨u, u1, flat_ok _ _ _ (hf.2 i a b hi ha hb') u3⟩
  | frame => exact hf.elim
  | _ => exact hm

theorem PostF.flat {S S' : Nat → Prop} {w w' : World} {r : AV} {objs : List MO} {e : Ending} (hr : V.flat r = true) (ho : ∀ m ∈ objs, FlatM m) (hp : PostF S w r objs e w') : PostF S' w r objs e w' := by
  obtain ⟨v, ι, he, hb, F, hv⟩ := hp
  refine ⟨v, ι, he, hb, ⟨fun k => MR.flat ?_ (F.obj k), F.one, F.base, F.apart⟩, flat_ok _ _ _ hr hv⟩
  unfold objsH
  rw [List.getD]
  cases hq : objs[k]? with
  | none => trivial
  | some m => exact ho m (List.mem_of_getElem? hq)

/-- Such a call may be handed what is the caller's own. -/
theorem Run.callFA {ops : Array Oper} {i : Nat} {rest : List Nat} {k : List Item} {o : Oper} {f : FuncId} {xs : List Operand} {args : List AV} {r : AV} {objs : List MO} (q : Nat) (hfn : FnF C.P f args r objs) (ho : ops.toList[i]? = some o) (hc : calls? o = some (f, xs))
    (hargs : ArgsLe (xs.map (fun x => bor h (ev env x))) args) (hd : okD C.N o.dst = true) (hr : ready env ops o = true) (hflat : flat r = true) (hobjs : ∀ m ∈ objs, FlatM m)
    (next : aexec C 400 (.inRegion ops rest :: k) (putE (gotE q objs.length env) o.dst (mapRef (ltN objs.length) (fun k => q + k) r)) (gotH q objs h)) : Run C (.inRegion ops (i :: rest) :: k) env h :=
  Run.of_step fun ι a w b cs _ R => by
    have ho' : ops[i]? = some o := by simpa using ho
    have hcalls := hfn.calls (fun b => b < w.heap.size) w (xs.map a.eval).toArray (fun b hb => hb) R.globAll (by rw [hargs.at.1]; simp) (fun i x v hx hv => by
      obtain ⟨x0, hx0, hle0⟩ := hargs.at.2 i x hx
      rw [List.getElem?_map] at hx0
      rw [List.getElem?_toArray, List.getElem?_map] at hv
      cases hq : xs[i]? with
      | none => rw [hq] at hx0; cases hx0
      | some y =>
        rw [hq] at hx0 hv
        cases hx0; cases hv
        exact hle0 _ _ _ _ (fz_ok R (fun b hb => hb.1) (fun id hl g hg => (R.base id hl g hg).2) _ _ (ev_ok R y)))
    obtain ⟨v, w', hp, hst⟩ := step_call (b := b) (k := k) (cs := cs) (rest := rest) ho' (ready_ok hr R) (exec_call hc hfn.there a w) hcalls postF_returned
    obtain ⟨v', ιF, e, hbel, F, hv⟩ := PostF.flat (S' := okB C h ι w) hflat hobjs hp
    cases e
    obtain ⟨ι', R', hv'⟩ := R.got q hbel F hv
    exact ⟨_, _, ι', _, w', _, hst, R'.put hv' hd, aexec_ok 400 next⟩

/-! ### what is given up may be read for ever -/
def repl (z : Nat) (y : AV) (g : Nat → AV) : AV → AV
  | .row id => cond (Nat.beq id z) y (.row id)
  | .radr id sz i j => cond (Nat.beq id z) .u (.radr id sz i j)
  | .box id off => cond (Nat.beq id z) .u (.box id off)
  | .obj id => cond (Nat.beq id z) .u (.obj id)
  | .mrow id i => cond (Nat.beq id z) (g i) (.mrow id i)
  | .madr id i sz a b => cond (Nat.beq id z) .u (.madr id i sz a b)
  | .agg n get => .agg n (fun j => repl z y g (get j))
  | .tup n get => .tup n (fun j => repl z y g (get j))
  | x => x
theorem repl_scr (z : Nat) (y : AV) (g : Nat → AV) : Scr (repl z y g) := by
  refine ⟨fun _ _ => rfl, fun _ _ => rfl, fun x h1 h2 h3 => ?_⟩
  cases x <;> first
    | rfl
    | exact absurd rfl (h2 _ _)
    | exact absurd rfl (h3 _ _)
    | exact absurd rfl (h1 (fun _ => .dead) (fun _ _ => .nilIface) _)
    | (exfalso; exact h1 (fun _ => .dead) (fun _ _ => .nilIface) _ ⟨rfl, trivial⟩)
    | (exfalso; exact h1 (fun _ => .dead) (fun _ _ => .slice (some ⟨0, 0, none⟩) 0 0) _ ⟨0, 0, 0, rfl, rfl, trivial⟩)
    | (exfalso; exact h1 (fun _ => .dead) (fun _ _ => .pointer (some ⟨0, 0, none⟩)) _ ⟨0, rfl, rfl⟩)

theorem Rel.freeze (R : Rel C env h ι a w) (z : Nat) (hl : h z ≠ .dead) {y : AV} {g : Nat → AV}
    (hy : ∀ ok, (∀ b, okB C h ι w b → ok b) → (∀ b, owns (h z) (ι z) b → ok b) → ∀ r, VR w ok y r (ι z 0))
    (hg : ∀ ok, (∀ b, okB C h ι w b → ok b) → (∀ b, owns (h z) (ι z) b → ok b) → ∀ r i, (match h z with | .mat _ _ n _ _ _ _ _ _ hole => i < n ∧ hole ≠ some i | _ => True) → VR w ok (g i) r (ι z (i + 1))) :
    Rel C (fun i => repl z y g (env i)) (upd (upd (fun id => scrM (repl z y g) (h id)) z .dead) z .dead) (upd ι z (ι z)) a w := by
  have S := repl_scr z y g
  have hι : ∀ id, upd ι z (ι z) id = ι id := fun id => by
    by_cases e : id = z
    · subst e; rw [upd_same]
    · rw [upd_other _ _ e]
  have hoz : ∀ b, owns .dead (ι z) b → owns (h z) (ι z) b := fun b hb => owns_zero hb
  refine (R.remake S z z .dead (ι z) w (Below.refl _ _) (fun _ _ => rfl) (fun _ _ _ _ _ _ => rfl) (R.one z) (fun g' hg' => R.base z hl g' (hoz g' hg')) (fun g' hg' hok => hok.2.2 z hl (hoz g' hg'))
    (fun id hd _ hl2 g' hg' hg2 => R.apart id z hl2 hl hd g' hg' (hoz g' hg2)) (fun hok x v hr => ?_) (fun hok => trivial)).1
  have hokz : ∀ b, owns (h z) (ι z) b → okB C (upd (upd (fun id => scrM (repl z y g) (h id)) z .dead) z .dead) (upd ι z (ι z)) w b := by
    intro b hb
    have := R.base z hl b hb
    refine ⟨this.2, .inr this.1, fun id hl2 hg' => ?_⟩
    by_cases e : id = z
    · subst e; rw [upd_same] at hl2; exact hl2 rfl
    · rw [upd_other _ _ e, upd_other _ _ e, upd_other _ _ e, owns_scrM] at hg'
      rw [upd_other _ _ e, upd_other _ _ e] at hl2
      exact R.apart id z (fun e2 => hl2 (scrM_dead.mpr e2)) hl e b hg' hb
  have hmem : ∀ id, id ≠ z → upd (upd (fun id => scrM (repl z y g) (h id)) z .dead) z .dead id = scrM (repl z y g) (h id) := fun id e => by rw [upd_other _ _ e, upd_other _ _ e]
  cases x with
  | row id =>
    by_cases e : id = z
    · subst e
      simp only [repl, Nat.beq_refl, cond_true]
      rw [show v = ι id 0 from hr]
      exact hy _ hok hokz _
    · simp only [repl, beq_ne e, cond_false, VR]
      exact (show v = ι id 0 from hr).trans (by rw [hι])
  | obj id =>
    by_cases e : id = z
    · subst e; simp only [repl, Nat.beq_refl, cond_true, VR]
    · simp only [repl, beq_ne e, cond_false, VR]
      exact (show v = ι id 0 from hr).trans (by rw [hι])
  | box id off =>
    by_cases e : id = z
    · subst e; simp only [repl, Nat.beq_refl, cond_true, VR]
    · simp only [repl, beq_ne e, cond_false, VR]
      obtain ⟨g', h1, h2⟩ := hr
      exact ⟨g', by rw [hι]; exact h1, h2⟩
  | radr id sz i j =>
    by_cases e : id = z
    · subst e; simp only [repl, Nat.beq_refl, cond_true, VR]
    · simp only [repl, beq_ne e, cond_false, VR]
      obtain ⟨g', n, c, h1, h2, h3⟩ := hr
      refine ⟨g', n, c, by rw [hι]; exact h1, h2, ?_⟩
      rw [hmem id e]
      cases hq : h id <;> rw [hq] at h3 <;> first | trivial | exact h3
  | mrow id i =>
    by_cases e : id = z
    · subst e
      simp only [repl, Nat.beq_refl, cond_true]
      rw [hr.1]
      exact hg _ hok hokz _ i hr.2
    · simp only [repl, beq_ne e, cond_false, VR]
      refine ⟨hr.1.trans (by rw [hι]), ?_⟩
      have h3 := hr.2
      rw [hmem id e]
      cases hq : h id <;> rw [hq] at h3 <;> first | trivial | exact h3
  | madr id i sz a b =>
    by_cases e : id = z
    · subst e; simp only [repl, Nat.beq_refl, cond_true, VR]
    · simp only [repl, beq_ne e, cond_false, VR]
      obtain ⟨g', n, c, h1, h2, h3⟩ := hr
      refine ⟨g', n, c, by rw [hι]; exact h1, h2, ?_⟩
      rw [hmem id e]
      cases hq : h id <;> rw [hq] at h3 <;> first | trivial | exact h3
  | _ => exact absurd hr (by simp [rf])

/-- An own row is given up: from now on it is a slice like any other. -/
theorem Run.freeze {k : List Item} (z : Nat) {e sz n : Nat} {get : Nat → Nat → AV} (hz : h z = .row e sz n get)
    (hr : Run C k (fun i => repl z (.sl n sz get) (fun _ => .u) (env i)) (upd (upd (fun id => scrM (repl z (.sl n sz get) (fun _ => .u)) (h id)) z .dead) z .dead)) : Run C k env h :=
  ⟨fun ι a w b cs hb hkd R => hr.run _ a w b cs hb hkd (R.freeze z (by rw [hz]; simp) (fun ok h1 h2 r => row_sl R hz h1 h2 r) (fun _ _ _ _ _ _ => trivial))⟩
theorem Run.freezeM {k : List Item} (z : Nat) {e sz n o ei szi : Nat} {get0 : Nat → Nat → AV} {len : Nat → Nat} {get : Nat → Nat → Nat → AV} (hz : h z = .mat e sz n get0 o ei szi len get none)
    (hr : Run C k (fun i => repl z (.sl n sz (fun i j => cond (Nat.beq j o) (.sl (len i) szi (get i)) (get0 i j))) (fun i => .sl (len i) szi (get i)) (env i))
      (upd (upd (fun id => scrM (repl z (.sl n sz (fun i j => cond (Nat.beq j o) (.sl (len i) szi (get i)) (get0 i j))) (fun i => .sl (len i) szi (get i))) (h id)) z .dead) z .dead)) : Run C k env h :=
  ⟨fun ι a w b cs hb hkd R => hr.run _ a w b cs hb hkd (R.freeze z (by rw [hz]; simp) (fun ok h1 h2 r => mat_sl R hz h1 h2 r) (fun ok h1 h2 r i hi => by rw [hz] at hi; exact mrow_sl R hz h1 h2 hi.1 hi.2 r))⟩
end

end Go.Proofs.YtfodjmemdkibpaaDoor.V
