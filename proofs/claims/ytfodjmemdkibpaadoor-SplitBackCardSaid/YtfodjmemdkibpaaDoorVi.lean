/-
The walk: a frame's list of things to do, gone through by a program that says what is left to show.
-/
import Derived.Test.YtfodjmemdkibpaaDoorV1
import Derived.Laws.Cover3
namespace Go.Proofs.YtfodjmemdkibpaaDoor.V
open Go Go.RowKit
set_option linter.unusedSimpArgs false
set_option linter.unusedVariables false

/-- From every world that fits the abstract state, the frame comes to an end as it should. -/
structure Run (C : Ctx) (k : List Item) (env : Env) (h : Heap) : Prop where
  run : ∀ ι a w (b : Frame) cs, b.fn = C.f → b.kind = .normal → Rel C env h ι a w →
    ∃ e w' fr, C.R e w' ∧ Comes C.P (lone (b.at a k) cs w) (lone fr cs w') e ∧ fr.fn = C.f ∧ fr.leaving C.P w' e

def aun (op : UnOp) (x : AV) (K : AV → Prop) (stop : Prop) : Prop :=
  match op, x with
  | .not, .tt => K .ff
  | .not, .ff => K .tt
  | .not, .bool b => K (.bool (!b))
  | .neg, .int k n => K (.int k (k.wrap (0 - n)))
  | .xor, .int k n => K (.int k (k.wrap ((BitVec.ofInt k.bits (if k.signed then -1 else k.max)) ^^^ (BitVec.ofInt k.bits n)).toNat))
  | _, _ => stop

/-- How long the slice is that is held against nil. -/
def nilLen (h : Heap) : AV → Option Nat
  | .sl n _ _ => some n
  | .row id => match h id with
    | .row _ _ n _ => some n
    | .mat _ _ n _ _ _ _ _ _ _ => some n
    | _ => none
  | .mrow id i => match h id with
    | .mat _ _ _ _ _ _ _ len _ _ => some (len i)
    | _ => none
  | _ => none
def nilOf (T : TT) (h : Heap) (t : TypeId) (x y : AV) : Option Nat := match y with
  | .nils => match T.underlying t with
    | some (.slice _) => nilLen h x
    | _ => none
  | _ => none
def anil (op : BinOp) (n : Nat) (K : AV → Prop) (stop : Prop) : Prop := match op with
  | .eql => Any fun b => (b = true → n = 0) → K (.bool b)
  | .neq => Any fun b => (b = false → n = 0) → K (.bool b)
  | _ => stop

def pairs (env : Env) (ps : Array (Nat × Operand)) : List (Nat × AV) := ps.toList.map fun p => (p.1, ev env p.2)

/-- The same, each value looked at. -/
def fpairs (env : Env) : List (Nat × Operand) → (List (Nat × AV) → Prop) → Prop
  | [], K => K []
  | p :: r, K => fv (ev env p.2) fun x => fpairs env r fun l => K ((p.1, x) :: l)
theorem fpairs_eq (env : Env) : ∀ (ps : List (Nat × Operand)) (K : List (Nat × AV) → Prop), fpairs env ps K = K (ps.map fun p => (p.1, ev env p.2))
  | [], K => rfl
  | p :: r, K => by unfold fpairs; rw [fv_eq, fpairs_eq env r]; rfl

def aop (C : Ctx) (o : Oper) (env : Env) (h : Heap) (K : Env → Heap → AV → Prop) (stop : Prop) : Prop :=
  match o.op with
  | .move x => K env h (ev env x)
  | .assign x => K env h (ev env x)
  | .pick c x y => match ev env c with
    | .tt => K env h (ev env x)
    | .ff => K env h (ev env y)
    | .bool b => AskB b (K env h (ev env x)) (K env h (ev env y))
    | _ => stop
  | .box t x => match o.dst with | some d => fv (ev env x) fun x => abox t d x env h K stop | none => stop
  | .alloc t => match o.dst with | some d => aalloc C.T t d env h K stop | none => stop
  | .build t ps => fpairs env ps.toList fun l => abuild C.T t l (K env h) stop
  | .buildSlice t n ps => match o.dst with | some d => fpairs env ps.toList fun l => abuildSlice C.T t d n l env h K stop | none => stop
  | .load t x => aload C.T h t (ev env x) (K env h) stop
  | .store t x y => fv (ev env y) fun y => astoreA C.T t (ev env x) y env h (fun env' h' => K env' h' .u) stop
  | .nilCheck x => match ev env x with
    | .iadr m g => K env h (.iadr m g)
    | .radr a b c d => K env h (.radr a b c d)
    | .box a b => K env h (.box a b)
    | _ => stop
  | .binOp op t x y _ => match nilOf C.T h t (ev env x) (ev env y) with
    | some n => anil op n (K env h) stop
    | none => match aeqT C.T t op (ev env x) (ev env y) with
      | some z => K env h z
      | none => match avB (ev env x) with
        | some _ => cond (boolTy C.T t) (abin op (ev env x) (ev env y) (K env h) stop) stop
        | none => abin op (ev env x) (ev env y) (K env h) stop
  | .unOp op _ x => aun op (ev env x) (K env h) stop
  | .convert s d x => aconvert C.T s d (ev env x) (K env h) stop
  | .makeSlice t l c => match o.dst with | some d => amake C.T t d (ev env l) (ev env c) env h K stop | none => stop
  | .slice t x lo hi none => aslice C.T t (ev env x) (lo.map (ev env)) (hi.map (ev env)) (K env h) stop
  | .fieldAddr s x f => afieldAddr C.T s (ev env x) f (K env h) stop
  | .field s x f => afield C.T s (ev env x) f (K env h) stop
  | .indexAddr t x i => aindexAddr C.T h t (ev env x) (ev env i) (K env h) stop
  | .index t x i => aindex C.T t (ev env x) (ev env i) (K env h) stop
  | .extract x i => aextract (ev env x) i (K env h) stop
  | .makeMap t none => match o.dst with | some d => amakeMap C.T t d env h K stop | none => stop
  | .range t x => match o.dst with | some d => arange C.T t d (ev env x) env h K stop | none => stop
  | .next x b => anext (ev env x) b h (K env) stop
  | .lookup t x k c => alookup C.T h t (ev env x) (ev env k) c (K env h) stop
  | .mapUpdate t x k v => aupdate C.T h t (ev env x) (ev env k) (ev env v) (fun h' => K env h' .u) stop
  | .insert t x k v => aupdate C.T h t (ev env x) (ev env k) (ev env v) (fun h' => K env h' .u) stop
  | .call c => match c.callee, c.args.toList, c.argTypes.toList with
    | .builtin .len, [x], [t] => alen C.T h t (ev env x) (K env h) stop
    | .builtin .unsafeSliceData, [x], [t] => asliceData C.T h o.type (ev env x) (K env h) stop
    | .builtin .append, [s, x], [t, t2] => match o.dst with | some d => cond (Nat.beq t t2) (aappend C.T t t2 d (ev env s) (ev env x) env h K stop) (aappS C.T t t2 d (ev env s) (ev env x) env h K stop) | none => stop
    | _, _, _ => stop
  | _ => stop

/-- What one operation does, said of the model's own run. -/
def OpOut (C : Ctx) (a : Act) (w : World) (o : Oper) (K : Env → Heap → AV → Prop) : Prop :=
  ∃ nx v w' ι' env' h' x, (execOp a.eval o).run C.P w = .ok nx w' ∧ (nx = .value v ∨ (nx = .skip ∧ v = undef)) ∧ Rel C env' h' ι' a w' ∧ VR w' (okB C h' ι' w') x (rf h' ι') v ∧ K env' h' x

section
variable {C : Ctx} {env : Env} {h : Heap} {ι : Loc} {a : Act} {w : World}

theorem OpOut.of {o : Oper} {s : Sem Value} {K : Env → Heap → AV → Prop} (he : execOp a.eval o = (do pure (.value (← s)) : Sem Next)) (hs : Out C a w s K) : OpOut C a w o K := by
  obtain ⟨v, w', ι', env', h', x, hr, R', hv, hk⟩ := hs
  exact ⟨.value v, v, w', ι', env', h', x, by rw [he]; simp [hr], .inl rfl, R', hv, hk⟩

theorem OpOut.same (R : Rel C env h ι a w) {o : Oper} {K : Env → Heap → AV → Prop} {x : AV} {v : Value} (hk : K env h x) (he : (execOp a.eval o).run C.P w = .ok (.value v) w) (hv : VR w (okB C h ι w) x (rf h ι) v) :
    OpOut C a w o K := ⟨.value v, v, w, ι, env, h, x, he, .inl rfl, R, hv, hk⟩

theorem pairs_ok (R : Rel C env h ι a w) (ps : Array (Nat × Operand)) : (pairs env ps).length = (ps.map fun (i, x) => (i, a.eval x)).size ∧
    ∀ (k : Nat) p q, (pairs env ps)[k]? = some p → (ps.map fun (i, x) => (i, a.eval x))[k]? = some q → p.1 = q.1 ∧ VR w (okB C h ι w) p.2 (rf h ι) q.2 := by
  refine ⟨by simp [pairs], fun k p q hp hq => ?_⟩
  simp only [pairs, List.getElem?_map, Array.getElem?_toList] at hp
  rw [Array.getElem?_map] at hq
  cases hk : ps[k]? with
  | none => rw [hk] at hp; cases hp
  | some r =>
    rw [hk] at hp hq
    cases hp; cases hq
    exact ⟨rfl, ev_ok R _⟩

theorem toList_two {α : Type} {a : Array α} {l : List α} (h : a.toList = l) : a = l.toArray := by
  rw [← h]

theorem aun_ok (R : Rel C env h ι a w) {op : UnOp} {x : AV} {v : Value} {K : AV → Prop} {stop : Prop} (hx : VR w (okB C h ι w) x (rf h ι) v) (hk : aun op x K stop) :
    stop ∨ ∃ z m, (Op.unary op v).run C.P w = .ok m w ∧ VR w (okB C h ι w) z (rf h ι) m ∧ K z := by
  unfold aun at hk
  split at hk
  · have e : v = .bool true := hx
    subst e; exact .inr ⟨.ff, .bool false, by simp [Op.unary], rfl, hk⟩
  · have e : v = .bool false := hx
    subst e; exact .inr ⟨.tt, .bool true, by simp [Op.unary], rfl, hk⟩
  · rename_i b
    have e : v = .bool b := hx
    subst e; exact got_bool hk (by simp [Op.unary])
  · rename_i k n
    have e : v = .int k n := hx
    subst e; exact got_int hk (by simp [Op.unary, Op.intArith])
  · rename_i k n
    have e : v = .int k n := hx
    subst e; exact got_int hk (by simp [Op.unary, Op.intBits])
  · exact .inl hk

theorem own_nil {w : World} {B e sz n : Nat} {v : Value} {xs : List Value} (h : w.ownsRow B e sz v n xs) : ∃ A c, v = .slice A n c ∧ (A.isNone = true → n = 0) := by
  rcases h.2 with ⟨rfl, hn⟩ | ⟨g, cap, cur, rfl, _⟩
  · exact ⟨none, 0, by rw [hn], fun _ => hn⟩
  · exact ⟨_, cap, rfl, fun e => by cases e⟩

theorem nilLen_ok (R : Rel C env h ι a w) {x : AV} {v : Value} {n : Nat} (hx : VR w (okB C h ι w) x (rf h ι) v) (hn : nilLen h x = some n) : ∃ A c, v = .slice A n c ∧ (A.isNone = true → n = 0) := by
  cases x with
  | sl n' sz get =>
    cases hn
    obtain ⟨A, c, e, h1, _, h3, _⟩ := hx
    refine ⟨A, c, e, fun hA => ?_⟩
    cases A with
    | none => have := h3 rfl; omega
    | some _ => cases hA
  | row id =>
    have ho := R.obj id
    have hv : v = ι id 0 := hx
    rw [hv]
    simp only [nilLen] at hn
    cases hh : h id with
    | row e sz m get => rw [hh] at hn ho; cases hn; obtain ⟨xs, hr, _⟩ := ho; exact own_nil hr
    | mat e sz m get0 o ei szi len get hole => rw [hh] at hn ho; cases hn; obtain ⟨_, ⟨xs, hr, _⟩, _⟩ := ho; exact own_nil hr
    | _ => rw [hh] at hn; cases hn
  | mrow id i =>
    have ho := R.obj id
    obtain ⟨hv, h3⟩ := hx
    rw [hv]
    simp only [nilLen] at hn
    cases hh : h id with
    | mat e sz m get0 o ei szi len get hole =>
      rw [hh] at hn ho h3; cases hn
      obtain ⟨_, _, hrows, _⟩ := ho
      obtain ⟨_, ys, hr, _⟩ := hrows i h3.1 h3.2
      exact own_nil hr
    | _ => rw [hh] at hn; cases hn
  | _ => cases hn

theorem anil_ok (R : Rel C env h ι a w) {op : BinOp} {t : TypeId} {x y : AV} {v u : Value} {n : Nat} {K : AV → Prop} {stop : Prop} (hx : VR w (okB C h ι w) x (rf h ι) v) (hy : VR w (okB C h ι w) y (rf h ι) u)
    (hn : nilOf C.T h t x y = some n) (X Y : Operand) (hk : anil op n K stop) :
    stop ∨ ∃ z m, (do eqGuard op t X Y v u; binOp op t v u : Sem Value).run C.P w = .ok m w ∧ VR w (okB C h ι w) z (rf h ι) m ∧ K z := by
  unfold nilOf at hn
  split at hn
  · split at hn
    · rename_i e ht
      obtain ⟨A, c, rfl, hA⟩ := nilLen_ok R hx hn
      have hu : u = .slice none 0 0 := hy
      subst hu
      unfold anil at hk
      split at hk
      · refine got_bool (hk.all A.isNone hA) ?_
        simp [eqGuard, binOp, run_equal_slice_nil w t e A n c (C.und ht)]
      · refine got_bool (hk.all (!A.isNone) (fun hb => hA (by simpa using hb))) ?_
        simp [eqGuard, run_neq_slice_nil w t e A n c (C.und ht)]
      · exact .inl hk
    · cases hn
  · cases hn

theorem aop_ok (R : Rel C env h ι a w) (o : Oper) {K : Env → Heap → AV → Prop} {stop : Prop} (hk : aop C o env h K stop) : stop ∨ OpOut C a w o K := by
  unfold aop at hk
  split at hk
  · rename_i x ho
    exact .inr (OpOut.same R hk (by simp [execOp, ho]) (ev_ok R x))
  · rename_i x ho
    exact .inr (OpOut.same R hk (by simp [execOp, ho]) (ev_ok R x))
  · rename_i c x y ho
    have hc := ev_ok R c
    split at hk
    · rename_i e
      rw [e] at hc
      have e2 : a.eval c = .bool true := hc
      exact .inr (OpOut.same R hk (by simp [execOp, ho, e2, asBool]) (ev_ok R x))
    · rename_i e
      rw [e] at hc
      have e2 : a.eval c = .bool false := hc
      exact .inr (OpOut.same R hk (by simp [execOp, ho, e2, asBool]) (ev_ok R y))
    · rename_i b e
      rw [e] at hc
      have e2 : a.eval c = .bool b := hc
      cases b with
      | true => exact .inr (OpOut.same R (hk.t rfl) (by simp [execOp, ho, e2, asBool]) (ev_ok R x))
      | false => exact .inr (OpOut.same R (hk.f rfl) (by simp [execOp, ho, e2, asBool]) (ev_ok R y))
    · exact .inl hk
  · rename_i t x ho
    split at hk
    · rw [fv_eq] at hk
      exact (abox_ok R (ev_ok R x) hk).imp id (OpOut.of (by simp [execOp, ho]))
    · exact .inl hk
  · rename_i t ho
    split at hk
    · exact (aalloc_ok R (.tuple #[]) hk).imp id (OpOut.of (by simp [execOp, ho]))
    · exact .inl hk
  · rename_i t ps ho
    rw [fpairs_eq] at hk
    obtain ⟨h1, h2⟩ := pairs_ok R ps
    exact (abuild_ok R h1 h2 hk).imp id (OpOut.of (by simp [execOp, ho]))
  · rename_i t n ps ho
    split at hk
    · rw [fpairs_eq] at hk
      obtain ⟨h1, h2⟩ := pairs_ok R ps
      exact (abuildSlice_ok R h1 h2 hk).imp id (OpOut.of (by simp [execOp, ho]))
    · exact .inl hk
  · rename_i t x ho
    exact (aload_ok R (ev_ok R x) hk).imp id (OpOut.of (by simp [execOp, ho]))
  · rename_i t x y ho
    rw [fv_eq] at hk
    rcases astoreA_ok R (ev_ok R x) (ev_ok R y) hk with hk | ⟨w', env', h', ι', hr, R', hk⟩
    · exact .inl hk
    · exact .inr ⟨.skip, undef, w', ι', env', h', .u, by simp [execOp, ho, hr], .inr ⟨rfl, rfl⟩, R', trivial, hk⟩
  · rename_i x ho
    have hx := ev_ok R x
    split at hk
    · rename_i m g e
      rw [e] at hx
      obtain ⟨ad, e2, hx2⟩ := hx
      exact .inr (OpOut.same R hk (by simp [execOp, ho, e2]) ⟨ad, rfl, hx2⟩)
    · rename_i b1 b2 b3 b4 e
      rw [e] at hx
      obtain ⟨g, n, c, h1, e2, hx2⟩ := hx
      exact .inr (OpOut.same R hk (by simp [execOp, ho, e2]) ⟨g, n, c, h1, rfl, hx2⟩)
    · rename_i b1 b2 e
      rw [e] at hx
      obtain ⟨g, h1, e2⟩ := hx
      exact .inr (OpOut.same R hk (by simp [execOp, ho, e2]) ⟨g, h1, rfl⟩)
    · exact .inl hk
  · rename_i op t x y ty ho
    have main : abin op (ev env x) (ev env y) (K env h) stop → (C.P.underlying t = some .bool ∨ avB (ev env x) = none) → stop ∨ OpOut C a w o K := by
      intro hk hb
      rcases abin_ok t hb hk (ev_ok R x) (ev_ok R y) x y with hk | ⟨z, m, hr, hz, hk⟩
      · exact .inl hk
      · refine .inr (OpOut.of (s := do eqGuard op t x y (a.eval x) (a.eval y); binOp op t (a.eval x) (a.eval y)) (by simp [execOp, ho]) (Out.same R hk hr hz))
    split at hk
    · rename_i n hn
      rcases anil_ok R (ev_ok R x) (ev_ok R y) hn x y hk with hk | ⟨z, m, hr, hz, hk⟩
      · exact .inl hk
      · exact .inr (OpOut.of (s := do eqGuard op t x y (a.eval x) (a.eval y); binOp op t (a.eval x) (a.eval y)) (by simp [execOp, ho]) (Out.same R hk hr hz))
    split at hk
    · rename_i z hz
      obtain ⟨m, hr, hv⟩ := aeqT_ok hz (ev_ok R x) (ev_ok R y) x y
      exact .inr (OpOut.of (s := do eqGuard op t x y (a.eval x) (a.eval y); binOp op t (a.eval x) (a.eval y)) (by simp [execOp, ho]) (Out.same R hk hr hv))
    split at hk
    · cases hb : boolTy C.T t with
      | false => rw [hb] at hk; exact .inl hk
      | true => rw [hb] at hk; exact main hk (.inl (boolTy_ok hb))
    · rename_i e; exact main hk (.inr e)
  · rename_i op t x ho
    rcases aun_ok R (ev_ok R x) hk with hk | ⟨z, m, hr, hz, hk⟩
    · exact .inl hk
    · exact .inr (OpOut.of (by simp [execOp, ho]) (Out.same R hk hr hz))
  · rename_i s d x ho
    exact (aconvert_ok R (ev_ok R x) hk).imp id (OpOut.of (by simp [execOp, ho]))
  · rename_i t l c ho
    split at hk
    · exact (amake_ok R (ev_ok R l) (ev_ok R c) hk).imp id (OpOut.of (by simp [execOp, ho]))
    · exact .inl hk
  · rename_i t x lo hi ho
    refine (aslice_ok R (lv := lo.map a.eval) (hv := hi.map a.eval) (ev_ok R x) ⟨by simp, ?_⟩ ⟨by simp, ?_⟩ hk).imp id (OpOut.of (by simp [execOp, ho]))
    · intro y u hy hu
      cases lo with
      | none => cases hy
      | some z => cases hy; cases hu; exact ev_ok R z
    · intro y u hy hu
      cases hi with
      | none => cases hy
      | some z => cases hy; cases hu; exact ev_ok R z
  · rename_i s x f ho
    exact (afieldAddr_ok R (ev_ok R x) hk).imp id (OpOut.of (by simp [execOp, ho]))
  · rename_i s x f ho
    exact (afield_ok R (ev_ok R x) hk).imp id (OpOut.of (by simp [execOp, ho]))
  · rename_i t x i ho
    exact (aindexAddr_ok R (ev_ok R x) (ev_ok R i) hk).imp id (OpOut.of (by simp [execOp, ho]))
  · rename_i t x i ho
    exact (aindex_ok R (ev_ok R x) (ev_ok R i) hk).imp id (OpOut.of (by simp [execOp, ho]))
  · rename_i x i ho
    exact (aextract_ok R (ev_ok R x) hk).imp id (OpOut.of (by simp [execOp, ho]))
  · rename_i t ho
    split at hk
    · exact (amakeMap_ok R hk).imp id (OpOut.of (by simp [execOp, ho]))
    · exact .inl hk
  · rename_i t x ho
    split at hk
    · exact (arange_ok R (ev_ok R x) hk).imp id (OpOut.of (by simp [execOp, ho]))
    · exact .inl hk
  · rename_i x b ho
    exact (anext_ok (t := o.type) R (ev_ok R x) hk).imp id (OpOut.of (by simp [execOp, ho]))
  · rename_i t x k c ho
    rcases alookup_ok R (ev_ok R x) (ev_ok R k) hk with hk | ⟨z, m, hr, hz, hk⟩
    · exact .inl hk
    · exact .inr (OpOut.of (by simp [execOp, ho]) (Out.same R hk hr hz))
  · rename_i t x k v ho
    rcases aupdate_ok R (ev_ok R x) (ev_ok R k) (ev_ok R v) hk with hk | ⟨w', h', hr, R', hk⟩
    · exact .inl hk
    · exact .inr ⟨.skip, undef, w', ι, env, h', .u, by simp [execOp, ho, hr], .inr ⟨rfl, rfl⟩, R', trivial, hk⟩
  · rename_i t x k v ho
    rcases aupdate_ok R (ev_ok R x) (ev_ok R k) (ev_ok R v) hk with hk | ⟨w', h', hr, R', hk⟩
    · exact .inl hk
    · exact .inr ⟨.skip, undef, w', ι, env, h', .u, by simp [execOp, ho, hr], .inr ⟨rfl, rfl⟩, R', trivial, hk⟩
  · rename_i c ho
    split at hk
    · rename_i x t e1 e2 e3
      have e2' := toList_two e2
      have e3' := toList_two e3
      refine (alen_ok R o.type (ev_ok R x) hk).imp id (OpOut.of ?_)
      simp [execOp, ho, resolve, e1, e2', e3', invoke, builtin]
    · rename_i x t e1 e2 e3
      have e2' := toList_two e2
      have e3' := toList_two e3
      refine (asliceData_ok R (t := t) (ev_ok R x) hk).imp id (OpOut.of ?_)
      simp [execOp, ho, resolve, e1, e2', e3', invoke, builtin]
    · rename_i s x t t2 e1 e2 e3
      have e2' := toList_two e2
      have e3' := toList_two e3
      split at hk
      · cases hbt : Nat.beq t t2 with
        | true =>
          rw [hbt, cond_true] at hk
          refine (aappend_ok R o.type (ev_ok R s) (ev_ok R x) hk).imp id (OpOut.of ?_)
          simp [execOp, ho, resolve, e1, e2', e3', invoke, builtin]
        | false =>
          rw [hbt, cond_false] at hk
          refine (aappS_ok R o.type (ev_ok R s) (ev_ok R x) hk).imp id (OpOut.of ?_)
          simp [execOp, ho, resolve, e1, e2', e3', invoke, builtin]
      · exact .inl hk
    · exact .inl hk
  · exact .inl hk
end

end Go.Proofs.YtfodjmemdkibpaaDoor.V
