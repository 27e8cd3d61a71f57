/-
The walk's own words, rules and proofs: Vq, Vr, Vx, V3, V1, Vi, Vj, Vk, Vl.
-/
import Derived.Test.YtfodjmemdkibpaaDoorMA
import Derived.Maps.Keyed
import Derived.Lib.AppendStr
import Derived.Lib.UnsafeStr
import Derived.Laws.StructEq
import Derived.Laws.Pointers
import Derived.Lib.Builder
import Derived.Laws.Cover3
namespace Go.Proofs.YtfodjmemdkibpaaDoor.V
open Go Go.RowKit
set_option linter.unusedSimpArgs false
set_option linter.unusedVariables false

def findL {α β : Type} [DecidableEq α] (k : α) : List (α × β) → Nat → Option (Nat × β)
  | [], _ => none
  | p :: l, i => if k = p.1 then some (i, p.2) else findL k l (i + 1)
/-- What is put under a key: in its place, or at the end. -/
def mset {α β : Type} [DecidableEq α] (k : α) (v : β) : List (α × β) → List (α × β)
  | [] => [(k, v)]
  | p :: l => if k = p.1 then (k, v) :: l else p :: mset k v l
def mget {α β : Type} [DecidableEq α] (k : α) : List (α × β) → Option β
  | [] => none
  | p :: l => if k = p.1 then some p.2 else mget k l
def ins {α : Type} [DecidableEq α] (k : α) : List α → List α
  | [] => [k]
  | p :: l => if k = p then p :: l else p :: ins k l

theorem findNow_gen {α β : Type} [DecidableEq α] (kind : TypeDesc) (f : α → Value) (g : β → Value) (hs : ∀ a b, Instr.sameNow kind (f a) (f b) = some (decide (a = b))) (k : α) :
    ∀ (L : List (α × β)) (es : List MapEntry) (i : Nat), es.map (fun e => (e.key, e.val)) = L.map (fun p => (f p.1, g p.2)) → Instr.findNow kind (f k) es i = some ((findL k L i).map fun q => (q.1, g q.2))
  | [], [], i, _ => rfl
  | [], e :: es, i, h => by cases h
  | p :: L, [], i, h => by cases h
  | p :: L, e :: es, i, h => by
    simp only [List.map_cons, List.cons.injEq] at h
    obtain ⟨h1, h2⟩ := h
    have hk : e.key = f p.1 := congrArg Prod.fst h1
    have hv : e.val = g p.2 := congrArg Prod.snd h1
    simp only [Instr.findNow, findL, hk, hs]
    by_cases e1 : k = p.1
    · rw [decide_eq_true e1, if_pos e1, hv]; rfl
    · rw [decide_eq_false e1, if_neg e1]
      exact findNow_gen kind f g hs k L es (i + 1) h2

theorem findL_get {α β : Type} [DecidableEq α] (k : α) : ∀ (L : List (α × β)) (i : Nat), (findL k L i).map (·.2) = mget k L
  | [], i => rfl
  | p :: L, i => by
    unfold findL mget
    split
    · rfl
    · exact findL_get k L (i + 1)

theorem findL_some {α β : Type} [DecidableEq α] (k : α) (v : β) : ∀ (L : List (α × β)) (i j : Nat) (u : β), findL k L i = some (j, u) → i ≤ j ∧ L[j - i]? = some (k, u) ∧ mset k v L = L.set (j - i) (k, v)
  | [], i, j, u, h => by cases h
  | p :: L, i, j, u, h => by
    unfold findL at h
    split at h
    · rename_i e
      cases h
      refine ⟨Nat.le_refl _, ?_, ?_⟩
      · simp [e]
      · simp [mset, e]
    · rename_i e
      obtain ⟨h1, h2, h3⟩ := findL_some k v L (i + 1) j u h
      have h4 : j - i = (j - (i + 1)) + 1 := by omega
      refine ⟨by omega, ?_, ?_⟩
      · rw [h4, List.getElem?_cons_succ]; exact h2
      · rw [h4, List.set_cons_succ, mset, if_neg e, h3]
theorem findL_none {α β : Type} [DecidableEq α] (k : α) (v : β) : ∀ (L : List (α × β)) (i : Nat), findL k L i = none → mset k v L = L ++ [(k, v)]
  | [], i, h => rfl
  | p :: L, i, h => by
    unfold findL at h
    split at h
    · cases h
    · rename_i e
      rw [mset, if_neg e, findL_none k v L (i + 1) h]; rfl

theorem bytes_beq (a b : ByteArray) : (a == b) = decide (a = b) := by
  by_cases e : a = b
  · rw [decide_eq_true e]; exact MapKept.bytes_beq a b |>.mpr e
  · rw [decide_eq_false e, Bool.eq_false_iff]; exact fun h => e (MapKept.bytes_beq a b |>.mp h)
theorem bytes_beq_self (a : ByteArray) : (a == a) = true := by rw [bytes_beq]; exact decide_eq_true rfl
/-- A kind of key that is compared at once. -/
structure KeyTy (P : Program) (t : TypeId) {α : Type} [DecidableEq α] (f : α → Value) : Prop where
  kind : ∃ kind, P.underlying t = some kind ∧ ∀ a b, Instr.sameNow kind (f a) (f b) = some (decide (a = b))
  check : ∀ (w : World) (e : Bool) a, (Instr.checkKey e 10000 t (f a)).run P w = .ok () w
  stays : ∀ (w : World) a, (Instr.keyThatStays (f a) (f a)).run P w = .ok (f a) w

theorem KeyTy.int {P : Program} {t : TypeId} {k : IntKind} (ht : P.underlying t = some (.int k)) : KeyTy P t (fun n : Int => .int k n) := by
  refine ⟨⟨_, ht, fun a b => by simp [Instr.sameNow, BEq.beq]⟩, fun w e a => ?_, fun w a => ?_⟩
  · show (Instr.checkKey e (9999 + 1) t (.int k a)).run P w = _
    rw [Instr.checkKey]
    simp [run_underlying ht]
  · have : Instr.sameBits 10000 (.int k a) (.int k a) = true := by rw [Instr.sameBits.eq_def]; simp
    simp [Instr.keyThatStays, this]
theorem KeyTy.str {P : Program} {t : TypeId} (ht : P.underlying t = some .string) : KeyTy P t (fun s : ByteArray => .string s) := by
  refine ⟨⟨_, ht, fun a b => by simp only [Instr.sameNow]; congr 1; exact bytes_beq a b⟩, fun w e a => ?_, fun w a => ?_⟩
  · show (Instr.checkKey e (9999 + 1) t (.string a)).run P w = _
    rw [Instr.checkKey]
    simp [run_underlying ht]
  · have : Instr.sameBits 10000 (.string a) (.string a) = true := by rw [Instr.sameBits.eq_def]; exact bytes_beq_self a
    simp [Instr.keyThatStays, this]

section
variable {P : Program} {α β : Type} [DecidableEq α] {f : α → Value} {g : β → Value} {kt vt t : TypeId}

theorem run_lookup (K : KeyTy P kt f) (ht : P.underlying t = some (.map kt vt)) {z : Value} {w : World} (hz : (zeroValue vt).run P w = .ok z w) {b : Nat} {es : Array MapEntry} {clock : Nat}
    (hb : w.heap[b]? = some (.map es clock)) {L : List (α × β)} (he : es.toList.map (fun e => (e.key, e.val)) = L.map (fun p => (f p.1, g p.2))) (k : α) (c : Bool) :
    (Instr.lookup t (.map (some b)) (f k) c).run P w = .ok (if c then .tuple #[((mget k L).map g).getD z, .bool (mget k L).isSome] else ((mget k L).map g).getD z) w := by
  obtain ⟨kind, hk, hs⟩ := K.kind
  have hf := findNow_gen kind f g hs k L es.toList 0 he
  have hg := findL_get k L 0
  cases hq : findL k L 0 with
  | none =>
    rw [hq] at hf hg
    rw [← hg]
    cases c <;> simp [Instr.lookup, run_underlying ht, MapKept.run_getObj_map hb, K.check, Instr.findKey, run_underlying hk, hf, hz]
  | some q =>
    rw [hq] at hf hg
    rw [← hg]
    cases c <;> simp [Instr.lookup, run_underlying ht, MapKept.run_getObj_map hb, K.check, Instr.findKey, run_underlying hk, hf]

theorem run_update (K : KeyTy P kt f) (ht : P.underlying t = some (.map kt vt)) {w : World} {b : Nat} {es : Array MapEntry} {clock : Nat}
    (hb : w.heap[b]? = some (.map es clock)) {L : List (α × β)} (he : es.toList.map (fun e => (e.key, e.val)) = L.map (fun p => (f p.1, g p.2))) (k : α) (v : β) :
    ∃ es' clock', (Instr.mapUpdate t (.map (some b)) (f k) (g v)).run P w = .ok () { w with heap := w.heap.setIfInBounds b (.map es' clock') } ∧ es'.toList.map (fun e => (e.key, e.val)) = (mset k v L).map (fun p => (f p.1, g p.2)) := by
  obtain ⟨kind, hk, hs⟩ := K.kind
  have hf := findNow_gen kind f g hs k L es.toList 0 he
  cases hq : findL k L 0 with
  | none =>
    rw [hq] at hf
    refine ⟨es.push ⟨f k, g v, clock⟩, clock + 1, ?_, ?_⟩
    · simp [Instr.mapUpdate, run_underlying ht, MapKept.run_getObj_map hb, K.check, Instr.findKey, run_underlying hk, hf, MapKept.run_setObj_map _ hb, Result.andThen]
    · rw [findL_none k v L 0 hq]; simp [he]
  | some q =>
    obtain ⟨j, u⟩ := q
    rw [hq] at hf
    obtain ⟨_, h2, h3⟩ := findL_some k v L 0 j u hq
    rw [Nat.sub_zero] at h2 h3
    have h4 : (es.toList.map (fun e => (e.key, e.val)))[j]? = some (f k, g u) := by rw [he, List.getElem?_map, h2]; rfl
    rw [List.getElem?_map] at h4
    cases hj : es.toList[j]? with
    | none => rw [hj] at h4; cases h4
    | some e0 =>
      rw [hj] at h4
      have h5 : e0.key = f k := by injection h4 with h4; exact congrArg Prod.fst h4
      have hj' : es[j]? = some e0 := by simpa using hj
      refine ⟨es.modify j (fun e' => { e' with key := f k, val := g v }), clock, ?_, ?_⟩
      · simp [Instr.mapUpdate, run_underlying ht, MapKept.run_getObj_map hb, K.check, Instr.findKey, run_underlying hk, hf, MapKept.run_setObj_map _ hb, Result.andThen, hj', h5, K.stays]
      · have hjl : j < es.toList.length := (List.getElem?_eq_some_iff.1 hj).1
        rw [h3, Array.toList_modify, List.map_set, ← he]
        refine List.ext_getElem? fun i => ?_
        rw [List.getElem?_map, List.getElem?_modify, List.getElem?_set]
        by_cases hij : j = i
        · subst hij
          rw [if_pos rfl, hj, if_pos (by simpa using hjl)]
          simp
        · rw [if_neg hij, List.getElem?_map]; simp [hij]
end

theorem mset_ins {α : Type} [DecidableEq α] (k : α) : ∀ (l : List α), mset k true (l.map fun x => (x, true)) = (ins k l).map fun x => (x, true)
  | [] => rfl
  | p :: l => by
    simp only [List.map_cons, mset, ins]
    split
    · rename_i e; subst e; rfl
    · rw [mset_ins k l]; rfl
def hasK {α : Type} [DecidableEq α] (k : α) : List α → Bool
  | [] => false
  | p :: l => decide (k = p) || hasK k l
theorem hasK_iff {α : Type} [DecidableEq α] (k : α) : ∀ (l : List α), hasK k l = true ↔ k ∈ l
  | [] => by simp [hasK]
  | p :: l => by simp [hasK, hasK_iff k l]
theorem hasK_not {α : Type} [DecidableEq α] (k : α) (l : List α) : hasK k l = false ↔ k ∉ l := by
  rw [← hasK_iff, Bool.not_eq_true]
theorem mget_set {α : Type} [DecidableEq α] (k : α) : ∀ (l : List α), mget k (l.map fun x => (x, true)) = if hasK k l then some true else none
  | [] => rfl
  | p :: l => by
    simp only [List.map_cons, mget, hasK]
    by_cases e : k = p
    · simp [e]
    · simp only [if_neg e, decide_eq_false e, Bool.false_or]; exact mget_set k l

/-! ### the abstract side -/
def mkind (P : TT) (t : TypeId) : Option MK :=
  match P.underlying t with
  | some (.map k e) => match P.underlying k, P.underlying e with
    | some (.int .i64), some .bool => some (.ib [])
    | some .string, some .bool => some (.sb [])
    | some (.int .i64), some (.int .i64) => some (.ii [])
    | some .string, some (.int .i64) => some (.si [])
    | _, _ => none
  | _ => none

def amakeMap (P : TT) (t d : Nat) (env : Env) (h : Heap) (K : Env → Heap → AV → Prop) (stop : Prop) : Prop :=
  match mkind P t with
  | some m => K (scrubE d env) (upd (upd (scrubH d h) d .dead) d (.mp m)) (.obj d)
  | none => stop

def zeroIs (P : TT) (t : TypeId) (z : AV) : Bool := match P.zero t, z with
  | some [.ff], .ff => true
  | some [.int .i64 0], .int .i64 0 => true
  | _, _ => false

/-- What is asked of a map. -/
def alookup (P : TT) (h : Heap) (t : TypeId) (x k : AV) (c : Bool) (K : AV → Prop) (stop : Prop) : Prop :=
  match x with
  | .obj id => match h id, P.underlying t, k with
    | .mp (.ib l), some (.map kt vt), .int .i64 n => match P.underlying kt, P.zero vt with
      | some (.int .i64), some [.ff] => cond (P.one vt) (cond c (K (.tup 2 (fun j => bif Nat.beq j 0 then .bool (hasK n l) else .bool (hasK n l)))) (K (.bool (hasK n l)))) stop
      | _, _ => stop
    | .mp (.sb l), some (.map kt vt), .str n => match P.underlying kt, P.zero vt with
      | some .string, some [.ff] => cond (P.one vt) (cond c (K (.tup 2 (fun j => bif Nat.beq j 0 then .bool (hasK n l) else .bool (hasK n l)))) (K (.bool (hasK n l)))) stop
      | _, _ => stop
    | .mp (.ii l), some (.map kt vt), .int .i64 n => match P.underlying kt, P.zero vt with
      | some (.int .i64), some [.int .i64 0] => cond (P.one vt) (cond c (K (.tup 2 (fun j => bif Nat.beq j 0 then .int .i64 ((mget n l).getD 0) else .bool (mget n l).isSome))) (K (.int .i64 ((mget n l).getD 0)))) stop
      | _, _ => stop
    | .mp (.si l), some (.map kt vt), .str n => match P.underlying kt, P.zero vt with
      | some .string, some [.int .i64 0] => cond (P.one vt) (cond c (K (.tup 2 (fun j => bif Nat.beq j 0 then .int .i64 ((mget n l).getD 0) else .bool (mget n l).isSome))) (K (.int .i64 ((mget n l).getD 0)))) stop
      | _, _ => stop
    | _, _, _ => stop
  | _ => stop

def aupdate (P : TT) (h : Heap) (t : TypeId) (x k v : AV) (K : Heap → Prop) (stop : Prop) : Prop :=
  match x with
  | .obj id => match h id, P.underlying t, k, v with
    | .mp (.ib l), some (.map kt vt), .int .i64 n, .tt => match P.underlying kt with | some (.int .i64) => K (upd h id (.mp (.ib (ins n l)))) | _ => stop
    | .mp (.sb l), some (.map kt vt), .str n, .tt => match P.underlying kt with | some .string => K (upd h id (.mp (.sb (ins n l)))) | _ => stop
    | .mp (.ii l), some (.map kt vt), .int .i64 n, .int .i64 u => match P.underlying kt with | some (.int .i64) => K (upd h id (.mp (.ii (mset n u l)))) | _ => stop
    | .mp (.si l), some (.map kt vt), .str n, .int .i64 u => match P.underlying kt with | some .string => K (upd h id (.mp (.si (mset n u l)))) | _ => stop
    | _, _, _, _ => stop
  | _ => stop

section
variable {C : Ctx} {env : Env} {h : Heap} {ι : Loc} {a : Act} {w : World}

theorem run_zero1 {t : TypeId} {z : AV} (hz : C.T.zero t = some [z]) (h1' : C.T.one t = true) {u : Value} (hu : z = .ff ∧ u = .bool false ∨ z = .int .i64 0 ∧ u = .int .i64 0) : (zeroValue t).run C.P w = .ok u w := by
  obtain ⟨i, zv, hi, hzz, hs, hc⟩ := zeroL_ok (C.zeroes hz).1
  obtain ⟨c, h1, h2, h3⟩ := hc w (fun _ => False) noref 0 z rfl
  have hcu : c = u := by
    rcases hu with ⟨rfl, rfl⟩ | ⟨rfl, rfl⟩ <;> exact h3
  subst hcu
  have : zv = c := by
    have h5 := C.ones h1'
    have h4 : zv.cells.size = 1 := hs
    cases zv with
    | agg cs => unfold zeroOne at h5; rw [hi] at h5; simp [hzz] at h5
    | _ => simpa [Value.cells] using h1
  subst this
  simp [zeroValue, typeInfo, hi, hzz]

theorem amakeMap_ok (R : Rel C env h ι a w) {t d : Nat} {K : Env → Heap → AV → Prop} {stop : Prop} (hk : amakeMap C.T t d env h K stop) : stop ∨ Out C a w (Instr.makeMap t none) K := by
  unfold amakeMap at hk
  split at hk
  · rename_i m hm
    have hent : m.entries = [] := by
      unfold mkind at hm
      split at hm
      · split at hm <;> (cases hm) <;> rfl
      · cases hm
    have R' := (R.make d d (.mp m) (.map (some w.heap.size)) (w.alloc (.map #[] 0)) (below_alloc C R.below _) (fun b hb => Below.heap_alloc _ _ _ hb.1)
      (fun id _ _ hl g hg => Below.heap_alloc _ _ _ (R.base id hl g hg).2) rfl (fun g hg => by cases hg; exact ⟨R.below.size, by simp⟩)
      (fun g hg hb => by cases hg; exact absurd hb.1 (Nat.lt_irrefl _)) (fun id _ _ hl g hg e => by cases e; exact absurd (R.base id hl _ hg).2 (Nat.lt_irrefl _))
      (fun ok r hok hS hr => ⟨_, _, _, rfl, heap_alloc_new w _, by rw [hent]; rfl⟩)).1
    refine .inr ⟨.map (some w.heap.size), _, _, _, _, _, ?_, R', ?_, hk⟩
    · simp [Instr.makeMap, newObj, Sem.run]
    · show _ = upd ι d _ d 0
      rw [upd_same]
  · exact .inl hk

theorem obj_map (R : Rel C env h ι a w) {id : Nat} {m : MK} {v : Value} (hx : VR w (okB C h ι w) (.obj id) (rf h ι) v) (hh : h id = .mp m) :
    ∃ g es clock, v = .map (some g) ∧ ι id 0 = .map (some g) ∧ w.heap[g]? = some (.map es clock) ∧ es.toList.map (fun e => (e.key, e.val)) = m.entries := by
  have ho := R.obj id
  rw [hh] at ho
  obtain ⟨g, es, clock, e1, e2, e3⟩ := ho
  have hv : v = ι id 0 := hx
  exact ⟨g, es, clock, hv.trans e1, e1, e2, e3⟩

theorem alookup_ok (R : Rel C env h ι a w) {t : TypeId} {x k : AV} {v u : Value} {c : Bool} {K : AV → Prop} {stop : Prop} (hx : VR w (okB C h ι w) x (rf h ι) v) (hu : VR w (okB C h ι w) k (rf h ι) u)
    (hk : alookup C.T h t x k c K stop) : stop ∨ ∃ z m, (Instr.lookup t v u c).run C.P w = .ok m w ∧ VR w (okB C h ι w) z (rf h ι) m ∧ K z := by
  have tup : ∀ (p q : AV) (P Q : Value), VR w (okB C h ι w) p (rf h ι) P → VR w (okB C h ι w) q (rf h ι) Q → VR w (okB C h ι w) (.tup 2 (fun j => bif Nat.beq j 0 then p else q)) (rf h ι) (.tuple #[P, Q]) := by
    intro p q P Q hp hq
    refine ⟨_, rfl, rfl, fun j hj => ?_⟩
    match j, hj with
    | 0, _ => exact ⟨P, rfl, hp⟩
    | 1, _ => exact ⟨Q, rfl, hq⟩
  unfold alookup at hk
  split at hk
  · rename_i id
    split at hk
    · rename_i l kt vt n hh ht
      obtain ⟨g, es, clock, rfl, _, hg, he⟩ := obj_map R hx hh
      have hu' : u = .int .i64 n := hu
      subst hu'
      split at hk
      · rename_i hkt hz
        cases h1 : C.T.one vt with
        | false => rw [h1] at hk; exact .inl hk
        | true =>
          rw [h1, cond_true] at hk
          have hrun := run_lookup (g := fun b : Bool => Value.bool b) (KeyTy.int (C.und hkt)) (C.und ht) (run_zero1 hz h1 (.inl ⟨rfl, rfl⟩)) hg (L := l.map fun x => (x, true)) (by rw [he]; simp [MK.entries]) n c
          have e : ((mget n (l.map fun x => (x, true))).map fun b : Bool => Value.bool b).getD (.bool false) = .bool (hasK n l) := by rw [mget_set]; cases hasK n l <;> rfl
          have e' : (mget n (l.map fun x => (x, true))).isSome = hasK n l := by rw [mget_set]; cases hasK n l <;> rfl
          rw [e, e'] at hrun
          cases c with
          | true => exact .inr ⟨_, _, hrun, tup (.bool (hasK n l)) (.bool (hasK n l)) _ _ rfl rfl, hk⟩
          | false => exact .inr ⟨(.bool (hasK n l)), _, hrun, rfl, hk⟩
      · exact .inl hk
    · rename_i l kt vt n hh ht
      obtain ⟨g, es, clock, rfl, _, hg, he⟩ := obj_map R hx hh
      have hu' : u = .string n := hu.1
      subst hu'
      split at hk
      · rename_i hkt hz
        cases h1 : C.T.one vt with
        | false => rw [h1] at hk; exact .inl hk
        | true =>
          rw [h1, cond_true] at hk
          have hrun := run_lookup (g := fun b : Bool => Value.bool b) (KeyTy.str (C.und hkt)) (C.und ht) (run_zero1 hz h1 (.inl ⟨rfl, rfl⟩)) hg (L := l.map fun x => (x, true)) (by rw [he]; simp [MK.entries]) n c
          have e : ((mget n (l.map fun x => (x, true))).map fun b : Bool => Value.bool b).getD (.bool false) = .bool (hasK n l) := by rw [mget_set]; cases hasK n l <;> rfl
          have e' : (mget n (l.map fun x => (x, true))).isSome = hasK n l := by rw [mget_set]; cases hasK n l <;> rfl
          rw [e, e'] at hrun
          cases c with
          | true => exact .inr ⟨_, _, hrun, tup (.bool (hasK n l)) (.bool (hasK n l)) _ _ rfl rfl, hk⟩
          | false => exact .inr ⟨(.bool (hasK n l)), _, hrun, rfl, hk⟩
      · exact .inl hk
    · rename_i l kt vt n hh ht
      obtain ⟨g, es, clock, rfl, _, hg, he⟩ := obj_map R hx hh
      have hu' : u = .int .i64 n := hu
      subst hu'
      split at hk
      · rename_i hkt hz
        cases h1 : C.T.one vt with
        | false => rw [h1] at hk; exact .inl hk
        | true =>
          rw [h1, cond_true] at hk
          have hrun := run_lookup (g := fun b : Int => Value.int .i64 b) (KeyTy.int (C.und hkt)) (C.und ht) (run_zero1 hz h1 (.inr ⟨rfl, rfl⟩)) hg (L := l) he n c
          have e : ((mget n l).map fun b : Int => Value.int .i64 b).getD (.int .i64 0) = .int .i64 ((mget n l).getD 0) := by cases mget n l <;> rfl
          rw [e] at hrun
          cases c with
          | true => exact .inr ⟨_, _, hrun, tup (.int .i64 ((mget n l).getD 0)) (.bool (mget n l).isSome) _ _ rfl rfl, hk⟩
          | false => exact .inr ⟨(.int .i64 ((mget n l).getD 0)), _, hrun, rfl, hk⟩
      · exact .inl hk
    · rename_i l kt vt n hh ht
      obtain ⟨g, es, clock, rfl, _, hg, he⟩ := obj_map R hx hh
      have hu' : u = .string n := hu.1
      subst hu'
      split at hk
      · rename_i hkt hz
        cases h1 : C.T.one vt with
        | false => rw [h1] at hk; exact .inl hk
        | true =>
          rw [h1, cond_true] at hk
          have hrun := run_lookup (g := fun b : Int => Value.int .i64 b) (KeyTy.str (C.und hkt)) (C.und ht) (run_zero1 hz h1 (.inr ⟨rfl, rfl⟩)) hg (L := l) he n c
          have e : ((mget n l).map fun b : Int => Value.int .i64 b).getD (.int .i64 0) = .int .i64 ((mget n l).getD 0) := by cases mget n l <;> rfl
          rw [e] at hrun
          cases c with
          | true => exact .inr ⟨_, _, hrun, tup (.int .i64 ((mget n l).getD 0)) (.bool (mget n l).isSome) _ _ rfl rfl, hk⟩
          | false => exact .inr ⟨(.int .i64 ((mget n l).getD 0)), _, hrun, rfl, hk⟩
      · exact .inl hk
    · exact .inl hk
  · exact .inl hk

theorem Rel.setMap (R : Rel C env h ι a w) {id g : Nat} {es : Array MapEntry} {clock : Nat} {m m' : MK} (hh : h id = .mp m) (hι : ι id 0 = .map (some g)) (hg : w.heap[g]? = some (.map es clock)) {es' : Array MapEntry} {clock' : Nat}
    (he : es'.toList.map (fun e => (e.key, e.val)) = m'.entries) : Rel C env (upd h id (.mp m')) ι a { w with heap := w.heap.setIfInBounds g (.map es' clock') } := by
  have hl : h id ≠ .dead := by rw [hh]; simp
  have hb := R.base id hl g (owns_zero (by rw [hι]; rfl))
  have hne : ∀ b, b ≠ g → (w.heap.setIfInBounds g (.map es' clock'))[b]? = w.heap[b]? := fun b hb => by rw [Array.getElem?_setIfInBounds, if_neg (Ne.symm hb)]
  refine R.set id (.mp m') _ ⟨rfl, rfl, rfl, by simp, fun k hk => hne k (by have := hb.1; omega)⟩ hl (fun b hb' _ => hne b (hb' g (by rw [hι]; rfl))) (by trivial) (fun r ok _ _ _ => ⟨g, es', clock', hι, ?_, he⟩)
  show (w.heap.setIfInBounds g (.map es' clock'))[g]? = _
  rw [Array.getElem?_setIfInBounds, if_pos rfl, if_pos hb.2]

theorem aupdate_ok (R : Rel C env h ι a w) {t : TypeId} {x k y : AV} {v u q : Value} {K : Heap → Prop} {stop : Prop} (hx : VR w (okB C h ι w) x (rf h ι) v) (hu : VR w (okB C h ι w) k (rf h ι) u)
    (hq : VR w (okB C h ι w) y (rf h ι) q) (hk : aupdate C.T h t x k y K stop) : stop ∨ ∃ w' h', (Instr.mapUpdate t v u q).run C.P w = .ok () w' ∧ Rel C env h' ι a w' ∧ K h' := by
  unfold aupdate at hk
  split at hk
  · rename_i id
    split at hk
    · rename_i l kt vt n hh ht
      obtain ⟨g, es, clock, rfl, hι, hg, he⟩ := obj_map R hx hh
      have hu' : u = .int .i64 n := hu
      have hq' : q = .bool true := hq
      subst hu'; subst hq'
      split at hk
      · rename_i hkt
        obtain ⟨es', clock', hrun, he'⟩ := run_update (g := fun b : Bool => Value.bool b) (KeyTy.int (C.und hkt)) (C.und ht) hg (L := l.map fun x => (x, true)) (by rw [he]; simp [MK.entries]) n true
        exact .inr ⟨_, _, hrun, R.setMap hh hι hg (by rw [he', mset_ins]; simp [MK.entries]), hk⟩
      · exact .inl hk
    · rename_i l kt vt n hh ht
      obtain ⟨g, es, clock, rfl, hι, hg, he⟩ := obj_map R hx hh
      have hu' : u = .string n := hu.1
      have hq' : q = .bool true := hq
      subst hu'; subst hq'
      split at hk
      · rename_i hkt
        obtain ⟨es', clock', hrun, he'⟩ := run_update (g := fun b : Bool => Value.bool b) (KeyTy.str (C.und hkt)) (C.und ht) hg (L := l.map fun x => (x, true)) (by rw [he]; simp [MK.entries]) n true
        exact .inr ⟨_, _, hrun, R.setMap hh hι hg (by rw [he', mset_ins]; simp [MK.entries]), hk⟩
      · exact .inl hk
    · rename_i l kt vt n m hh ht
      obtain ⟨g, es, clock, rfl, hι, hg, he⟩ := obj_map R hx hh
      have hu' : u = .int .i64 n := hu
      have hq' : q = .int .i64 m := hq
      subst hu'; subst hq'
      split at hk
      · rename_i hkt
        obtain ⟨es', clock', hrun, he'⟩ := run_update (g := fun b : Int => Value.int .i64 b) (KeyTy.int (C.und hkt)) (C.und ht) hg (L := l) he n m
        exact .inr ⟨_, _, hrun, R.setMap (m' := .ii (mset n m l)) hh hι hg he', hk⟩
      · exact .inl hk
    · rename_i l kt vt n m hh ht
      obtain ⟨g, es, clock, rfl, hι, hg, he⟩ := obj_map R hx hh
      have hu' : u = .string n := hu.1
      have hq' : q = .int .i64 m := hq
      subst hu'; subst hq'
      split at hk
      · rename_i hkt
        obtain ⟨es', clock', hrun, he'⟩ := run_update (g := fun b : Int => Value.int .i64 b) (KeyTy.str (C.und hkt)) (C.und ht) hg (L := l) he n m
        exact .inr ⟨_, _, hrun, R.setMap (m' := .si (mset n m l)) hh hι hg he', hk⟩
      · exact .inl hk
    · exact .inl hk
  · exact .inl hk
end

end Go.Proofs.YtfodjmemdkibpaaDoor.V

namespace Go.Proofs.YtfodjmemdkibpaaDoor.V
open Go Go.RowKit
set_option linter.unusedSimpArgs false
set_option linter.unusedVariables false

/-- What leads into the inner rows of 'd' is forgotten. -/
def scrubI (d : Nat) : AV → AV
  | .mrow id i => cond (Nat.beq id d) .u (.mrow id i)
  | .madr id i sz a b => cond (Nat.beq id d) .u (.madr id i sz a b)
  | .agg n get => .agg n (fun j => scrubI d (get j))
  | .tup n get => .tup n (fun j => scrubI d (get j))
  | x => x
def scrubIE (d : Nat) (env : Env) : Env := fun i => scrubI d (env i)
def scrubIH (d : Nat) (h : Heap) : Heap := fun id => scrM (scrubI d) (h id)

theorem scrubI_scr (d : Nat) : Scr (scrubI d) := by
  refine ⟨fun _ _ => rfl, fun _ _ => rfl, fun x h1 h2 h3 => ?_⟩
  cases x <;> first
    | rfl
    | exact absurd rfl (h2 _ _)
    | exact absurd rfl (h3 _ _)
    | (exfalso; exact h1 (fun _ => .dead) (fun _ _ => .nilIface) _ ⟨rfl, trivial⟩)
    | (exfalso; exact h1 (fun _ => .dead) (fun _ _ => .slice (some ⟨0, 0, none⟩) 0 0) _ ⟨0, 0, 0, rfl, rfl, trivial⟩)

/-- What leads to 'd' from outside is as it was; the rest too, where nothing has been done. -/
theorem rf_scrubI {d z : Nat} {h h' : Heap} {ι ι' : Loc} (hι : ∀ id, id ≠ d → ι' id = ι id) (h0 : ι' d 0 = ι d 0) (hm : ∀ id, id ≠ d → h' id = .dead ∨ h' id = scrM (scrubI d) (h id))
    (hd : match h' d with | .row _ sz n _ => (match h d with | .row _ sz0 n0 _ => sz0 = sz ∧ n0 = n | .mat _ sz0 n0 _ _ _ _ _ _ _ => sz0 = sz ∧ n0 = n | _ => False) | .mat _ sz n _ _ _ _ _ _ _ => (match h d with | .row _ sz0 n0 _ => sz0 = sz ∧ n0 = n | .mat _ sz0 n0 _ _ _ _ _ _ _ => sz0 = sz ∧ n0 = n | _ => False) | _ => True)
    {w : World} {ok : Nat → Prop} {x : AV} {v : Value} (hr : rf h ι x v) : VR w ok (scrubI d x) (rf h' ι') v := by
  cases x with
  | row id =>
    by_cases e : id = d
    · subst e; exact (show v = ι id 0 from hr).trans h0.symm
    · exact (show v = ι id 0 from hr).trans (by rw [hι id e])
  | obj id =>
    by_cases e : id = d
    · subst e; exact (show v = ι id 0 from hr).trans h0.symm
    · exact (show v = ι id 0 from hr).trans (by rw [hι id e])
  | box id off =>
    obtain ⟨g, h1, h2⟩ := hr
    by_cases e : id = d
    · subst e; exact ⟨g, h0.trans h1, h2⟩
    · exact ⟨g, by rw [hι id e]; exact h1, h2⟩
  | radr id sz i j =>
    obtain ⟨g, n, c, h1, h2, h3⟩ := hr
    by_cases e : id = d
    · subst e
      refine ⟨g, n, c, h0.trans h1, h2, ?_⟩
      cases hq : h' id <;> rw [hq] at hd <;> first
        | trivial
        | (cases hp : h id <;> rw [hp] at hd h3 <;> first
            | exact hd.elim
            | (obtain ⟨e1, e2⟩ := hd; exact ⟨e1 ▸ h3.1, e2 ▸ h3.2⟩))
    · refine ⟨g, n, c, by rw [hι id e]; exact h1, h2, ?_⟩
      rcases hm id e with e2 | e2
      · rw [e2]; trivial
      · rw [e2]
        cases hq : h id <;> rw [hq] at h3 <;> first | trivial | exact h3
  | mrow id i =>
    by_cases e : id = d
    · subst e; simp [scrubI, VR]
    · simp only [scrubI, beq_ne e, cond_false, VR]
      refine ⟨hr.1.trans (by rw [hι id e]), ?_⟩
      have h3 := hr.2
      rcases hm id e with e2 | e2
      · rw [e2]; trivial
      · rw [e2]
        cases hq : h id <;> rw [hq] at h3 <;> first | trivial | exact h3
  | madr id i sz a b =>
    by_cases e : id = d
    · subst e; simp [scrubI, VR]
    · simp only [scrubI, beq_ne e, cond_false, VR]
      obtain ⟨g, n, c, h1, h2, h3⟩ := hr
      refine ⟨g, n, c, by rw [hι id e]; exact h1, h2, ?_⟩
      rcases hm id e with e2 | e2
      · rw [e2]; trivial
      · rw [e2]
        cases hq : h id <;> rw [hq] at h3 <;> first | trivial | exact h3
  | _ => exact absurd hr (by simp [rf])

/-- A store into a row that is one's own. -/
theorem own_store {P : Program} {t : TypeId} {i : TypeInfo} (hi : P.info? t = some i) {w : World} {B e sz n g cc off : Nat} {v u : Value} {xs : List Value} (hown : ownsX w B e sz v n xs) (hv : v = .slice (some ⟨g, 0, none⟩) n cc)
    (hsz : u.cells.size = P.cellsOf t) (hfit : off + u.cells.size ≤ n * sz) (h1 : ∀ z ∈ u.cells.toList, z.oneCell' = true) (hone : ∀ z ∈ xs, z.oneCell' = true) :
    ∃ cur', (Instr.storeAt t (.pointer (some ⟨g, off, none⟩)) u).run P w = .ok () (w.setRow g cur') ∧
      ownsX (w.setRow g cur') B e sz v n (xs.take off ++ u.cells.toList ++ xs.drop (off + u.cells.toList.length)) ∧
      (∀ z ∈ xs.take off ++ u.cells.toList ++ xs.drop (off + u.cells.toList.length), z.oneCell' = true) ∧
      (∀ q, (xs.take off ++ u.cells.toList ++ xs.drop (off + u.cells.toList.length))[q]? = if off ≤ q ∧ q < off + u.cells.toList.length then u.cells.toList[q - off]? else xs[q]?) := by
  rcases hown.2 with ⟨hv2, hn0⟩ | ⟨g', cap, cur, hv2, hB, hg, hnc, hcap, hcs, htake⟩
  · rw [hv] at hv2; cases hv2
  · rw [hv] at hv2; cases hv2
    have hxl : xs.length = n * sz := hown.1
    have hn : n * sz ≤ cc * sz := Nat.mul_le_mul_right _ hnc
    have hul : u.cells.toList.length = u.cells.size := Array.length_toList
    have hthree : ∀ q, (xs.take off ++ u.cells.toList ++ xs.drop (off + u.cells.toList.length))[q]? = _ := fun q => getElem?_three xs u.cells.toList off q (by omega)
    refine ⟨_, run_storeVar_at hi hg (off := off) (v := u) hsz (by omega) h1, ⟨by simp; omega, .inr ⟨g, cc, _, hv, hB, hg.set (by simp; omega), hnc, hcap, by simp; omega, ?_⟩⟩, ?_, hthree⟩
    · rw [List.toList_toArray]
      apply List.ext_getElem?
      intro q
      rw [List.getElem?_take, hthree q, ← htake, List.getElem?_take]
      have h3 := getElem?_three cur.toList u.cells.toList off q (by simp; omega)
      rw [Array.length_toList] at h3
      rw [Array.length_toList]
      rw [h3]
      by_cases hq : q < n * sz
      · simp [hq]
      · rw [if_neg hq, if_neg (by omega), if_neg hq]
    · intro z hz
      obtain ⟨q, hq⟩ := List.getElem?_of_mem hz
      rw [hthree q] at hq
      split at hq
      · exact h1 z (List.mem_of_getElem? hq)
      · exact hone z (List.mem_of_getElem? hq)

def updIn {α : Type} (f : Nat → α) (i : Nat) (x : α) : Nat → α := fun k => if k = i then x else f k

/-- What is stored into nested rows. -/
def astoreM (P : TT) (t : TypeId) (x y : AV) (env : Env) (h : Heap) (K : Env → Heap → Prop) (stop : Prop) : Prop :=
  match P.underlying t with
  | some _ => (match x with
    | .madr id i sz a b => match h id, cellsAV y with
      | .mat e sz0 n get0 o ei szi len get hole, some l => cond (Nat.beq l.length (P.cellsOf t) && Nat.ble (b + l.length) sz && l.all noRef)
          (K env (upd h id (.mat e sz0 n get0 o ei szi len (updIn get i (updRow (get i) a b l)) hole))) stop
      | _, _ => stop
    | .radr id sz i j => match h id with
      | .mat e sz0 n get0 o ei szi len get hole => (match y with
        | .row q => match h q, hole with
          | .row eq szq m getq, none => cond (Nat.beq j o && Nat.beq (P.cellsOf t) 1 && Nat.beq eq ei && Nat.beq szq szi && !Nat.beq q id)
              (K (scrubIE id env) (upd (upd (scrubIH id h) q .dead) id (.mat e sz0 n get0 o ei szi (updIn len i m) (updIn get i getq) none))) stop
          | .row eq szq m getq, some i' => cond (Nat.beq j o && Nat.beq (P.cellsOf t) 1 && Nat.beq eq ei && Nat.beq szq szi && !Nat.beq q id)
              (Need (i' = i) (K (scrubIE id env) (upd (upd (scrubIH id h) q .dead) id (.mat e sz0 n get0 o ei szi (updIn len i m) (updIn get i getq) none)))) stop
          | _, _ => stop
        | y => match cellsAV y with
          | some l => cond (Nat.beq l.length (P.cellsOf t) && Nat.ble (j + l.length) sz && l.all noRef && (Nat.blt o j || Nat.ble (j + l.length) o))
              (K env (upd h id (.mat e sz0 n (updRow get0 i j l) o ei szi len get hole))) stop
          | none => stop)
      | _ => stop
    | _ => stop)
  | none => stop

section
variable {C : Ctx} {env : Env} {h : Heap} {ι : Loc} {a : Act} {w : World}

theorem cells_one (R : Rel C env h ι a w) {y : AV} {u : Value} {l : List AV} (hl : cellsAV y = some l) (hy : VR w (okB C h ι w) y (rf h ι) u) : ∀ z ∈ u.cells.toList, z.oneCell' = true := by
  obtain ⟨hs, hc⟩ := cellsAV_ok R hl hy
  intro z hz
  obtain ⟨j, hj⟩ := List.getElem?_of_mem hz
  have hjl : j < l.length := by
    rcases Nat.lt_or_ge j l.length with h' | h'
    · exact h'
    · rw [List.getElem?_eq_none (by rw [Array.length_toList, hs]; exact h')] at hj; cases hj
  obtain ⟨cv, c1, c2, _⟩ := hc j l[j] (List.getElem?_eq_getElem hjl)
  have : u.cells.toList[j]? = some cv := by simpa using c1
  rw [this] at hj; cases hj; exact c2

theorem store_madr (R : Rel C env h ι a w) {t : TypeId} {dt : TypeDesc} (hdt : C.T.underlying t = some dt) {id i sz p b e sz0 n o ei szi : Nat} {get0 : Nat → Nat → AV} {len : Nat → Nat} {get : Nat → Nat → Nat → AV} {hole : Option Nat} {y : AV} {v u : Value} {l : List AV}
    (hx : VR w (okB C h ι w) (.madr id i sz p b) (rf h ι) v) (hh : h id = .mat e sz0 n get0 o ei szi len get hole) (hy : VR w (okB C h ι w) y (rf h ι) u) (hl : cellsAV y = some l)
    (hsz : l.length = C.T.cellsOf t) (hle : b + l.length ≤ sz) (hnr : l.all noRef = true) :
    ∃ w', (Instr.storeAt t v u).run C.P w = .ok () w' ∧ Rel C env (upd h id (.mat e sz0 n get0 o ei szi len (updIn get i (updRow (get i) p b l)) hole)) ι a w' := by
  obtain ⟨hs, hc⟩ := cellsAV_ok R hl hy
  have h1 := cells_one R hl hy
  obtain ⟨inf, hi⟩ := info_some (C.und hdt)
  obtain ⟨g, nn, cc, e1, e2, h3⟩ := hx
  rw [hh] at h3
  obtain ⟨rfl, hin, hho, hp⟩ := h3
  have hlive : h id ≠ .dead := by rw [hh]; simp
  have ho := R.obj id
  rw [hh] at ho
  obtain ⟨hosz, ⟨xs, hxs, hx1, hc0, hinn⟩, hrows, hap⟩ := ho
  obtain ⟨hout, ys, hy0, hy1, hyc⟩ := hrows i hin hho
  have hul : u.cells.toList.length = l.length := by simp [hs]
  have hbl : blk (ι id (i + 1)) = some g := by rw [e1]; rfl
  have hv2 : ι id (i + 1) = .slice (some ⟨g, 0, none⟩) (len i) cc := by
    rcases hy0.2 with ⟨hv, _⟩ | ⟨g', cap, cur, hv, _⟩
    · rw [e1] at hv; cases hv
    · rw [e1] at hv; cases hv; exact e1
  have hfit : p * szi + b + u.cells.size ≤ len i * szi := by
    have := Nat.mul_le_mul_right szi (show p + 1 ≤ len i by omega)
    rw [Nat.add_mul] at this
    rw [hs]; omega
  obtain ⟨cur', hrun, hown', hone', hthree⟩ := own_store hi hy0 hv2 (u := u) (off := p * szi + b) (by rw [hs, hsz, C.cells hdt]) hfit h1 hy1
  have hbase := R.base id hlive g (by rw [hh]; exact .inr ⟨i, hin, hho, hbl⟩)
  refine ⟨_, by rw [e2, addr_lit, Nat.zero_add]; exact hrun, ?_⟩
  have hne : ∀ b', b' ≠ g → (w.setRow g cur').heap[b']? = w.heap[b']? := fun b' hb' => setRow_other w g b' _ hb'
  refine R.setG id _ _ (below_setRow C g _ hbase.1) hlive (fun b' hb' _ => hne b' (fun e => hb' (by rw [hh, e]; exact .inr ⟨i, hin, hho, hbl⟩))) (by rw [hh]; exact ⟨rfl, rfl, rfl, rfl, rfl⟩) (fun g' hg' => by rw [hh]; exact hg') ?_
  intro r ok hr hok hwb
  refine ⟨hosz, ⟨xs, ownsRow_keep hxs (fun g' hg' => hne g' (fun e => hout g' hg' (e ▸ hbl))), hx1, fun i' j' hi' hj' hne' => ?_, hinn⟩, fun i' hi' hh' => ?_, hap⟩
  · obtain ⟨cv, c1, c3⟩ := hc0 i' j' hi' hj' hne'
    exact ⟨cv, c1, VR.mono hok hwb _ _ _ _ (fun _ _ h => h) c3⟩
  · by_cases hii : i' = i
    · subst hii
      refine ⟨hout, _, hown', hone', fun a2 b2 ha2 hb2 => ?_⟩
      rw [hthree]
      have hiff := row_split (i := p) (j := b) (i' := a2) (j' := b2) (len := u.cells.toList.length) (by omega) hb2
      unfold updIn updRow
      rw [if_pos rfl]
      by_cases hin2 : a2 = p ∧ b ≤ b2 ∧ b2 < b + l.length
      · rw [if_pos hin2, if_pos (hiff.mpr (by rw [hul]; exact hin2))]
        have hlt : b2 - b < l.length := by omega
        obtain ⟨cv, c1, c2, c3⟩ := hc (b2 - b) l[b2 - b] (List.getElem?_eq_getElem hlt)
        refine ⟨cv, ?_, ?_⟩
        · have : a2 * szi + b2 - (p * szi + b) = b2 - b := by rw [hin2.1]; omega
          rw [this]; simpa using c1
        · rw [List.getD, List.getElem?_eq_getElem hlt]
          exact VR.mono hok hwb _ _ _ _ (fun _ _ h => h) (noRef_ok (List.all_eq_true.mp hnr _ (List.getElem_mem hlt)) c3)
      · rw [if_neg hin2, if_neg (fun h' => hin2 (by rw [← hul]; exact hiff.mp h'))]
        obtain ⟨cv, c1, c3⟩ := hyc a2 b2 ha2 hb2
        exact ⟨cv, c1, VR.mono hok hwb _ _ _ _ (fun _ _ h => h) c3⟩
    · obtain ⟨hout2, ys2, hy2, hy21, hyc2⟩ := hrows i' hi' hh'
      refine ⟨hout2, ys2, ownsRow_keep hy2 (fun g' hg' => hne g' (fun e => hap i' i hi' hin hii hh' hho g' hg' (e ▸ hbl))), hy21, fun a2 b2 ha2 hb2 => ?_⟩
      unfold updIn
      rw [if_neg hii]
      obtain ⟨cv, c1, c3⟩ := hyc2 a2 b2 ha2 hb2
      exact ⟨cv, c1, VR.mono hok hwb _ _ _ _ (fun _ _ h => h) c3⟩

theorem store_outer (R : Rel C env h ι a w) {t : TypeId} {dt : TypeDesc} (hdt : C.T.underlying t = some dt) {id i sz j e sz0 n o ei szi : Nat} {get0 : Nat → Nat → AV} {len : Nat → Nat} {get : Nat → Nat → Nat → AV} {hole : Option Nat} {y : AV} {v u : Value} {l : List AV}
    (hx : VR w (okB C h ι w) (.radr id sz i j) (rf h ι) v) (hh : h id = .mat e sz0 n get0 o ei szi len get hole) (hy : VR w (okB C h ι w) y (rf h ι) u) (hl : cellsAV y = some l)
    (hsz : l.length = C.T.cellsOf t) (hle : j + l.length ≤ sz) (hnr : l.all noRef = true) (hoff : o < j ∨ j + l.length ≤ o) :
    ∃ w', (Instr.storeAt t v u).run C.P w = .ok () w' ∧ Rel C env (upd h id (.mat e sz0 n (updRow get0 i j l) o ei szi len get hole)) ι a w' := by
  obtain ⟨hs, hc⟩ := cellsAV_ok R hl hy
  have h1 := cells_one R hl hy
  obtain ⟨inf, hi⟩ := info_some (C.und hdt)
  obtain ⟨g, nn, cc, e1, e2, h3⟩ := hx
  rw [hh] at h3
  obtain ⟨rfl, hin⟩ := h3
  have hlive : h id ≠ .dead := by rw [hh]; simp
  have ho := R.obj id
  rw [hh] at ho
  obtain ⟨hosz, ⟨xs, hxs, hx1, hc0, hinn⟩, hrows, hap⟩ := ho
  have hul : u.cells.toList.length = l.length := by simp [hs]
  have hbl : blk (ι id 0) = some g := by rw [e1]; rfl
  have hv2 : ι id 0 = .slice (some ⟨g, 0, none⟩) n cc := by
    rcases hxs.2 with ⟨hv, _⟩ | ⟨g', cap, cur, hv, _⟩
    · rw [e1] at hv; cases hv
    · rw [e1] at hv; cases hv; exact e1
  have hfit : i * sz0 + j + u.cells.size ≤ n * sz0 := by
    have := Nat.mul_le_mul_right sz0 (show i + 1 ≤ n by omega)
    rw [Nat.add_mul] at this
    rw [hs]; omega
  obtain ⟨cur', hrun, hown', hone', hthree⟩ := own_store hi hxs hv2 (u := u) (off := i * sz0 + j) (by rw [hs, hsz, C.cells hdt]) hfit h1 hx1
  have hbase := R.base id hlive g (owns_zero hbl)
  refine ⟨_, by rw [e2, addr_lit, Nat.zero_add]; exact hrun, ?_⟩
  have hne : ∀ b', b' ≠ g → (w.setRow g cur').heap[b']? = w.heap[b']? := fun b' hb' => setRow_other w g b' _ hb'
  refine R.setG id _ _ (below_setRow C g _ hbase.1) hlive (fun b' hb' _ => hne b' (fun e => hb' (owns_zero (e ▸ hbl)))) (by rw [hh]; exact ⟨rfl, rfl, rfl, rfl, rfl⟩) (fun g' hg' => by rw [hh]; exact hg') ?_
  intro r ok hr hok hwb
  have hsplit : ∀ i2 j2, j2 < sz0 → (i * sz0 + j ≤ i2 * sz0 + j2 ∧ i2 * sz0 + j2 < i * sz0 + j + u.cells.toList.length ↔ i2 = i ∧ j ≤ j2 ∧ j2 < j + u.cells.toList.length) := fun i2 j2 hj2 => row_split (by omega) hj2
  refine ⟨hosz, ⟨_, hown', hone', fun i2 j2 hi2 hj2 hne2 => ?_, fun i2 hi2 hh2 => ?_⟩, fun i2 hi2 hh2 => ?_, hap⟩
  · rw [hthree]
    unfold updRow
    by_cases hin2 : i2 = i ∧ j ≤ j2 ∧ j2 < j + l.length
    · rw [if_pos hin2, if_pos ((hsplit i2 j2 hj2).mpr (by rw [hul]; exact hin2))]
      have hlt : j2 - j < l.length := by omega
      obtain ⟨cv, c1, c2, c3⟩ := hc (j2 - j) l[j2 - j] (List.getElem?_eq_getElem hlt)
      refine ⟨cv, ?_, ?_⟩
      · have : i2 * sz0 + j2 - (i * sz0 + j) = j2 - j := by rw [hin2.1]; omega
        rw [this]; simpa using c1
      · rw [List.getD, List.getElem?_eq_getElem hlt]
        exact VR.mono hok hwb _ _ _ _ (fun _ _ h => h) (noRef_ok (List.all_eq_true.mp hnr _ (List.getElem_mem hlt)) c3)
    · rw [if_neg hin2, if_neg (fun h' => hin2 (by rw [← hul]; exact (hsplit i2 j2 hj2).mp h'))]
      obtain ⟨cv, c1, c3⟩ := hc0 i2 j2 hi2 hj2 hne2
      exact ⟨cv, c1, VR.mono hok hwb _ _ _ _ (fun _ _ h => h) c3⟩
  · rw [hthree, if_neg (fun h' => by have := (hsplit i2 o hosz).mp h'; rw [hul] at this; omega)]
    exact hinn i2 hi2 hh2
  · obtain ⟨hout2, ys2, hy2, hy21, hyc2⟩ := hrows i2 hi2 hh2
    refine ⟨hout2, ys2, ownsRow_keep hy2 (fun g' hg' => hne g' (fun e => hout2 g hbl (e ▸ hg'))), hy21, fun a2 b2 ha2 hb2 => ?_⟩
    obtain ⟨cv, c1, c3⟩ := hyc2 a2 b2 ha2 hb2
    exact ⟨cv, c1, VR.mono hok hwb _ _ _ _ (fun _ _ h => h) c3⟩

def plugL (f : Nat → Value) (i : Nat) (v : Value) : Nat → Value := fun k => if k = i + 1 then v else f k
theorem plugL_here (f : Nat → Value) (i : Nat) (v : Value) : plugL f i v (i + 1) = v := if_pos rfl
theorem plugL_other (f : Nat → Value) (i : Nat) (v : Value) {k : Nat} (h : k ≠ i) : plugL f i v (k + 1) = f (k + 1) := if_neg (by omega)
theorem plugL_zero (f : Nat → Value) (i : Nat) (v : Value) : plugL f i v 0 = f 0 := if_neg (by omega)
def nilsL (v : Value) : Nat → Value := fun k => if k = 0 then v else .slice none 0 0
theorem nilsL_succ (v : Value) (k : Nat) : nilsL v (k + 1) = .slice none 0 0 := if_neg (by omega)
theorem nilsL_zero (v : Value) : nilsL v 0 = v := rfl

/-- An own row goes into its place among the others. -/
theorem plug (R : Rel C env h ι a w) {t : TypeId} {dt : TypeDesc} (hdt : C.T.underlying t = some dt) {id i sz o e sz0 n ei szi q m : Nat} {get0 : Nat → Nat → AV} {len : Nat → Nat} {get : Nat → Nat → Nat → AV} {hole : Option Nat} {getq : Nat → Nat → AV} {v u : Value}
    (hx : VR w (okB C h ι w) (.radr id sz i o) (rf h ι) v) (hh : h id = .mat e sz0 n get0 o ei szi len get hole) (hy : u = ι q 0) (hq : h q = .row ei szi m getq) (hne : q ≠ id) (h1t : C.T.cellsOf t = 1) (hhole : ∀ k, k ≠ i → hole ≠ some k) :
    ∃ w', (Instr.storeAt t v u).run C.P w = .ok () w' ∧
      Rel C (scrubIE id env) (upd (upd (scrubIH id h) q .dead) id (.mat e sz0 n get0 o ei szi (updIn len i m) (updIn get i getq) none)) (upd ι id (plugL (ι id) i (ι q 0))) a w' := by
  obtain ⟨inf, hi⟩ := info_some (C.und hdt)
  obtain ⟨g, nn, cc, e1, e2, h3⟩ := hx
  rw [hh] at h3
  obtain ⟨rfl, hin⟩ := h3
  have hlive : h id ≠ .dead := by rw [hh]; simp
  have hliveq : h q ≠ .dead := by rw [hq]; simp
  have ho := R.obj id
  rw [hh] at ho
  obtain ⟨hosz, ⟨xs, hxs, hx1, hc0, hinn⟩, hrows, hap⟩ := ho
  have hoq := R.obj q
  rw [hq] at hoq
  obtain ⟨zs, hzs, hz1, hzc⟩ := hoq
  have hu1 : u.oneCell' = true := by rw [hy]; exact R.one q 0
  have hcells : u.cells = #[u] := oneCell_cells hu1
  have hbl : blk (ι id 0) = some g := by rw [e1]; rfl
  have hv2 : ι id 0 = .slice (some ⟨g, 0, none⟩) n cc := by
    rcases hxs.2 with ⟨hv, _⟩ | ⟨g', cap, cur, hv, _⟩
    · rw [e1] at hv; cases hv
    · rw [e1] at hv; cases hv; exact e1
  have hfit : i * sz0 + o + u.cells.size ≤ n * sz0 := by
    have := Nat.mul_le_mul_right sz0 (show i + 1 ≤ n by omega)
    rw [Nat.add_mul] at this
    rw [hcells]; simp only [Array.size_singleton]; simp at this ⊢; omega
  obtain ⟨cur', hrun, hown', hone', hthree⟩ := own_store hi hxs hv2 (u := u) (off := i * sz0 + o) (by rw [hcells, ← C.cells hdt] at *; simp [h1t]) hfit (by rw [hcells]; simpa using hu1) hx1
  have hbase := R.base id hlive g (owns_zero hbl)
  have hqb : ∀ g', blk (ι q 0) = some g' → owns (h q) (ι q) g' := fun g' hg' => owns_zero hg'
  have hqg : ∀ g', blk (ι q 0) = some g' → g' ≠ g := fun g' hg' e => R.apart q id hliveq hlive hne g' (hqb g' hg') (owns_zero (by rw [e]; exact hbl))
  have hneb : ∀ b', b' ≠ g → (w.setRow g cur').heap[b']? = w.heap[b']? := fun b' hb' => setRow_other w g b' _ hb'
  have hsub : ∀ g', owns (.mat e sz0 n get0 o ei szi (updIn len i m) (updIn get i getq) none) (plugL (ι id) i (ι q 0)) g' → owns (h id) (ι id) g' ∨ owns (h q) (ι q) g' := by
    intro g' hg'
    rcases hg' with hg' | ⟨k, hk, _, hg'⟩
    · left; exact owns_zero (by rw [plugL_zero] at hg'; exact hg')
    · by_cases hki : k = i
      · subst hki
        rw [plugL_here] at hg'
        exact .inr (hqb g' hg')
      · rw [plugL_other _ _ _ hki] at hg'
        left; rw [hh]; exact .inr ⟨k, hk, hhole k hki, hg'⟩
  refine ⟨_, by rw [e2, addr_lit, Nat.zero_add]; exact hrun, ?_⟩
  have := R.remake (scrubI_scr id) id q (.mat e sz0 n get0 o ei szi (updIn len i m) (updIn get i getq) none) (plugL (ι id) i (ι q 0)) (w.setRow g cur') (below_setRow C g _ hbase.1)
    (fun b hb => hneb b (fun e' => hb.2.2 id hlive (owns_zero (e' ▸ hbl))))
    (fun id2 hd hz hl g' hg' => hneb g' (fun e' => R.apart id2 id hl hlive hd g' hg' (owns_zero (e' ▸ hbl))))
    (fun k => by unfold plugL; split <;> first | exact R.one q 0 | exact R.one id k)
    (fun g' hg' => by rcases hsub g' hg' with h' | h' <;> first | (have := R.base id hlive g' h'; exact ⟨this.1, by simpa using this.2⟩) | (have := R.base q hliveq g' h'; exact ⟨this.1, by simpa using this.2⟩))
    (fun g' hg' hok => by rcases hsub g' hg' with h' | h' <;> first | exact hok.2.2 id hlive h' | exact hok.2.2 q hliveq h')
    (fun id2 hd hz hl g' hg' hg2 => by rcases hsub g' hg2 with h' | h' <;> first | exact R.apart id2 id hl hlive hd g' hg' h' | exact R.apart id2 q hl hliveq hz g' hg' h')
    (fun hok x v hr => rf_scrubI (z := q) (fun id2 hd => upd_other _ _ hd) (by rw [upd_same, plugL_zero]) (fun id2 hd => by
      rw [upd_other _ _ hd]
      by_cases hz : id2 = q
      · subst hz; rw [upd_same]; exact .inl rfl
      · rw [upd_other _ _ hz]; exact .inr rfl) (by rw [upd_same, hh]; exact ⟨rfl, rfl⟩) hr)
    (fun hok => ?_)
  · exact this.1
  · have hwb : ∀ b, okB C h ι w b → (w.setRow g cur').heap[b]? = w.heap[b]? := fun b hb => hneb b (fun e' => hb.2.2 id hlive (owns_zero (e' ▸ hbl)))
    have hul : u.cells.toList.length = 1 := by rw [hcells]; rfl
    have hsplit : ∀ i2 j2, j2 < sz0 → (i * sz0 + o ≤ i2 * sz0 + j2 ∧ i2 * sz0 + j2 < i * sz0 + o + u.cells.toList.length ↔ i2 = i ∧ o ≤ j2 ∧ j2 < o + u.cells.toList.length) := fun i2 j2 hj2 => row_split (by omega) hj2
    refine ⟨hosz, ⟨_, hown', hone', fun i2 j2 hi2 hj2 hne2 => ?_, fun i2 hi2 _ => ?_⟩, fun i2 hi2 _ => ?_, fun i2 i3 hi2 hi3 hne2 _ _ g' hg' => ?_⟩
    · rw [hthree, if_neg (fun h' => by have := (hsplit i2 j2 hj2).mp h'; omega)]
      obtain ⟨cv, c1, c3⟩ := hc0 i2 j2 hi2 hj2 hne2
      exact ⟨cv, c1, VR.mono hok hwb _ _ _ _ (fun _ _ h => h) c3⟩
    · rw [hthree]
      by_cases hii : i2 = i
      · subst hii
        rw [if_pos (by omega), plugL_here, Nat.sub_self, hcells, ← hy]; rfl
      · rw [if_neg (fun h' => hii ((hsplit i2 o hosz).mp h').1), plugL_other _ _ _ hii]
        exact hinn i2 hi2 (hhole i2 hii)
    · by_cases hii : i2 = i
      · subst hii
        unfold updIn
        rw [plugL_here, plugL_zero, if_pos rfl, if_pos rfl]
        refine ⟨fun g1 hg1 hg2 => ?_, zs, ownsRow_keep hzs (fun g' hg' => hneb g' (hqg g' hg')), hz1, fun a2 b2 ha2 hb2 => ?_⟩
        · have : g1 = g := by
            rw [hbl] at hg1; cases hg1; rfl
          exact hqg g1 hg2 this
        · obtain ⟨cv, c1, c3⟩ := hzc a2 b2 ha2 hb2
          exact ⟨cv, c1, VR.mono hok hwb _ _ _ _ (fun _ _ h => h) c3⟩
      · obtain ⟨hout2, ys2, hy2, hy21, hyc2⟩ := hrows i2 hi2 (hhole i2 hii)
        unfold updIn
        rw [plugL_other _ _ _ hii, plugL_zero, if_neg hii, if_neg hii]
        refine ⟨fun g1 hg1 => hout2 g1 hg1, ys2, ownsRow_keep hy2 (fun g' hg' => hneb g' (fun e => hout2 g hbl (e ▸ hg'))), hy21, fun a2 b2 ha2 hb2 => ?_⟩
        obtain ⟨cv, c1, c3⟩ := hyc2 a2 b2 ha2 hb2
        exact ⟨cv, c1, VR.mono hok hwb _ _ _ _ (fun _ _ h => h) c3⟩
    · by_cases h2i : i2 = i
      · subst h2i
        rw [plugL_here] at hg'
        rw [plugL_other _ _ _ (fun e => hne2 e.symm)]
        intro hg3
        exact R.apart q id hliveq hlive hne g' (hqb g' hg') (by rw [hh]; exact .inr ⟨i3, hi3, hhole i3 (by omega), hg3⟩)
      · rw [plugL_other _ _ _ h2i] at hg'
        by_cases h3i : i3 = i
        · subst h3i
          rw [plugL_here]
          intro hg3
          exact R.apart q id hliveq hlive hne g' (hqb g' hg3) (by rw [hh]; exact .inr ⟨i2, hi2, hhole i2 h2i, hg'⟩)
        · rw [plugL_other _ _ _ h3i]
          exact hap i2 i3 hi2 hi3 hne2 (hhole i2 h2i) (hhole i3 h3i) g' hg'

theorem astoreM_ok (R : Rel C env h ι a w) {t : TypeId} {x y : AV} {v u : Value} {K : Env → Heap → Prop} {stop : Prop} (hx : VR w (okB C h ι w) x (rf h ι) v) (hy : VR w (okB C h ι w) y (rf h ι) u)
    (hk : astoreM C.T t x y env h K stop) : stop ∨ ∃ w' env' h' ι', (Instr.storeAt t v u).run C.P w = .ok () w' ∧ Rel C env' h' ι' a w' ∧ K env' h' := by
  unfold astoreM at hk
  split at hk
  · rename_i dt hdt
    split at hk
    · rename_i id i sz p b
      split at hk
      · rename_i e sz0 n get0 o ei szi len get hole l hh hl
        cases hb : (Nat.beq l.length (C.T.cellsOf t) && Nat.ble (b + l.length) sz && l.all noRef) with
        | false => rw [hb] at hk; exact .inl hk
        | true =>
          rw [hb, cond_true] at hk
          simp only [Bool.and_eq_true] at hb
          obtain ⟨w', hr, R'⟩ := store_madr R hdt hx hh hy hl (Nat.eq_of_beq_eq_true hb.1.1) (Nat.ble_eq ▸ hb.1.2) hb.2
          exact .inr ⟨w', _, _, _, hr, R', hk⟩
      · exact .inl hk
    · rename_i id sz i j
      split at hk
      · rename_i e sz0 n get0 o ei szi len get hole hh
        split at hk
        · rename_i q
          split at hk
          · rename_i eq szq m getq hq
            cases hb : (Nat.beq j o && Nat.beq (C.T.cellsOf t) 1 && Nat.beq eq ei && Nat.beq szq szi && !Nat.beq q id) with
            | false => rw [hb] at hk; exact .inl hk
            | true =>
              rw [hb, cond_true] at hk
              simp only [Bool.and_eq_true, Bool.not_eq_true'] at hb
              obtain ⟨⟨⟨⟨h1, h2⟩, h3⟩, h4⟩, h5⟩ := hb
              have e1 := Nat.eq_of_beq_eq_true h1
              have e3 := Nat.eq_of_beq_eq_true h3
              have e4 := Nat.eq_of_beq_eq_true h4
              subst e1; subst e3; subst e4
              obtain ⟨w', hr, R'⟩ := plug R hdt hx hh (show u = ι q 0 from hy) hq (fun e => by rw [e, Nat.beq_refl] at h5; cases h5) (Nat.eq_of_beq_eq_true h2) (fun k _ => by simp)
              exact .inr ⟨w', _, _, _, hr, R', hk⟩
          · rename_i eq szq m getq i' hq
            cases hb : (Nat.beq j o && Nat.beq (C.T.cellsOf t) 1 && Nat.beq eq ei && Nat.beq szq szi && !Nat.beq q id) with
            | false => rw [hb] at hk; exact .inl hk
            | true =>
              rw [hb, cond_true] at hk
              simp only [Bool.and_eq_true, Bool.not_eq_true'] at hb
              obtain ⟨⟨⟨⟨h1, h2⟩, h3⟩, h4⟩, h5⟩ := hb
              have e1 := Nat.eq_of_beq_eq_true h1
              have e3 := Nat.eq_of_beq_eq_true h3
              have e4 := Nat.eq_of_beq_eq_true h4
              subst e1; subst e3; subst e4
              obtain ⟨hi', hk⟩ := hk
              obtain ⟨w', hr, R'⟩ := plug R hdt hx hh (show u = ι q 0 from hy) hq (fun e => by rw [e, Nat.beq_refl] at h5; cases h5) (Nat.eq_of_beq_eq_true h2) (fun k hk' e => by injection e with e; omega)
              exact .inr ⟨w', _, _, _, hr, R', hk⟩
          · exact .inl hk
        · split at hk
          · rename_i l hl
            cases hb : (Nat.beq l.length (C.T.cellsOf t) && Nat.ble (j + l.length) sz && l.all noRef && (Nat.blt o j || Nat.ble (j + l.length) o)) with
            | false => rw [hb] at hk; exact .inl hk
            | true =>
              rw [hb, cond_true] at hk
              simp only [Bool.and_eq_true, Bool.or_eq_true] at hb
              obtain ⟨w', hr, R'⟩ := store_outer R hdt hx hh hy hl (Nat.eq_of_beq_eq_true hb.1.1.1) (Nat.ble_eq ▸ hb.1.1.2) hb.1.2 (hb.2.imp (fun h => by simpa [Nat.blt_eq] using h) (fun h => Nat.ble_eq ▸ h))
              exact .inr ⟨w', _, _, _, hr, R', hk⟩
          · exact .inl hk
      · exact .inl hk
    · exact .inl hk
  · exact .inl hk

/-- A row of empty slices, told as nested rows. -/
theorem Rel.asMat (R : Rel C env h ι a w) (id o ei szi : Nat) {e sz n : Nat} {get : Nat → Nat → AV} (hh : h id = .row e sz n get) (ho : o < sz) (hn : ∀ i, i < n → get i o = .nils) :
    Rel C (scrubIE id env) (upd (upd (scrubIH id h) id .dead) id (.mat e sz n get o ei szi (fun _ => 0) (fun _ _ _ => .u) none)) (upd ι id (nilsL (ι id 0))) a w := by
  have hlive : h id ≠ .dead := by rw [hh]; simp
  have hob := R.obj id
  rw [hh] at hob
  obtain ⟨xs, hxs, hx1, hxc⟩ := hob
  have hsub : ∀ g', owns (.mat e sz n get o ei szi (fun _ => 0) (fun _ _ _ => .u) none) (nilsL (ι id 0)) g' → owns (h id) (ι id) g' := by
    intro g' hg'
    rcases hg' with hg' | ⟨k, hk, _, hg'⟩
    · exact owns_zero hg'
    · rw [nilsL_succ] at hg'; cases hg'
  refine (R.remake (scrubI_scr id) id id (.mat e sz n get o ei szi (fun _ => 0) (fun _ _ _ => .u) none) (nilsL (ι id 0)) w (Below.refl _ _) (fun _ _ => rfl) (fun _ _ _ _ _ _ => rfl)
    (fun k => by unfold nilsL; split <;> first | exact R.one id 0 | rfl) (fun g' hg' => R.base id hlive g' (hsub g' hg')) (fun g' hg' hok => hok.2.2 id hlive (hsub g' hg'))
    (fun id2 hd _ hl g' hg' hg2 => R.apart id2 id hl hlive hd g' hg' (hsub g' hg2))
    (fun hok x v hr => rf_scrubI (z := id) (fun id2 hd => upd_other _ _ hd) (by rw [upd_same]; rfl) (fun id2 hd => by rw [upd_other _ _ hd, upd_other _ _ hd]; exact .inr rfl) (by rw [upd_same, hh]; exact ⟨rfl, rfl⟩) hr) (fun hok => ?_)).1
  refine ⟨ho, ⟨xs, hxs, hx1, fun i j hi hj hne => ?_, fun i hi _ => ?_⟩, fun i hi _ => ⟨fun g _ hg2 => ?_, [], ?_, by simp, fun a2 b2 ha2 => absurd ha2 (Nat.not_lt_zero _)⟩, fun i i' hi hi' _ _ _ g hg => ?_⟩
  · obtain ⟨cv, c1, c3⟩ := hxc i j hi hj
    exact ⟨cv, c1, VR.mono hok (fun _ _ => rfl) _ _ _ _ (fun _ _ h => h) c3⟩
  · obtain ⟨cv, c1, c3⟩ := hxc i o hi ho
    rw [hn i hi] at c3
    have : cv = .slice none 0 0 := c3
    rw [nilsL_succ, c1, this]
  · rw [nilsL_succ] at hg2; cases hg2
  · rw [nilsL_succ]; exact ownsX_nil w C.B ei szi
  · rw [nilsL_succ] at hg; cases hg

def isM (h : Heap) (x : AV) : Bool := match x with
  | .madr .. => true
  | .radr id _ _ _ => match h id with
    | .mat .. => true
    | _ => false
  | _ => false
def astoreA (P : TT) (t : TypeId) (x y : AV) (env : Env) (h : Heap) (K : Env → Heap → Prop) (stop : Prop) : Prop :=
  cond (isM h x) (astoreM P t x y env h K stop) (astore P h t x y (fun h' => K env h') stop)
theorem astoreA_ok (R : Rel C env h ι a w) {t : TypeId} {x y : AV} {v u : Value} {K : Env → Heap → Prop} {stop : Prop} (hx : VR w (okB C h ι w) x (rf h ι) v) (hy : VR w (okB C h ι w) y (rf h ι) u)
    (hk : astoreA C.T t x y env h K stop) : stop ∨ ∃ w' env' h' ι', (Instr.storeAt t v u).run C.P w = .ok () w' ∧ Rel C env' h' ι' a w' ∧ K env' h' := by
  unfold astoreA at hk
  cases hb : isM h x with
  | true => rw [hb] at hk; exact astoreM_ok R hx hy hk
  | false =>
    rw [hb] at hk
    rcases astore_ok (K := fun env h _ => K env h) R hx hy hk with hk | ⟨w', h', hr, R', hk⟩
    · exact .inl hk
    · exact .inr ⟨w', _, _, _, hr, R', hk⟩
end

end Go.Proofs.YtfodjmemdkibpaaDoor.V

namespace Go.Proofs.YtfodjmemdkibpaaDoor.V
open Go Go.RowKit
set_option linter.unusedSimpArgs false
set_option linter.unusedVariables false

def arange (P : TT) (t : TypeId) (d : Nat) (x : AV) (env : Env) (h : Heap) (K : Env → Heap → AV → Prop) (stop : Prop) : Prop :=
  match P.underlying t, x with
  | some .string, .str s => K (scrubE d env) (upd (upd (scrubH d h) d .dead) d (.iter s 0)) (.obj d)
  | _, _ => stop

/-- The next rune: where it stands, which it is. -/
def nextAV (s : ByteArray) (p : Nat) : AV := .tup 3 (fun j => match j with | 0 => .tt | 1 => .int .i64 p | _ => .int .i32 (Utf8.decode s p).1)
def anext (x : AV) (b : Bool) (h : Heap) (K : Heap → AV → Prop) (stop : Prop) : Prop :=
  match x, b with
  | .obj id, true => match h id with
    | .iter s p => AskB (decide (p < s.size)) (K (upd h id (.iter s (p + (Utf8.decode s p).2))) (nextAV s p)) (K h (.tup 1 (fun _ => .ff)))
    | _ => stop
  | _, _ => stop

section
variable {C : Ctx} {env : Env} {h : Heap} {ι : Loc} {a : Act} {w : World}

theorem arange_ok (R : Rel C env h ι a w) {t d : Nat} {x : AV} {v : Value} {K : Env → Heap → AV → Prop} {stop : Prop} (hx : VR w (okB C h ι w) x (rf h ι) v) (hk : arange C.T t d x env h K stop) : stop ∨ Out C a w (Instr.range t v) K := by
  unfold arange at hk
  split at hk
  · rename_i s ht
    obtain ⟨rfl, _⟩ : v = .string s ∧ s.size ≤ maxLen := hx
    have R' := (R.make d d (.iter s 0) (.pointer (some ⟨w.heap.size, 0, none⟩)) (w.alloc (.stringIter s 0)) (below_alloc C R.below _) (fun b hb => Below.heap_alloc _ _ _ hb.1)
      (fun id _ _ hl g hg => Below.heap_alloc _ _ _ (R.base id hl g hg).2) rfl (fun g hg => by cases hg; exact ⟨R.below.size, by simp⟩)
      (fun g hg hb => by cases hg; exact absurd hb.1 (Nat.lt_irrefl _)) (fun id _ _ hl g hg e => by cases e; exact absurd (R.base id hl _ hg).2 (Nat.lt_irrefl _))
      (fun ok r hok hS hr => ⟨_, rfl, heap_alloc_new w _⟩)).1
    refine .inr ⟨.pointer (some ⟨w.heap.size, 0, none⟩), _, _, _, _, _, ?_, R', ?_, hk⟩
    · simp [Instr.range, run_underlying (C.und ht), newObj, Sem.run]
    · show _ = upd ι d _ d 0
      rw [upd_same]
  · exact .inl hk

theorem anext_ok (R : Rel C env h ι a w) {x : AV} {b : Bool} {t : TypeId} {v : Value} {K : Env → Heap → AV → Prop} {stop : Prop} (hx : VR w (okB C h ι w) x (rf h ι) v) (hk : anext x b h (K env) stop) : stop ∨ Out C a w (Instr.next v b t) K := by
  unfold anext at hk
  split at hk
  · rename_i id
    split at hk
    · rename_i s p hh
      have ho := R.obj id
      rw [hh] at ho
      obtain ⟨g, hι, hg⟩ := ho
      have hv : v = .pointer (some ⟨g, 0, none⟩) := (show v = ι id 0 from hx).trans hι
      subst hv
      have hl : h id ≠ .dead := by rw [hh]; simp
      have hb := R.base id hl g (owns_zero (by rw [hι]; rfl))
      by_cases hp : p < s.size
      · have hk := hk.t (decide_eq_true hp)
        have hne : ∀ b, b ≠ g → (w.heap.setIfInBounds g (.stringIter s (p + (Utf8.decode s p).2)))[b]? = w.heap[b]? := fun b hb => by rw [Array.getElem?_setIfInBounds, if_neg (Ne.symm hb)]
        have R' : Rel C env (upd h id (.iter s (p + (Utf8.decode s p).2))) ι a { w with heap := w.heap.setIfInBounds g (.stringIter s (p + (Utf8.decode s p).2)) } := by
          refine R.set id (.iter s (p + (Utf8.decode s p).2)) _ ⟨rfl, rfl, rfl, by simp, fun k hk => hne k (by have := hb.1; omega)⟩ hl (fun b hb' _ => hne b (hb' g (by rw [hι]; rfl))) (by trivial) (fun r ok _ _ _ => ⟨g, hι, ?_⟩)
          show (w.heap.setIfInBounds g _)[g]? = _
          rw [Array.getElem?_setIfInBounds, if_pos rfl, if_pos hb.2]
        refine .inr ⟨.tuple #[.bool true, goInt p, .int .i32 (Utf8.decode s p).1], _, ι, env, _, _, ?_, R', ?_, hk⟩
        · simp [Instr.next, getObj, setObj, Sem.run, hg, hp]
        · refine ⟨_, rfl, rfl, fun j hj => ?_⟩
          match j, hj with
          | 0, _ => exact ⟨_, rfl, rfl⟩
          | 1, _ => exact ⟨_, rfl, rfl⟩
          | 2, _ => exact ⟨_, rfl, rfl⟩
      · have hk := hk.f (decide_eq_false hp)
        refine .inr ⟨.tuple #[.bool false], w, ι, env, h, _, ?_, R, ?_, hk⟩
        · simp [Instr.next, getObj, setObj, Sem.run, hg, hp]
        · refine ⟨_, rfl, rfl, fun j hj => ?_⟩
          match j, hj with
          | 0, _ => exact ⟨_, rfl, rfl⟩
    · exact .inl hk
  · exact .inl hk
end

end Go.Proofs.YtfodjmemdkibpaaDoor.V

namespace Go.Proofs.YtfodjmemdkibpaaDoor.V
open Go Go.RowKit
set_option linter.unusedSimpArgs false
set_option linter.unusedVariables false
section
variable {C : Ctx} {env : Env} {h : Heap} {ι : Loc} {a : Act} {w : World}
/-- Appending a text's bytes to an own row of bytes. -/
def aappSTo (P : TT) (d z e n : Nat) (get : Nat → Nat → AV) (s : ByteArray) (env : Env) (h : Heap) (K : Env → Heap → AV → Prop) : Prop :=
  Need (n + s.size ≤ 140737488355328) (K (scrubE d env) (upd (upd (scrubH d h) z .dead) d (.row e 1 (n + s.size) (joinRow n get (fun i _ => .int .u8 (bt s i))))) (.row d))
def aappS (P : TT) (t t2 d : Nat) (s x : AV) (env : Env) (h : Heap) (K : Env → Heap → AV → Prop) (stop : Prop) : Prop :=
  match P.underlying t, P.underlying t2, x with
  | some (.slice e), some .string, .str b => match P.zero e, P.one e, Nat.beq (P.cellsOf e) 1 && Nat.beq (P.bytesOf e) 1 with
    | some [.int .u8 0], true, true => match s with
      | .nils => aappSTo P d d e 0 (fun _ _ => .u) b env h K
      | .row z => match h z with
        | .row e' sz n get => cond (Nat.beq e e' && Nat.beq sz 1) (aappSTo P d z e n get b env h K) stop
        | _ => stop
      | _ => stop
    | _, _, _ => stop
  | _, _, _ => stop

theorem appS_block {B t u ty e n : Nat} {v v' : Value} {w w' : World} {P : Program} {i : TypeInfo} {xs : List Value} {s : ByteArray} (ht : P.underlying t = some (.slice e)) (hu : P.underlying u = some .string)
    (hi : P.info? e = some i) (hz : i.zero = some (.int .u8 0)) (hsz : i.size = 1) (hby : i.bytes = 1) (hown : ownsX w B e 1 v n xs) (hle : n + s.size ≤ 140737488355328)
    (hr : (Builtin.append_ #[t, u] ty #[v, .string s]).run P w = .ok v' w') : blk v' = blk v ∨ ∀ g, blk v' = some g → w.heap.size ≤ g := by
  rcases hown.2 with ⟨rfl, rfl⟩ | ⟨g, cap, cur, rfl, hbg, hg, hnc, hcm, hcs, htake⟩
  · by_cases hm : s.size = 0
    · have hf := Lib.run_firstCells_string (P := P) w 1 s
      rw [hm] at hf
      have h3 : (Builtin.append_ #[t, u] ty #[.slice none 0 0, .string s]).run P w = .ok (.slice none 0 0) w := by
        simp [Builtin.append_, run_underlying ht, run_underlying hu, sizeOf, typeInfo, hi, hsz, Builtin.lenOf, hm, hf]
      rw [h3] at hr; cases hr; exact .inl rfl
    · have h3 := run_append_nil_string (P := P) w t u ty e i (.int .u8 0) ht hu hi hz s (by omega) (by omega) (by rw [hby]; omega)
      rw [h3] at hr; cases hr
      exact .inr (fun g hg => by cases hg; exact Nat.le_refl _)
  · by_cases hroom : n + s.size ≤ cap
    · have h3 := run_append_room_stringX (P := P) w t u ty e i ht hu hi hsz g n cap cur hg s hroom (by rw [hcs]; omega)
      rw [h3] at hr; cases hr; exact .inl rfl
    · have holds : ∀ (j : Nat) (u : Value), xs[j]? = some u → w.cell? ((⟨g, 0, none⟩ : Addr).add j) = some u := hown.cells (g := g) rfl
      have h3 := Lib.run_append_grow_string (P := P) w t u ty e i (.int .u8 0) ht hu hi hz ⟨g, 0, none⟩ n cap xs (by rw [hsz]; exact hown.1) holds s (by omega) (by omega) (growslice_fits (by omega) (by rw [hby]; omega))
      rw [h3] at hr; cases hr
      exact .inr (fun g hg => by cases hg; exact Nat.le_refl _)

theorem aappSTo_ok (R : Rel C env h ι a w) {t t2 d z e n : Nat} (ty : TypeId) {get : Nat → Nat → AV} {s : ByteArray} {v : Value} {xs : List Value} {K : Env → Heap → AV → Prop} (ht : C.T.underlying t = some (.slice e)) (hu : C.T.underlying t2 = some .string)
    (hzl : C.T.zero e = some [.int .u8 0]) (hone : C.T.one e = true) (hc1 : C.T.cellsOf e = 1) (hb1 : C.T.bytesOf e = 1)
    (hown : ownsX w C.B e 1 v n xs) (hx1 : ∀ u ∈ xs, u.oneCell' = true) (hxc : ∀ i j, i < n → j < 1 → ∃ cv, xs[i * 1 + j]? = some cv ∧ VR w (okB C h ι w) (get i j) noref cv)
    (hz : (v = .slice none 0 0) ∨ (h z ≠ .dead ∧ v = ι z 0)) (hk : aappSTo C.T d z e n get s env h K) :
    Out C a w (Builtin.append_ #[t, t2] ty #[v, .string s]) K := by
  obtain ⟨hle, hk⟩ := hk
  obtain ⟨i, zv, hi, hzz, hzs, hzc⟩ := zeroL_ok (C.zeroes hzl).1
  have hsz : i.size = 1 := by rw [← hc1, ← (C.zeroes hzl).2.1]; simp [Program.cellsOf, hi]
  have hbyt : i.bytes = 1 := by rw [← hb1, ← (C.zeroes hzl).2.2]; simp [Program.bytesOf, hi]
  have hzv : zv = .int .u8 0 := by
    have h5 := C.ones hone
    obtain ⟨c, c1, c2, c3⟩ := hzc w (fun _ => True) noref 0 (.int .u8 0) rfl
    have hc : c = .int .u8 0 := c3
    subst hc
    cases zv with
    | agg cs => unfold zeroOne at h5; rw [hi] at h5; simp [hzz] at h5
    | tuple cs => first | (unfold zeroOne at h5; rw [hi] at h5; simp [hzz, Value.cells] at c1 h5; done) | (simp [Value.cells] at c1; exact c1)
    | _ => simp [Value.cells] at c1 <;> first | exact c1 | (cases c1; rfl) | (subst c1; rfl) | (obtain ⟨rfl, rfl⟩ := c1; rfl)
  rw [hzv] at hzz
  obtain ⟨v', w', h1, h2, h3⟩ := run_append_own_stringX (P := C.P) w C.B t t2 ty e i (C.und ht) (C.und hu) hi hzz hsz hbyt v n xs hown s (by simp only [maxLen]; omega) hle R.below.size
  have hblk := appS_block (C.und ht) (C.und hu) hi hzz hsz hbyt hown hle h1
  have R' := R.appended d z e 1 n s.size get (fun i _ => .int .u8 (bt s i)) v v' w' xs (Lib.strCells s) hown hx1 hxc hz h2 h3 hblk (Lib.strCells_oneCell s) (fun i j hi hj => by
    have : j = 0 := by omega
    subst this
    refine ⟨.int .u8 (bt s i), ?_, rfl⟩
    have hlt : i < s.data.toList.length := by simpa using hi
    unfold Lib.strCells bt
    rw [Nat.mul_one, Nat.add_zero, List.getElem?_map, List.getElem?_eq_getElem hlt, List.getD, List.getElem?_eq_getElem hlt]; rfl) _ (fun i j _ _ => rfl)
  exact ⟨v', w', _, _, _, _, h1, R', by show v' = upd ι d (fun _ => v') d 0; rw [upd_same], hk⟩
theorem aappS_ok (R : Rel C env h ι a w) {t t2 d : Nat} (ty : TypeId) {s x : AV} {v u : Value} {K : Env → Heap → AV → Prop} {stop : Prop} (hs : VR w (okB C h ι w) s (rf h ι) v) (hx : VR w (okB C h ι w) x (rf h ι) u)
    (hk : aappS C.T t t2 d s x env h K stop) : stop ∨ Out C a w (Builtin.append_ #[t, t2] ty #[v, u]) K := by
  unfold aappS at hk
  split at hk
  · rename_i e b ht hu
    split at hk
    · rename_i hz ho hcb
      rw [Bool.and_eq_true] at hcb
      have hc1 := Nat.eq_of_beq_eq_true hcb.1
      have hb1 := Nat.eq_of_beq_eq_true hcb.2
      obtain ⟨rfl, hbs⟩ := hx
      split at hk
      · have hv : v = .slice none 0 0 := hs
        subst hv
        exact .inr (aappSTo_ok R ty ht hu hz ho hc1 hb1 (ownsX_nil w C.B e 1) (by simp) (fun i j hi => by omega) (.inl rfl) hk)
      · rename_i z
        split at hk
        · rename_i e' sz n get hh
          cases hb2 : (Nat.beq e e' && Nat.beq sz 1) with
          | false => rw [hb2] at hk; exact .inl hk
          | true =>
            rw [hb2, cond_true] at hk
            rw [Bool.and_eq_true] at hb2
            have e1 : e = e' := Nat.eq_of_beq_eq_true hb2.1
            have e2 : sz = 1 := Nat.eq_of_beq_eq_true hb2.2
            subst e1; subst e2
            have ho2 := R.obj z
            rw [hh] at ho2
            obtain ⟨xs, hown, hone, hcells⟩ := ho2
            have hv : v = ι z 0 := hs
            subst hv
            exact .inr (aappSTo_ok R ty ht hu hz ho hc1 hb1 hown hone hcells (.inr ⟨by rw [hh]; simp, rfl⟩) hk)
        · exact .inl hk
      · exact .inl hk
    · exact .inl hk
  · exact .inl hk

/-! ### unsafe.SliceData, of an own row -/
def asliceData (P : TT) (h : Heap) (ty : TypeId) (x : AV) (K : AV → Prop) (stop : Prop) : Prop :=
  match P.underlying ty, x with
  | some (.pointer _), .nils => K .nilp
  | some (.pointer _), .row q => match h q with
    | .row _ sz n _ => AskB (decide (n = 0)) (K .ptr) (K (.radr q sz 0 0))
    | _ => stop
  | _, _ => stop
theorem asliceData_ok (R : Rel C env h ι a w) {t ty : TypeId} {x : AV} {v : Value} {K : Env → Heap → AV → Prop} {stop : Prop} (hx : VR w (okB C h ι w) x (rf h ι) v)
    (hk : asliceData C.T h ty x (K env h) stop) : stop ∨ Out C a w (Builtin.unsafeSliceData_ #[t] ty #[v]) K := by
  unfold asliceData at hk
  split at hk
  · have hv : v = .slice none 0 0 := hx
    subst hv
    exact .inr (Out.same R hk (Lib.run_unsafeSliceData_nil w _ _ _ _) rfl)
  · rename_i e q hu
    split at hk
    · rename_i e' sz n get hh
      have ho := R.obj q
      rw [hh] at ho
      obtain ⟨xs, hown, hone, hcells⟩ := ho
      have hv : v = ι q 0 := hx
      by_cases hn : n = 0
      · have hk' := hk.t (decide_eq_true hn)
        rcases hown.2 with ⟨hv0, _⟩ | ⟨g, cap, cur, hv0, hB, hg, _⟩
        · subst hv; rw [hv0]
          exact .inr (Out.same R hk' (Lib.run_unsafeSliceData_nil w _ _ _ _) ⟨_, rfl⟩)
        · subst hv; rw [hv0]
          by_cases hc : cap = 0
          · subst hc
            have hr := Lib.run_unsafeSliceData_zero (P := C.P) w #[t] ty e (C.und hu) ⟨g, 0, none⟩ n (e', cur.size) hg.shape
            exact .inr ⟨_, _, ι, env, h, .ptr, hr, R.grow (Below.alloc (Below.refl _ _) (Nat.le_refl _) _), ⟨_, rfl⟩, hk'⟩
          · exact .inr (Out.same R hk' (Lib.run_unsafeSliceData_row w _ _ _ _ _ hc) ⟨_, rfl⟩)
      · have hk' := hk.f (decide_eq_false hn)
        rcases hown.2 with ⟨hv0, h0⟩ | ⟨g, cap, cur, hv0, hB, hg, hnc, _⟩
        · exact absurd h0 hn
        · subst hv; rw [hv0]
          refine .inr (Out.same R hk' (Lib.run_unsafeSliceData_row w _ _ _ _ _ (by omega)) ⟨g, n, cap, hv0, by simp [Addr.add], ?_⟩)
          rw [hh]
          exact ⟨rfl, by omega⟩
    · exact .inl hk
  · exact .inl hk
end
end Go.Proofs.YtfodjmemdkibpaaDoor.V

namespace Go.Proofs.YtfodjmemdkibpaaDoor.V
open Go Go.RowKit
set_option linter.unusedSimpArgs false
set_option linter.unusedVariables false

def eqC (T : TT) (t : TypeId) (x y : AV) : Option Bool := match T.underlying t with
  | some (.int _) => (match x, y with | .int k a, .int k' b => if k = k' then some (decide (a = b)) else none | _, _ => none)
  | some .string => (match x, y with | .str a, .str b => some (decide (a = b)) | _, _ => none)
  | some .bool => (match avB x, avB y with | some a, some b => some (a == b) | _, _ => none)
  | _ => none
def eqFs (T : TT) (n n' : Nat) (g g' : Nat → AV) : List Field → Option Bool
  | [] => some true
  | f :: fs => match cond (Nat.blt f.offset n && Nat.blt f.offset n') (eqC T f.type (g f.offset) (g' f.offset)) none, eqFs T n n' g g' fs with
    | some a, some b => some (a && b)
    | _, _ => none
/-- Pointers: against nil; one place against itself. -/
def eqP (T : TT) (t : TypeId) (x y : AV) : Option Bool := match T.underlying t with
  | some (.pointer e) => (match x, y with
    | .nilp, .nilp => some true
    | .box _ _, .nilp => some false
    | .box i a, .box j b => cond (Nat.beq i j && Nat.beq a b) (match T.zero e with | some _ => some true | none => none) none
    | _, _ => none)
  | _ => none
def aeqT (T : TT) (t : TypeId) (op : BinOp) (x y : AV) : Option AV := match eqP T t x y with
  | some b => (match op with
    | .eql => some (if b then .tt else .ff)
    | .neq => some (if b then .ff else .tt)
    | _ => none)
  | none => match x, y with
  | .agg n g, .agg n' g' => match T.underlying t, T.peq t with
    | some (.struct fs), true => (match eqFs T n n' g g' fs.toList, op with
      | some b, .eql => some (.bool b)
      | some b, .neq => some (.bool !b)
      | _, _ => none)
    | _, _ => none
  | _, _ => none

theorem eqC_ok {C : Ctx} {t : TypeId} {x y : AV} {v u : Value} {b : Bool} {w : World} {ok : Nat → Prop} {r : Ref} (d : Nat) (h : eqC C.T t x y = some b) (hx : VR w ok x r v) (hy : VR w ok y r u) :
    (Op.equalIn (d + 1) t v u).run C.P w = .ok b w ∧ isAggT C.T t = some false := by
  unfold eqC at h
  split at h
  · rename_i k0 hd
    split at h
    · rename_i k a k' b'
      split at h
      · rename_i e
        subst e
        cases h
        cases hx; cases hy
        exact ⟨run_equalIn_int w d t _ _ _ _ (C.und hd), by unfold isAggT; rw [hd]⟩
      · cases h
    · cases h
  · rename_i hd
    split at h
    · cases h
      obtain ⟨rfl, _⟩ := hx
      obtain ⟨rfl, _⟩ := hy
      exact ⟨by rw [run_equalIn_string w d t _ _ (C.und hd), bytes_eq], by unfold isAggT; rw [hd]⟩
    · cases h
  · rename_i hd
    split at h
    · rename_i a b' h1 h2
      cases h
      have := avB_ok h1 hx; subst this
      have := avB_ok h2 hy; subst this
      exact ⟨run_equalIn_bool' w d t _ _ (C.und hd), by unfold isAggT; rw [hd]⟩
    · cases h
  · cases h

theorem eqFs_ok {C : Ctx} {n n' : Nat} {g g' : Nat → AV} {xs ys : Array Value} {w : World} {ok : Nat → Prop} {r : Ref} (d : Nat) (hx : VR w ok (.agg n g) r (.agg xs)) (hy : VR w ok (.agg n' g') r (.agg ys)) :
    ∀ (fs : List Field) (b : Bool), (fs.all (fun f => f.name != "_")) = true → eqFs C.T n n' g g' fs = some b → (Op.eqFields (d + 1) xs ys fs).run C.P w = .ok b w := by
  obtain ⟨cs, e1, s1, c1⟩ := hx
  obtain ⟨cs', e2, s2, c2⟩ := hy
  cases e1; cases e2
  intro fs
  induction fs with
  | nil => intro b _ h; cases h; rfl
  | cons f fs ih =>
    intro b hn h
    rw [List.all_cons, Bool.and_eq_true] at hn
    unfold eqFs at h
    cases hc : (Nat.blt f.offset n && Nat.blt f.offset n') with
    | false => rw [hc] at h; simp at h
    | true =>
      rw [hc, cond_true] at h
      rw [Bool.and_eq_true, Nat.blt_eq, Nat.blt_eq] at hc
      cases h1 : eqC C.T f.type (g f.offset) (g' f.offset) with
      | none => rw [h1] at h; simp at h
      | some b1 =>
        cases h2 : eqFs C.T n n' g g' fs with
        | none => rw [h1, h2] at h; simp at h
        | some b2 =>
          rw [h1, h2] at h
          cases h
          obtain ⟨x, x1, x2, x3⟩ := c1 f.offset hc.1
          obtain ⟨y, y1, y2, y3⟩ := c2 f.offset hc.2
          obtain ⟨q1, q2⟩ := eqC_ok d h1 x3 y3
          have hne : f.name ≠ "_" := by simpa using hn.1
          have p1 : (part f.type xs f.offset).run C.P w = .ok x w := by
            unfold part
            rw [Sem.run_bind, run_isAgg q2]
            simp [x1]
          have p2 : (part f.type ys f.offset).run C.P w = .ok y w := by
            unfold part
            rw [Sem.run_bind, run_isAgg q2]
            simp [y1]
          unfold Op.eqFields
          rw [if_pos hne, Sem.run_bind, p1]
          simp only [Result.andThen_ok]
          rw [Sem.run_bind, p2]
          simp only [Result.andThen_ok]
          rw [Sem.run_bind, q1]
          simp only [Result.andThen_ok]
          cases b1
          · rfl
          · simpa using ih b2 hn.2 h2

theorem run_eqGuard_ptr {P : Program} (w : World) (op : BinOp) (t : TypeId) (x y : Operand) (a b : Option Addr) : (eqGuard op t x y (.pointer a) (.pointer b)).run P w = .ok () w := by
  cases op <;> simp [eqGuard]
theorem eqP_ok {C : Ctx} {t : TypeId} {x y : AV} {v u : Value} {b : Bool} {w : World} {ok : Nat → Prop} {hp : Heap} {ι : Loc} (h : eqP C.T t x y = some b) (hx : VR w ok x (rf hp ι) v) (hy : VR w ok y (rf hp ι) u) :
    (∃ a c, v = .pointer a ∧ u = .pointer c) ∧ (binOp .eql t v u).run C.P w = .ok (.bool b) w ∧ (binOp .neq t v u).run C.P w = .ok (.bool (!b)) w := by
  unfold eqP at h
  split at h
  · rename_i e hd
    have hu := C.und hd
    have hu2 : C.P.underlying t = some (.pointer (C.P.pointee t)) := by
      have : C.P.pointee t = e := by unfold Program.pointee; rw [hu]
      rw [this]; exact hu
    split at h
    · cases h; cases hx; cases hy
      exact ⟨⟨_, _, rfl, rfl⟩, run_eql_pointer_nil w t none hu2, run_neq_pointer_nil w t none hu2⟩
    · cases h; cases hy
      obtain ⟨g, h1, rfl⟩ := hx
      exact ⟨⟨_, _, rfl, rfl⟩, run_eql_pointer_nil w t (some _) hu2, run_neq_pointer_nil w t (some _) hu2⟩
    · rename_i i a j b'
      cases hb : (Nat.beq i j && Nat.beq a b') with
      | false => rw [hb] at h; cases h
      | true =>
        rw [hb, cond_true] at h
        rw [Bool.and_eq_true] at hb
        have e1 := Nat.eq_of_beq_eq_true hb.1
        have e2 := Nat.eq_of_beq_eq_true hb.2
        subst e1; subst e2
        split at h
        · rename_i l hz
          cases h
          obtain ⟨g, h1, rfl⟩ := hx
          obtain ⟨g', h1', rfl⟩ := hy
          rw [h1] at h1'
          cases h1'
          obtain ⟨ti, zv, hi, _⟩ := zeroL_ok (C.zeroes hz).1
          have hn := Lib.run_neq_ptr_same w ((⟨g, 0, none⟩ : Addr).add a) hu hi
          refine ⟨⟨_, _, rfl, rfl⟩, ?_, hn⟩
          have h2 : ∀ d : Nat, (Op.equalIn (d + 1) t (.pointer (some ((⟨g, 0, none⟩ : Addr).add a))) (.pointer (some ((⟨g, 0, none⟩ : Addr).add a)))).run C.P w = .ok true w := fun d => by
            simp [Op.equalIn, run_underlying hu, sizeOf, typeInfo, hi, run_sameAddr_same]
          simp only [binOp]
          simp [Op.equal, Op.maxDepth, h2 9999]
        · cases h
    · cases h
  · cases h

theorem aeqT_ok {C : Ctx} {t : TypeId} {op : BinOp} {x y z : AV} {v u : Value} {w : World} {ok : Nat → Prop} {hp : Heap} {ι : Loc} (h : aeqT C.T t op x y = some z) (hx : VR w ok x (rf hp ι) v) (hy : VR w ok y (rf hp ι) u) (X Y : Operand) :
    ∃ m, (do eqGuard op t X Y v u; binOp op t v u : Sem Value).run C.P w = .ok m w ∧ VR w ok z (rf hp ι) m := by
  unfold aeqT at h
  split at h
  · rename_i b hb
    split at h
    · cases h
      obtain ⟨⟨a, c, rfl, rfl⟩, h1, _⟩ := eqP_ok hb hx hy
      refine ⟨.bool b, ?_, ?_⟩
      · rw [Sem.run_bind, run_eqGuard_ptr]; simp only [Result.andThen_ok]; exact h1
      · cases b <;> rfl
    · cases h
      obtain ⟨⟨a, c, rfl, rfl⟩, _, h1⟩ := eqP_ok hb hx hy
      refine ⟨.bool (!b), ?_, ?_⟩
      · rw [Sem.run_bind, run_eqGuard_ptr]; simp only [Result.andThen_ok]; exact h1
      · cases b <;> rfl
    · cases h
  split at h
  · rename_i n g n' g'
    split at h
    · rename_i fs hd hp
      have hx0 := hx
      have hy0 := hy
      obtain ⟨xs, e1, _, _⟩ := hx0
      obtain ⟨ys, e2, _, _⟩ := hy0
      subst e1; subst e2
      have hq : peqP C.P t = true := by
        unfold TT.peq at hp
        cases hg : C.T.get t with
        | none => rw [hg] at hp; cases hp
        | some ti => rw [hg] at hp; exact C.tok.pe t ti hg hp
      have hu := C.und hd
      unfold peqP at hq
      rw [hu] at hq
      simp only [Bool.and_eq_true, Bool.not_eq_true'] at hq
      obtain ⟨⟨hn, hs⟩, heq⟩ := hq
      have hfo : C.P.fieldsOf t = fs := by unfold Program.fieldsOf; rw [hu]
      have hst : C.P.underlying t = some (.struct (C.P.fieldsOf t)) := by rw [hfo]; exact hu
      have hg := run_eqGuard_agg w op t X Y xs ys heq
      split at h
      · rename_i b hb
        cases h
        refine ⟨.bool b, ?_, rfl⟩
        rw [Sem.run_bind, hg]
        simp only [Result.andThen_ok]
        rw [run_eql_struct, run_equalIn_agg w 9999 t xs ys hst hs, hfo, eqFs_ok 9998 hx hy fs.toList b hn hb]
        rfl
      · rename_i b hb
        cases h
        refine ⟨.bool !b, ?_, rfl⟩
        rw [Sem.run_bind, hg]
        simp only [Result.andThen_ok]
        rw [run_neq_struct, run_equalIn_agg w 9999 t xs ys hst hs, hfo, eqFs_ok 9998 hx hy fs.toList b hn hb]
        rfl
      · cases h
    · cases h
  · cases h
end Go.Proofs.YtfodjmemdkibpaaDoor.V

namespace Go.Proofs.YtfodjmemdkibpaaDoor.V
open Go Go.RowKit
set_option linter.unusedSimpArgs false
set_option linter.unusedVariables false

/-- From every world that fits the abstract state, the frame comes to an end as it should. -/
structure Run (C : Ctx) (k : List Item) (env : Env) (h : Heap) : Prop where
  run : ∀ ι a w (b : Frame) cs, b.fn = C.f → b.kind = .normal → Rel C env h ι a w →
    ∃ e w' fr, C.R e w' ∧ Comes C.P (lone (b.at a k) cs w) (lone fr cs w') e ∧ fr.fn = C.f ∧ fr.leaving C.P w' e

def aun (op : UnOp) (x : AV) (K : AV → Prop) (stop : Prop) : Prop :=
  match op, x with
  | .not, .tt => K .ff
  | .not, .ff => K .tt
  | .not, .bool b => K (.bool (!b))
  | .neg, .int k n => K (.int k (k.wrap (0 - n)))
  | .xor, .int k n => K (.int k (k.wrap ((BitVec.ofInt k.bits (if k.signed then -1 else k.max)) ^^^ (BitVec.ofInt k.bits n)).toNat))
  | _, _ => stop

/-- How long the slice is that is held against nil. -/
def nilLen (h : Heap) : AV → Option Nat
  | .sl n _ _ => some n
  | .row id => match h id with
    | .row _ _ n _ => some n
    | .mat _ _ n _ _ _ _ _ _ _ => some n
    | _ => none
  | .mrow id i => match h id with
    | .mat _ _ _ _ _ _ _ len _ _ => some (len i)
    | _ => none
  | _ => none
def nilOf (T : TT) (h : Heap) (t : TypeId) (x y : AV) : Option Nat := match y with
  | .nils => match T.underlying t with
    | some (.slice _) => nilLen h x
    | _ => none
  | _ => none
def anil (op : BinOp) (n : Nat) (K : AV → Prop) (stop : Prop) : Prop := match op with
  | .eql => Any fun b => (b = true → n = 0) → K (.bool b)
  | .neq => Any fun b => (b = false → n = 0) → K (.bool b)
  | _ => stop

def pairs (env : Env) (ps : Array (Nat × Operand)) : List (Nat × AV) := ps.toList.map fun p => (p.1, ev env p.2)

/-- The same, each value looked at. -/
def fpairs (env : Env) : List (Nat × Operand) → (List (Nat × AV) → Prop) → Prop
  | [], K => K []
  | p :: r, K => fv (ev env p.2) fun x => fpairs env r fun l => K ((p.1, x) :: l)
theorem fpairs_eq (env : Env) : ∀ (ps : List (Nat × Operand)) (K : List (Nat × AV) → Prop), fpairs env ps K = K (ps.map fun p => (p.1, ev env p.2))
  | [], K => rfl
  | p :: r, K => by unfold fpairs; rw [fv_eq, fpairs_eq env r]; rfl

def aop (C : Ctx) (o : Oper) (env : Env) (h : Heap) (K : Env → Heap → AV → Prop) (stop : Prop) : Prop :=
  match o.op with
  | .move x => K env h (ev env x)
  | .assign x => K env h (ev env x)
  | .pick c x y => match ev env c with
    | .tt => K env h (ev env x)
    | .ff => K env h (ev env y)
    | .bool b => AskB b (K env h (ev env x)) (K env h (ev env y))
    | _ => stop
  | .box t x => match o.dst with | some d => fv (ev env x) fun x => abox t d x env h K stop | none => stop
  | .alloc t => match o.dst with | some d => aalloc C.T t d env h K stop | none => stop
  | .build t ps => fpairs env ps.toList fun l => abuild C.T t l (K env h) stop
  | .buildSlice t n ps => match o.dst with | some d => fpairs env ps.toList fun l => abuildSlice C.T t d n l env h K stop | none => stop
  | .load t x => aload C.T h t (ev env x) (K env h) stop
  | .store t x y => fv (ev env y) fun y => astoreA C.T t (ev env x) y env h (fun env' h' => K env' h' .u) stop
  | .nilCheck x => match ev env x with
    | .iadr m g => K env h (.iadr m g)
    | .radr a b c d => K env h (.radr a b c d)
    | .box a b => K env h (.box a b)
    | _ => stop
  | .binOp op t x y _ => match nilOf C.T h t (ev env x) (ev env y) with
    | some n => anil op n (K env h) stop
    | none => match aeqT C.T t op (ev env x) (ev env y) with
      | some z => K env h z
      | none => match avB (ev env x) with
        | some _ => cond (boolTy C.T t) (abin op (ev env x) (ev env y) (K env h) stop) stop
        | none => abin op (ev env x) (ev env y) (K env h) stop
  | .unOp op _ x => aun op (ev env x) (K env h) stop
  | .convert s d x => aconvert C.T s d (ev env x) (K env h) stop
  | .makeSlice t l c => match o.dst with | some d => amake C.T t d (ev env l) (ev env c) env h K stop | none => stop
  | .slice t x lo hi none => aslice C.T t (ev env x) (lo.map (ev env)) (hi.map (ev env)) (K env h) stop
  | .fieldAddr s x f => afieldAddr C.T s (ev env x) f (K env h) stop
  | .field s x f => afield C.T s (ev env x) f (K env h) stop
  | .indexAddr t x i => aindexAddr C.T h t (ev env x) (ev env i) (K env h) stop
  | .index t x i => aindex C.T t (ev env x) (ev env i) (K env h) stop
  | .extract x i => aextract (ev env x) i (K env h) stop
  | .makeMap t none => match o.dst with | some d => amakeMap C.T t d env h K stop | none => stop
  | .range t x => match o.dst with | some d => arange C.T t d (ev env x) env h K stop | none => stop
  | .next x b => anext (ev env x) b h (K env) stop
  | .lookup t x k c => alookup C.T h t (ev env x) (ev env k) c (K env h) stop
  | .mapUpdate t x k v => aupdate C.T h t (ev env x) (ev env k) (ev env v) (fun h' => K env h' .u) stop
  | .insert t x k v => aupdate C.T h t (ev env x) (ev env k) (ev env v) (fun h' => K env h' .u) stop
  | .call c => match c.callee, c.args.toList, c.argTypes.toList with
    | .builtin .len, [x], [t] => alen C.T h t (ev env x) (K env h) stop
    | .builtin .unsafeSliceData, [x], [t] => asliceData C.T h o.type (ev env x) (K env h) stop
    | .builtin .append, [s, x], [t, t2] => match o.dst with | some d => cond (Nat.beq t t2) (aappend C.T t t2 d (ev env s) (ev env x) env h K stop) (aappS C.T t t2 d (ev env s) (ev env x) env h K stop) | none => stop
    | _, _, _ => stop
  | _ => stop

/-- What one operation does, said of the model's own run. -/
def OpOut (C : Ctx) (a : Act) (w : World) (o : Oper) (K : Env → Heap → AV → Prop) : Prop :=
  ∃ nx v w' ι' env' h' x, (execOp a.eval o).run C.P w = .ok nx w' ∧ (nx = .value v ∨ (nx = .skip ∧ v = undef)) ∧ Rel C env' h' ι' a w' ∧ VR w' (okB C h' ι' w') x (rf h' ι') v ∧ K env' h' x

section
variable {C : Ctx} {env : Env} {h : Heap} {ι : Loc} {a : Act} {w : World}

theorem OpOut.of {o : Oper} {s : Sem Value} {K : Env → Heap → AV → Prop} (he : execOp a.eval o = (do pure (.value (← s)) : Sem Next)) (hs : Out C a w s K) : OpOut C a w o K := by
  obtain ⟨v, w', ι', env', h', x, hr, R', hv, hk⟩ := hs
  exact ⟨.value v, v, w', ι', env', h', x, by rw [he]; simp [hr], .inl rfl, R', hv, hk⟩

theorem OpOut.same (R : Rel C env h ι a w) {o : Oper} {K : Env → Heap → AV → Prop} {x : AV} {v : Value} (hk : K env h x) (he : (execOp a.eval o).run C.P w = .ok (.value v) w) (hv : VR w (okB C h ι w) x (rf h ι) v) :
    OpOut C a w o K := ⟨.value v, v, w, ι, env, h, x, he, .inl rfl, R, hv, hk⟩

theorem pairs_ok (R : Rel C env h ι a w) (ps : Array (Nat × Operand)) : (pairs env ps).length = (ps.map fun (i, x) => (i, a.eval x)).size ∧
    ∀ (k : Nat) p q, (pairs env ps)[k]? = some p → (ps.map fun (i, x) => (i, a.eval x))[k]? = some q → p.1 = q.1 ∧ VR w (okB C h ι w) p.2 (rf h ι) q.2 := by
  refine ⟨by simp [pairs], fun k p q hp hq => ?_⟩
  simp only [pairs, List.getElem?_map, Array.getElem?_toList] at hp
  rw [Array.getElem?_map] at hq
  cases hk : ps[k]? with
  | none => rw [hk] at hp; cases hp
  | some r =>
    rw [hk] at hp hq
    cases hp; cases hq
    exact ⟨rfl, ev_ok R _⟩

theorem toList_two {α : Type} {a : Array α} {l : List α} (h : a.toList = l) : a = l.toArray := by
  rw [← h]

theorem aun_ok (R : Rel C env h ι a w) {op : UnOp} {x : AV} {v : Value} {K : AV → Prop} {stop : Prop} (hx : VR w (okB C h ι w) x (rf h ι) v) (hk : aun op x K stop) :
    stop ∨ ∃ z m, (Op.unary op v).run C.P w = .ok m w ∧ VR w (okB C h ι w) z (rf h ι) m ∧ K z := by
  unfold aun at hk
  split at hk
  · have e : v = .bool true := hx
    subst e; exact .inr ⟨.ff, .bool false, by simp [Op.unary], rfl, hk⟩
  · have e : v = .bool false := hx
    subst e; exact .inr ⟨.tt, .bool true, by simp [Op.unary], rfl, hk⟩
  · rename_i b
    have e : v = .bool b := hx
    subst e; exact got_bool hk (by simp [Op.unary])
  · rename_i k n
    have e : v = .int k n := hx
    subst e; exact got_int hk (by simp [Op.unary, Op.intArith])
  · rename_i k n
    have e : v = .int k n := hx
    subst e; exact got_int hk (by simp [Op.unary, Op.intBits])
  · exact .inl hk

theorem own_nil {w : World} {B e sz n : Nat} {v : Value} {xs : List Value} (h : ownsX w B e sz v n xs) : ∃ A c, v = .slice A n c ∧ (A.isNone = true → n = 0) := by
  rcases h.2 with ⟨rfl, hn⟩ | ⟨g, cap, cur, rfl, _⟩
  · exact ⟨none, 0, by rw [hn], fun _ => hn⟩
  · exact ⟨_, cap, rfl, fun e => by cases e⟩

theorem nilLen_ok (R : Rel C env h ι a w) {x : AV} {v : Value} {n : Nat} (hx : VR w (okB C h ι w) x (rf h ι) v) (hn : nilLen h x = some n) : ∃ A c, v = .slice A n c ∧ (A.isNone = true → n = 0) := by
  cases x with
  | sl n' sz get =>
    cases hn
    obtain ⟨A, c, e, h1, _, h3, _⟩ := hx
    refine ⟨A, c, e, fun hA => ?_⟩
    cases A with
    | none => have := h3 rfl; omega
    | some _ => cases hA
  | row id =>
    have ho := R.obj id
    have hv : v = ι id 0 := hx
    rw [hv]
    simp only [nilLen] at hn
    cases hh : h id with
    | row e sz m get => rw [hh] at hn ho; cases hn; obtain ⟨xs, hr, _⟩ := ho; exact own_nil hr
    | mat e sz m get0 o ei szi len get hole => rw [hh] at hn ho; cases hn; obtain ⟨_, ⟨xs, hr, _⟩, _⟩ := ho; exact own_nil hr
    | _ => rw [hh] at hn; cases hn
  | mrow id i =>
    have ho := R.obj id
    obtain ⟨hv, h3⟩ := hx
    rw [hv]
    simp only [nilLen] at hn
    cases hh : h id with
    | mat e sz m get0 o ei szi len get hole =>
      rw [hh] at hn ho h3; cases hn
      obtain ⟨_, _, hrows, _⟩ := ho
      obtain ⟨_, ys, hr, _⟩ := hrows i h3.1 h3.2
      exact own_nil hr
    | _ => rw [hh] at hn; cases hn
  | _ => cases hn

theorem anil_ok (R : Rel C env h ι a w) {op : BinOp} {t : TypeId} {x y : AV} {v u : Value} {n : Nat} {K : AV → Prop} {stop : Prop} (hx : VR w (okB C h ι w) x (rf h ι) v) (hy : VR w (okB C h ι w) y (rf h ι) u)
    (hn : nilOf C.T h t x y = some n) (X Y : Operand) (hk : anil op n K stop) :
    stop ∨ ∃ z m, (do eqGuard op t X Y v u; binOp op t v u : Sem Value).run C.P w = .ok m w ∧ VR w (okB C h ι w) z (rf h ι) m ∧ K z := by
  unfold nilOf at hn
  split at hn
  · split at hn
    · rename_i e ht
      obtain ⟨A, c, rfl, hA⟩ := nilLen_ok R hx hn
      have hu : u = .slice none 0 0 := hy
      subst hu
      unfold anil at hk
      split at hk
      · refine got_bool (hk.all A.isNone hA) ?_
        simp [eqGuard, binOp, run_equal_slice_nil w t e A n c (C.und ht)]
      · refine got_bool (hk.all (!A.isNone) (fun hb => hA (by simpa using hb))) ?_
        simp [eqGuard, run_neq_slice_nil w t e A n c (C.und ht)]
      · exact .inl hk
    · cases hn
  · cases hn

theorem aop_ok (R : Rel C env h ι a w) (o : Oper) {K : Env → Heap → AV → Prop} {stop : Prop} (hk : aop C o env h K stop) : stop ∨ OpOut C a w o K := by
  unfold aop at hk
  split at hk
  · rename_i x ho
    exact .inr (OpOut.same R hk (by simp [execOp, ho]) (ev_ok R x))
  · rename_i x ho
    exact .inr (OpOut.same R hk (by simp [execOp, ho]) (ev_ok R x))
  · rename_i c x y ho
    have hc := ev_ok R c
    split at hk
    · rename_i e
      rw [e] at hc
      have e2 : a.eval c = .bool true := hc
      exact .inr (OpOut.same R hk (by simp [execOp, ho, e2, asBool]) (ev_ok R x))
    · rename_i e
      rw [e] at hc
      have e2 : a.eval c = .bool false := hc
      exact .inr (OpOut.same R hk (by simp [execOp, ho, e2, asBool]) (ev_ok R y))
    · rename_i b e
      rw [e] at hc
      have e2 : a.eval c = .bool b := hc
      cases b with
      | true => exact .inr (OpOut.same R (hk.t rfl) (by simp [execOp, ho, e2, asBool]) (ev_ok R x))
      | false => exact .inr (OpOut.same R (hk.f rfl) (by simp [execOp, ho, e2, asBool]) (ev_ok R y))
    · exact .inl hk
  · rename_i t x ho
    split at hk
    · rw [fv_eq] at hk
      exact (abox_ok R (ev_ok R x) hk).imp id (OpOut.of (by simp [execOp, ho]))
    · exact .inl hk
  · rename_i t ho
    split at hk
    · exact (aalloc_ok R (.tuple #[]) hk).imp id (OpOut.of (by simp [execOp, ho]))
    · exact .inl hk
  · rename_i t ps ho
    rw [fpairs_eq] at hk
    obtain ⟨h1, h2⟩ := pairs_ok R ps
    exact (abuild_ok R h1 h2 hk).imp id (OpOut.of (by simp [execOp, ho]))
  · rename_i t n ps ho
    split at hk
    · rw [fpairs_eq] at hk
      obtain ⟨h1, h2⟩ := pairs_ok R ps
      exact (abuildSlice_ok R h1 h2 hk).imp id (OpOut.of (by simp [execOp, ho]))
    · exact .inl hk
  · rename_i t x ho
    exact (aload_ok R (ev_ok R x) hk).imp id (OpOut.of (by simp [execOp, ho]))
  · rename_i t x y ho
    rw [fv_eq] at hk
    rcases astoreA_ok R (ev_ok R x) (ev_ok R y) hk with hk | ⟨w', env', h', ι', hr, R', hk⟩
    · exact .inl hk
    · exact .inr ⟨.skip, undef, w', ι', env', h', .u, by simp [execOp, ho, hr], .inr ⟨rfl, rfl⟩, R', trivial, hk⟩
  · rename_i x ho
    have hx := ev_ok R x
    split at hk
    · rename_i m g e
      rw [e] at hx
      obtain ⟨ad, e2, hx2⟩ := hx
      exact .inr (OpOut.same R hk (by simp [execOp, ho, e2]) ⟨ad, rfl, hx2⟩)
    · rename_i b1 b2 b3 b4 e
      rw [e] at hx
      obtain ⟨g, n, c, h1, e2, hx2⟩ := hx
      exact .inr (OpOut.same R hk (by simp [execOp, ho, e2]) ⟨g, n, c, h1, rfl, hx2⟩)
    · rename_i b1 b2 e
      rw [e] at hx
      obtain ⟨g, h1, e2⟩ := hx
      exact .inr (OpOut.same R hk (by simp [execOp, ho, e2]) ⟨g, h1, rfl⟩)
    · exact .inl hk
  · rename_i op t x y ty ho
    have main : abin op (ev env x) (ev env y) (K env h) stop → (C.P.underlying t = some .bool ∨ avB (ev env x) = none) → stop ∨ OpOut C a w o K := by
      intro hk hb
      rcases abin_ok t hb hk (ev_ok R x) (ev_ok R y) x y with hk | ⟨z, m, hr, hz, hk⟩
      · exact .inl hk
      · refine .inr (OpOut.of (s := do eqGuard op t x y (a.eval x) (a.eval y); binOp op t (a.eval x) (a.eval y)) (by simp [execOp, ho]) (Out.same R hk hr hz))
    split at hk
    · rename_i n hn
      rcases anil_ok R (ev_ok R x) (ev_ok R y) hn x y hk with hk | ⟨z, m, hr, hz, hk⟩
      · exact .inl hk
      · exact .inr (OpOut.of (s := do eqGuard op t x y (a.eval x) (a.eval y); binOp op t (a.eval x) (a.eval y)) (by simp [execOp, ho]) (Out.same R hk hr hz))
    split at hk
    · rename_i z hz
      obtain ⟨m, hr, hv⟩ := aeqT_ok hz (ev_ok R x) (ev_ok R y) x y
      exact .inr (OpOut.of (s := do eqGuard op t x y (a.eval x) (a.eval y); binOp op t (a.eval x) (a.eval y)) (by simp [execOp, ho]) (Out.same R hk hr hv))
    split at hk
    · cases hb : boolTy C.T t with
      | false => rw [hb] at hk; exact .inl hk
      | true => rw [hb] at hk; exact main hk (.inl (boolTy_ok hb))
    · rename_i e; exact main hk (.inr e)
  · rename_i op t x ho
    rcases aun_ok R (ev_ok R x) hk with hk | ⟨z, m, hr, hz, hk⟩
    · exact .inl hk
    · exact .inr (OpOut.of (by simp [execOp, ho]) (Out.same R hk hr hz))
  · rename_i s d x ho
    exact (aconvert_ok R (ev_ok R x) hk).imp id (OpOut.of (by simp [execOp, ho]))
  · rename_i t l c ho
    split at hk
    · exact (amake_ok R (ev_ok R l) (ev_ok R c) hk).imp id (OpOut.of (by simp [execOp, ho]))
    · exact .inl hk
  · rename_i t x lo hi ho
    refine (aslice_ok R (lv := lo.map a.eval) (hv := hi.map a.eval) (ev_ok R x) ⟨by simp, ?_⟩ ⟨by simp, ?_⟩ hk).imp id (OpOut.of (by simp [execOp, ho]))
    · intro y u hy hu
      cases lo with
      | none => cases hy
      | some z => cases hy; cases hu; exact ev_ok R z
    · intro y u hy hu
      cases hi with
      | none => cases hy
      | some z => cases hy; cases hu; exact ev_ok R z
  · rename_i s x f ho
    exact (afieldAddr_ok R (ev_ok R x) hk).imp id (OpOut.of (by simp [execOp, ho]))
  · rename_i s x f ho
    exact (afield_ok R (ev_ok R x) hk).imp id (OpOut.of (by simp [execOp, ho]))
  · rename_i t x i ho
    exact (aindexAddr_ok R (ev_ok R x) (ev_ok R i) hk).imp id (OpOut.of (by simp [execOp, ho]))
  · rename_i t x i ho
    exact (aindex_ok R (ev_ok R x) (ev_ok R i) hk).imp id (OpOut.of (by simp [execOp, ho]))
  · rename_i x i ho
    exact (aextract_ok R (ev_ok R x) hk).imp id (OpOut.of (by simp [execOp, ho]))
  · rename_i t ho
    split at hk
    · exact (amakeMap_ok R hk).imp id (OpOut.of (by simp [execOp, ho]))
    · exact .inl hk
  · rename_i t x ho
    split at hk
    · exact (arange_ok R (ev_ok R x) hk).imp id (OpOut.of (by simp [execOp, ho]))
    · exact .inl hk
  · rename_i x b ho
    exact (anext_ok (t := o.type) R (ev_ok R x) hk).imp id (OpOut.of (by simp [execOp, ho]))
  · rename_i t x k c ho
    rcases alookup_ok R (ev_ok R x) (ev_ok R k) hk with hk | ⟨z, m, hr, hz, hk⟩
    · exact .inl hk
    · exact .inr (OpOut.of (by simp [execOp, ho]) (Out.same R hk hr hz))
  · rename_i t x k v ho
    rcases aupdate_ok R (ev_ok R x) (ev_ok R k) (ev_ok R v) hk with hk | ⟨w', h', hr, R', hk⟩
    · exact .inl hk
    · exact .inr ⟨.skip, undef, w', ι, env, h', .u, by simp [execOp, ho, hr], .inr ⟨rfl, rfl⟩, R', trivial, hk⟩
  · rename_i t x k v ho
    rcases aupdate_ok R (ev_ok R x) (ev_ok R k) (ev_ok R v) hk with hk | ⟨w', h', hr, R', hk⟩
    · exact .inl hk
    · exact .inr ⟨.skip, undef, w', ι, env, h', .u, by simp [execOp, ho, hr], .inr ⟨rfl, rfl⟩, R', trivial, hk⟩
  · rename_i c ho
    split at hk
    · rename_i x t e1 e2 e3
      have e2' := toList_two e2
      have e3' := toList_two e3
      refine (alen_ok R o.type (ev_ok R x) hk).imp id (OpOut.of ?_)
      simp [execOp, ho, resolve, e1, e2', e3', invoke, builtin]
    · rename_i x t e1 e2 e3
      have e2' := toList_two e2
      have e3' := toList_two e3
      refine (asliceData_ok R (t := t) (ev_ok R x) hk).imp id (OpOut.of ?_)
      simp [execOp, ho, resolve, e1, e2', e3', invoke, builtin]
    · rename_i s x t t2 e1 e2 e3
      have e2' := toList_two e2
      have e3' := toList_two e3
      split at hk
      · cases hbt : Nat.beq t t2 with
        | true =>
          rw [hbt, cond_true] at hk
          refine (aappend_ok R o.type (ev_ok R s) (ev_ok R x) hk).imp id (OpOut.of ?_)
          simp [execOp, ho, resolve, e1, e2', e3', invoke, builtin]
        | false =>
          rw [hbt, cond_false] at hk
          refine (aappS_ok R o.type (ev_ok R s) (ev_ok R x) hk).imp id (OpOut.of ?_)
          simp [execOp, ho, resolve, e1, e2', e3', invoke, builtin]
      · exact .inl hk
    · exact .inl hk
  · exact .inl hk
end

end Go.Proofs.YtfodjmemdkibpaaDoor.V

namespace Go.Proofs.YtfodjmemdkibpaaDoor.V
open Go Go.RowKit
set_option linter.unusedSimpArgs false
set_option linter.unusedVariables false

def isRange : Nat → Nat → List Nat → Bool
  | i, n, [] => Nat.beq i n
  | i, n, j :: l => Nat.beq i j && isRange (i + 1) n l

def dstOf (ops : Array Oper) (j : Nat) : Option Nat := (ops.toList[j]?).bind (·.dst)

/-- A region's operations from the i-th on. -/
def areg (C : Ctx) (E : List Item → Env → Heap → Prop) (ops : Array Oper) (k : List Item) : List Oper → Nat → Env → Heap → Prop
  | [], _, env, h => E k env h
  | o :: l, i, env, h =>
    match o.dst, o.guard with
    | none, none => aop C o env h (fun env' h' _ => areg C E ops k l (i + 1) env' h') (Run C (.inRegion ops (List.range' i (l.length + 1)) :: k) env h)
    | some d, none => cond (Nat.blt d C.N) (aop C o env h (fun env' h' x => fv x fun x => areg C E ops k l (i + 1) (upd env' d x) h') (Run C (.inRegion ops (List.range' i (l.length + 1)) :: k) env h)) (Run C (.inRegion ops (List.range' i (l.length + 1)) :: k) env h)
    | dst, some (j, want) => cond (okD C.N dst) (match dstOf ops j with
      | some g => match env g with
        | .tt => cond want (aop C o env h (fun env' h' x => fv x fun x => areg C E ops k l (i + 1) (putE env' dst x) h') (Run C (.inRegion ops (List.range' i (l.length + 1)) :: k) env h))
            (areg C E ops k l (i + 1) (putE env dst .sk) h)
        | .ff => cond want (areg C E ops k l (i + 1) (putE env dst .sk) h)
            (aop C o env h (fun env' h' x => fv x fun x => areg C E ops k l (i + 1) (putE env' dst x) h') (Run C (.inRegion ops (List.range' i (l.length + 1)) :: k) env h))
        | .bool b => AskB b
            (cond want (aop C o (upd env g .tt) h (fun env' h' x => fv x fun x => areg C E ops k l (i + 1) (putE env' dst x) h') (Run C (.inRegion ops (List.range' i (l.length + 1)) :: k) (upd env g .tt) h)) (areg C E ops k l (i + 1) (putE (upd env g .tt) dst .sk) h))
            (cond want (areg C E ops k l (i + 1) (putE (upd env g .ff) dst .sk) h) (aop C o (upd env g .ff) h (fun env' h' x => fv x fun x => areg C E ops k l (i + 1) (putE env' dst x) h') (Run C (.inRegion ops (List.range' i (l.length + 1)) :: k) (upd env g .ff) h)))
        | .sk => areg C E ops k l (i + 1) (putE env dst .sk) h
        | _ => Run C (.inRegion ops (List.range' i (l.length + 1)) :: k) env h
      | none => Run C (.inRegion ops (List.range' i (l.length + 1)) :: k) env h) (Run C (.inRegion ops (List.range' i (l.length + 1)) :: k) env h)

/-- A truth, once asked for, is known. -/
def toldE (c : Operand) (env : Env) (x : AV) : Env := match c with
  | .tmp t => upd env t x
  | _ => env
def astep (C : Ctx) (E : List Item → Env → Heap → Prop) : List Item → Env → Heap → Prop
  | [], env, h => Run C [] env h
  | .code (.seq x y) :: k, env, h => E (.code x :: .code y :: k) env h
  | .code .skip :: k, env, h => E k env h
  | .code (.label _) :: k, env, h => Run C k env h
  | .code (.cond c x y) :: k, env, h => match ev env c with
    | .tt => E (.code x :: k) env h
    | .ff => E (.code y :: k) env h
    | .bool b => AskB b (E (.code x :: k) (toldE c env .tt) h) (E (.code y :: k) (toldE c env .ff) h)
    | _ => Run C (.code (.cond c x y) :: k) env h
  | .code (.block id c) :: k, env, h => E (.code c :: .inBlock id :: k) env h
  | .code (.loop c) :: k, env, h => Run C (.code c :: .inLoop c :: k) env h
  | .inLoop c :: k, env, h => Run C (.code c :: .inLoop c :: k) env h
  | .code (.scope c) :: k, env, h => E (.code c :: .inScope c :: k) env h
  | .code (.exit id) :: k, env, h => match exitTo id k with
    | some k' => E k' env h
    | none => Run C (.code (.exit id) :: k) env h
  | .code (.goto l) :: k, env, h => match gotoIn l k with
    | some k' => Run C k' env h
    | none => Run C (.code (.goto l) :: k) env h
  | .code (.region id ops false) :: k, env, h => areg C E ops k ops.toList 0 env h
  | .inBlock _ :: k, env, h => E k env h
  | .inScope _ :: k, env, h => E k env h
  | .inRegion ops [] :: k, env, h => E k env h
  | .inRegion ops (i :: rest) :: k, env, h => cond (isRange i ops.size (i :: rest)) (areg C E ops k (ops.toList.drop i) i env h) (Run C (.inRegion ops (i :: rest) :: k) env h)
  | k, env, h => Run C k env h

def aexec (C : Ctx) : Nat → List Item → Env → Heap → Prop
  | 0 => Run C
  | n + 1 => astep C (aexec C n)

section
variable {C : Ctx} {env : Env} {h : Heap}

theorem Run.of_step {k : List Item} (hs : ∀ ι a w (b : Frame) cs, b.fn = C.f → Rel C env h ι a w → ∃ env' h' ι' a' w' k', Steps C.P (lone (b.at a k) cs w) (lone (b.at a' k') cs w') ∧ Rel C env' h' ι' a' w' ∧ Run C k' env' h') : Run C k env h :=
  ⟨fun ι a w b cs hb hkd R => by
    obtain ⟨env', h', ι', a', w', k', hst, R', hrun⟩ := hs ι a w b cs hb R
    obtain ⟨e, w2, fr, h1, h2, h3⟩ := hrun.run ι' a' w' b cs hb hkd R'
    exact ⟨e, w2, fr, h1, Comes.of_steps hst h2, h3⟩⟩

theorem Run.quiet {k k' : List Item} (hs : ∀ (b : Frame) a cs w, step C.P (lone (b.at a k) cs w) = .next (lone (b.at a k') cs w)) (hr : Run C k' env h) : Run C k env h :=
  Run.of_step fun ι a w b cs _ R => ⟨env, h, ι, a, w, k', .one (hs b a cs w), R, hr⟩

theorem step_scope {P : Program} {b : Frame} {a : Act} {k : List Item} {cs : List Frame} {w : World} {c : Code} :
    step P (lone (b.at a (.code (.scope c) :: k)) cs w) = .next (lone (b.at a (.code c :: .inScope c :: k)) cs w) :=
  step_lone_go (by simp [stepG, stepG.exec, Frame.at])
theorem step_inScope {P : Program} {b : Frame} {a : Act} {k : List Item} {cs : List Frame} {w : World} {c : Code} :
    step P (lone (b.at a (.inScope c :: k)) cs w) = .next (lone (b.at a k) cs w) :=
  step_lone_go (by simp [stepG, stepG.exec, Frame.at])

theorem step_op_ok {P : Program} {b : Frame} {a : Act} {k : List Item} {cs : List Frame} {w w' : World} {ops : Array Oper} {i : Nat} {rest : List Nat} {o : Oper} {nx : Next} {v : Value}
    (ho : ops[i]? = some o) (hw : Region.wanted o (yielded ops a.tmps) = true) (hr : (execOp a.eval o).run P w = .ok nx w') (hv : nx = .value v ∨ (nx = .skip ∧ v = undef)) :
    step P (lone (b.at a (.inRegion ops (i :: rest) :: k)) cs w) = .next (lone (b.at (a.put o.dst v) (.inRegion ops rest :: k)) cs w') := by
  have hg := stepG_op (P := P) (b := b) (k := k) (cs := cs) (w := w) (rest := rest) ho hw
  have hfin : (b.at a (.inRegion ops (i :: rest) :: k)).finish v = b.at (a.put o.dst v) (.inRegion ops rest :: k) := by
    rw [Frame.finish_at, ho]; rfl
  refine step_lone_go ?_
  rw [hg, ← hfin]
  rcases hv with rfl | ⟨rfl, rfl⟩ <;> simp [stepG.apply, hr]

theorem yield_of {ι : Loc} {a : Act} {w : World} (R : Rel C env h ι a w) {ops : Array Oper} {j d : Nat} {b : Bool} (hj : (ops.toList[j]?).bind (·.dst) = some d) (hx : VR w (okB C h ι w) (env d) (rf h ι) (.bool b) ∧ a.tmps.getD d undef = .bool b) :
    yielded ops a.tmps j = some b := by
  have hj' : (ops[j]?).bind (·.dst) = some d := by simpa using hj
  unfold yielded
  rw [hj']
  have h2 := hx.2
  rw [Array.getD_eq_getD_getElem?] at h2
  simp only [Option.bind_some]
  cases hq : a.tmps[d]? with
  | none => rw [hq] at h2; cases h2
  | some u => rw [hq] at h2; simp only [Option.getD_some] at h2; subst h2; rfl

theorem op_ok {o : Oper} {ops : Array Oper} {i : Nat} {rest : List Nat} {k : List Item} (ho : ops[i]? = some o) (hd : okD C.N o.dst = true) {K : Env → Heap → AV → Prop}
    (hK : ∀ env' h' x, K env' h' x → Run C (.inRegion ops rest :: k) (putE env' o.dst x) h')
    (hw : ∀ ι a w, Rel C env h ι a w → Region.wanted o (yielded ops a.tmps) = true) (hk : aop C o env h K (Run C (.inRegion ops (i :: rest) :: k) env h)) : Run C (.inRegion ops (i :: rest) :: k) env h :=
  ⟨fun ι a w b cs hb hkd R => by
    rcases aop_ok R o hk with hk | ⟨nx, v, w', ι', env', h', x, hr, hv, R', hx, hk⟩
    · exact hk.run ι a w b cs hb hkd R
    · have hst := step_op_ok (b := b) (k := k) (cs := cs) (rest := rest) ho (hw ι a w R) hr hv
      obtain ⟨e, w2, fr, h1, h2, h3⟩ := (hK env' h' x hk).run ι' (a.put o.dst v) w' b cs hb hkd (R'.put hx hd)
      exact ⟨e, w2, fr, h1, Comes.of_steps (.one hst) h2, h3⟩⟩

theorem skip_ok {o : Oper} {ops : Array Oper} {i : Nat} {rest : List Nat} {k : List Item} (ho : ops[i]? = some o) (hd : okD C.N o.dst = true)
    (hw : ∀ ι a w, Rel C env h ι a w → Region.wanted o (yielded ops a.tmps) = false) (hk : Run C (.inRegion ops rest :: k) (putE env o.dst .sk) h) : Run C (.inRegion ops (i :: rest) :: k) env h :=
  Run.of_step fun ι a w b cs _ R => by
    have hs := step_op_skip (P := C.P) (b := b) (a := a) (k := k) (cs := cs) (w := w) (ops := ops) (i := i) (rest := rest) (by simp [ho, hw ι a w R])
    rw [ho] at hs
    exact ⟨_, h, ι, _, w, _, .one hs, R.put (x := .sk) rfl hd, hk⟩

theorem wanted_none {o : Oper} (hg : o.guard = none) (f : Nat → Option Bool) : Region.wanted o f = true := by simp [Region.wanted, hg]
theorem wanted_some {o : Oper} {j : Nat} {want b : Bool} (hg : o.guard = some (j, want)) {f : Nat → Option Bool} (hf : f j = some b) : Region.wanted o f = (b == want) := by
  simp [Region.wanted, hg, hf]

theorem wanted_sk {o : Oper} {j : Nat} {want : Bool} (hg : o.guard = some (j, want)) {f : Nat → Option Bool} (hf : f j = none) : Region.wanted o f = false := by
  simp [Region.wanted, hg, hf]
theorem yield_sk {ops : Array Oper} {tmps : Array Value} {j d : Nat} (hj : (ops.toList[j]?).bind (·.dst) = some d) (hx : tmps.getD d undef = undef) : yielded ops tmps j = none := by
  have hj' : (ops[j]?).bind (·.dst) = some d := by simpa using hj
  unfold yielded
  rw [hj']
  rw [Array.getD_eq_getD_getElem?] at hx
  simp only [Option.bind_some]
  cases hq : tmps[d]? with
  | none => rfl
  | some u => rw [hq] at hx; simp only [Option.getD_some] at hx; subst hx; rfl

theorem Run.retell {k : List Item} {env' : Env} (he : ∀ ι a w, Rel C env h ι a w → ∀ i, VR w (okB C h ι w) (env' i) (rf h ι) (a.tmps.getD i undef)) (hr : Run C k env' h) : Run C k env h :=
  ⟨fun ι a w b cs hb hkd R => hr.run ι a w b cs hb hkd (R.env_ (he ι a w R))⟩

theorem Run.told {k : List Item} {d : Nat} {b : Bool} (hd : env d = .bool b) (hb : b = true → Run C k (upd env d .tt) h) (hf : b = false → Run C k (upd env d .ff) h) : Run C k env h := by
  cases b with
  | true =>
    refine Run.retell (fun ι a w R i => ?_) (hb rfl)
    by_cases e : i = d
    · subst e; rw [upd_same]; have := R.env i; rw [hd] at this; exact this
    · rw [upd_other _ _ e]; exact R.env i
  | false =>
    refine Run.retell (fun ι a w R i => ?_) (hf rfl)
    by_cases e : i = d
    · subst e; rw [upd_same]; have := R.env i; rw [hd] at this; exact this
    · rw [upd_other _ _ e]; exact R.env i
end

theorem isRange_ok : ∀ (l : List Nat) (i n : Nat), isRange i n l = true → i + l.length = n ∧ l = List.range' i l.length
  | [], i, n, h => ⟨by simpa using Nat.eq_of_beq_eq_true h, rfl⟩
  | j :: l, i, n, h => by
    simp only [isRange, Bool.and_eq_true] at h
    have e := Nat.eq_of_beq_eq_true h.1
    subst e
    obtain ⟨h1, h2⟩ := isRange_ok l (i + 1) n h.2
    exact ⟨by simp only [List.length_cons]; omega, by rw [List.length_cons, List.range'_succ, ← h2]⟩

theorem areg_ok {C : Ctx} {E : List Item → Env → Heap → Prop} (ih : ∀ k env h, E k env h → Run C k env h) {ops : Array Oper} {k : List Item} :
    ∀ (l : List Oper) (i : Nat) (env : Env) (h : Heap), (∀ j, l[j]? = ops[i + j]?) → areg C E ops k l i env h → Run C (.inRegion ops (List.range' i l.length) :: k) env h := by
  intro l
  induction l with
  | nil => intro i env h _ hx; exact Run.quiet (fun b a cs w => step_region_end) (ih _ _ _ hx)
  | cons o l ihl =>
    intro i env h hl hx
    have ho : ops[i]? = some o := by simpa using (hl 0).symm
    have hl' : ∀ j, l[j]? = ops[i + 1 + j]? := fun j => by
      have := hl (j + 1)
      rw [List.getElem?_cons_succ] at this
      rw [this]; congr 1; omega
    have hrec : ∀ env' h', areg C E ops k l (i + 1) env' h' → Run C (.inRegion ops (List.range' (i + 1) l.length) :: k) env' h' := fun env' h' => ihl (i + 1) env' h' hl'
    have hrec2 : ∀ env' h' x, fv x (fun x => areg C E ops k l (i + 1) (putE env' o.dst x) h') → Run C (.inRegion ops (List.range' (i + 1) l.length) :: k) (putE env' o.dst x) h' := fun env' h' x hk => hrec _ _ ((fv_eq x _).mp hk)
    rw [List.length_cons, List.range'_succ]
    unfold areg at hx
    rw [List.range'_succ] at hx
    split at hx
    · rename_i hd hg
      refine op_ok ho (by rw [hd]; rfl) (fun env' h' x hk => ?_) (fun _ _ _ _ => wanted_none hg _) hx
      rw [hd]; exact hrec _ _ hk
    · rename_i d hd hg
      cases hb : Nat.blt d C.N with
      | false => rw [hb] at hx; exact hx
      | true =>
        rw [hb, cond_true] at hx
        refine op_ok ho (by rw [hd]; exact hb) (fun env' h' x hk => ?_) (fun _ _ _ _ => wanted_none hg _) hx
        rw [hd]; exact hrec _ _ ((fv_eq _ _).mp hk)
    · rename_i j want hg
      cases hd : okD C.N o.dst with
      | false => rw [hd] at hx; exact hx
      | true =>
        rw [hd, cond_true] at hx
        split at hx
        · rename_i g hj
          have yes : ∀ e, e g = .tt → ∀ ι a w, Rel C e h ι a w → yielded ops a.tmps j = some true := fun e he ι a w R => yield_of R hj (by have := R.env g; rw [he] at this; have h2 : a.tmps.getD g undef = .bool true := this; exact ⟨by rw [he]; rfl, h2⟩)
          have no : ∀ e, e g = .ff → ∀ ι a w, Rel C e h ι a w → yielded ops a.tmps j = some false := fun e he ι a w R => yield_of R hj (by have := R.env g; rw [he] at this; have h2 : a.tmps.getD g undef = .bool false := this; exact ⟨by rw [he]; rfl, h2⟩)
          split at hx
          · rename_i e
            cases want with
            | true => exact op_ok ho hd hrec2 (fun ι a w R => wanted_some hg (yes _ e ι a w R)) hx
            | false => exact skip_ok ho hd (fun ι a w R => wanted_some hg (yes _ e ι a w R)) (hrec _ _ hx)
          · rename_i e
            cases want with
            | true => exact skip_ok ho hd (fun ι a w R => wanted_some hg (no _ e ι a w R)) (hrec _ _ hx)
            | false => exact op_ok ho hd hrec2 (fun ι a w R => wanted_some hg (no _ e ι a w R)) hx
          · rename_i b e
            refine Run.told e (fun ht => ?_) (fun ht => ?_)
            · have hx := hx.t ht
              cases want with
              | true => exact op_ok ho hd hrec2 (fun ι a w R => wanted_some hg (yes _ (upd_same _ _ _) ι a w R)) hx
              | false => exact skip_ok ho hd (fun ι a w R => wanted_some hg (yes _ (upd_same _ _ _) ι a w R)) (hrec _ _ hx)
            · have hx := hx.f ht
              cases want with
              | true => exact skip_ok ho hd (fun ι a w R => wanted_some hg (no _ (upd_same _ _ _) ι a w R)) (hrec _ _ hx)
              | false => exact op_ok ho hd hrec2 (fun ι a w R => wanted_some hg (no _ (upd_same _ _ _) ι a w R)) hx
          · rename_i e
            exact skip_ok ho hd (fun ι a w R => wanted_sk hg (yield_sk hj (by have := R.env g; rw [e] at this; exact this))) (hrec _ _ hx)
          · exact hx
        · exact hx

theorem astep_ok {C : Ctx} {E : List Item → Env → Heap → Prop} (ih : ∀ k env h, E k env h → Run C k env h) (k : List Item) (env : Env) (h : Heap) (hx : astep C E k env h) : Run C k env h := by
    unfold astep at hx
    split at hx
    · exact hx
    · exact Run.quiet (fun b a cs w => step_seq) (ih _ _ _ hx)
    · exact Run.quiet (fun b a cs w => step_skip) (ih _ _ _ hx)
    · exact Run.quiet (fun b a cs w => step_label) hx
    · rename_i c x y k
      have key : ∀ t : Bool, (∀ ι a w, Rel C env h ι a w → a.eval c = .bool t) → Run C (.code (if t then x else y) :: k) env h → Run C (.code (.cond c x y) :: k) env h := by
        intro t ht hr
        exact Run.of_step fun ι a w b cs _ R => ⟨env, h, ι, a, w, _, .one (step_cond (ht ι a w R)), R, hr⟩
      split at hx
      · rename_i e
        exact key true (fun ι a w R => by have := ev_ok R c; rw [e] at this; exact this) (ih _ _ _ hx)
      · rename_i e
        exact key false (fun ι a w R => by have := ev_ok R c; rw [e] at this; exact this) (ih _ _ _ hx)
      · rename_i t e
        refine key t (fun ι a w R => by have := ev_ok R c; rw [e] at this; exact this) ?_
        have told : ∀ (t : Bool) (y : AV), ev env c = .bool t → (∀ w ok r v, VR w ok (.bool t) r v → VR w ok y r v) → ∀ k', Run C k' (toldE c env y) h → Run C k' env h := by
          intro t y he hy k' hr
          cases c with
          | tmp s =>
            refine Run.retell (fun ι a w R i => ?_) hr
            by_cases ei : i = s
            · subst ei
              show VR _ _ (upd env i y i) _ _
              rw [upd_same]
              have := R.env i
              rw [show env i = .bool t from he] at this
              exact hy _ _ _ _ this
            · show VR _ _ (upd env s y i) _ _
              rw [upd_other _ _ ei]; exact R.env i
          | _ => exact hr
        cases t with
        | true => exact told true .tt e (fun _ _ _ _ h => h) _ (ih _ _ _ (hx.t rfl))
        | false => exact told false .ff e (fun _ _ _ _ h => h) _ (ih _ _ _ (hx.f rfl))
      · exact hx
    · exact Run.quiet (fun b a cs w => step_block) (ih _ _ _ hx)
    · exact Run.quiet (fun b a cs w => step_loop) hx
    · exact Run.quiet (fun b a cs w => step_inLoop) hx
    · exact Run.quiet (fun b a cs w => step_scope) (ih _ _ _ hx)
    · split at hx
      · rename_i k' e
        exact Run.quiet (fun b a cs w => step_exit e) (ih _ _ _ hx)
      · exact hx
    · split at hx
      · rename_i k' e
        exact Run.quiet (fun b a cs w => step_goto e) hx
      · exact hx
    · rename_i id ops k
      refine Run.quiet (fun b a cs w => step_region) ?_
      have := areg_ok ih ops.toList 0 env h (fun j => by simp) hx
      rwa [Array.length_toList, ← List.range_eq_range'] at this
    · exact Run.quiet (fun b a cs w => step_inBlock) (ih _ _ _ hx)
    · exact Run.quiet (fun b a cs w => step_inScope) (ih _ _ _ hx)
    · exact Run.quiet (fun b a cs w => step_region_end) (ih _ _ _ hx)
    · rename_i ops i rest k
      cases hb : isRange i ops.size (i :: rest) with
      | false => rw [hb] at hx; exact hx
      | true =>
        rw [hb, cond_true] at hx
        obtain ⟨h1, h2⟩ := isRange_ok _ _ _ hb
        have := areg_ok ih (ops.toList.drop i) i env h (fun j => by simp) hx
        rw [h2]
        have e : (i :: rest).length = (ops.toList.drop i).length := by
          have h3 : ops.toList.length = ops.size := Array.length_toList
          rw [List.length_drop, h3]; omega
        rw [e]; exact this
    · exact hx

theorem aexec_ok {C : Ctx} : ∀ (n : Nat) {k : List Item} {env : Env} {h : Heap}, aexec C n k env h → Run C k env h := by
  intro n
  induction n with
  | zero => intro k env h hx; exact hx
  | succ n ih => intro k env h hx; exact astep_ok (fun k env h => ih) k env h hx

end Go.Proofs.YtfodjmemdkibpaaDoor.V

namespace Go.Proofs.YtfodjmemdkibpaaDoor.V
open Go Go.RowKit
set_option linter.unusedSimpArgs false
set_option linter.unusedVariables false

/-- Where what a call answers may lie: in what its arguments lead to, or in new memory. -/
def okR (S : Nat → Prop) (w w' : World) (b : Nat) : Prop := (S b ∨ w.heap.size ≤ b) ∧ b < w'.heap.size

def Post (S : Nat → Prop) (w : World) (r : AV) (e : Ending) (w' : World) : Prop := ∃ v, e = .returned v ∧ Below w.heap.size w w' ∧ VR w' (okR S w w') r noref v

/-- Called with what reads as 'args', the function returns what reads as 'r'; nothing that was there has changed. -/
structure Fn (P : Program) (f : FuncId) (args : List AV) (r : AV) : Prop where
  there : ∃ fn, P.funcs[f]? = some fn ∧ fn.name ≠ "runtime.NumGoroutine" ∧ fn.body.isNone = false
  calls : ∀ (S : Nat → Prop) (w : World) (vs : Array Value), (∀ b, S b → b < w.heap.size) → GlobOk S w → args.length = vs.size →
    (∀ (i : Nat) x v, args[i]? = some x → vs[i]? = some v → VR w S x noref v) → Calls P f vs w (Post S w r)

def envOf (args : List AV) : Env := fun i => args.getD i .u
def noObjs : Heap := fun _ => .dead

theorem envOf_ok {C : Ctx} {args : List AV} {vs : Array Value} {n : Nat} {r : Ref} (hlen : args.length = vs.size) (hargs : ∀ (i : Nat) x v, args[i]? = some x → vs[i]? = some v → VR C.w0 C.S x noref v) (i : Nat) :
    VR C.w0 C.S (envOf args i) noref ((vs ++ Array.replicate n undef).getD i undef) := by
  unfold envOf
  cases hx : args[i]? with
  | none => simp only [List.getD, hx]; trivial
  | some x =>
    have hi : i < args.length := by
      rcases Nat.lt_or_ge i args.length with h' | h'
      · exact h'
      · rw [List.getElem?_eq_none h'] at hx; cases hx
    have hi2 : i < vs.size := by omega
    have := hargs i x vs[i] hx (by simp [hi2])
    simp only [List.getD, hx, Option.getD_some]
    rw [Array.getD_eq_getD_getElem?, Array.getElem?_append_left hi2]
    simpa [hi2] using this

theorem Fn.of {P : Program} {f : FuncId} {args : List AV} {r : AV} (fn : Func) (c : Code) (hf : P.funcs[f]? = some fn) (hb : fn.body = some c) (hname : fn.name ≠ "runtime.NumGoroutine") (hn : args.length ≤ fn.ntmps)
    {T : TT} (tok : TOk P T) (N : Nat) (hN : fn.ntmps = N)
    (hrun : ∀ S w0 (gl : GlobOk S w0), Run { P := P, T := T, tok := tok, N := N, w0 := w0, S := S, glob := gl, f := f, R := Post S w0 r } [.code c] (envOf args) noObjs) : Fn P f args r := by
  subst hN
  refine ⟨⟨fn, hf, hname, by rw [hb]; rfl⟩, fun S w vs hS gl hlen hargs cs => ?_⟩
  let b : Frame := { (default : Frame) with fn := f, kind := .normal }
  have henter : Frame.enter P f vs .normal = b.at { tmps := vs ++ Array.replicate (fn.ntmps - vs.size) undef, defers := [] } [.code c] := by
    simp [Frame.enter, Frame.at, hf, hb, b]
  rw [henter]
  refine (hrun S w gl).run (fun _ _ => .nilIface) _ w b cs rfl rfl ?_
  constructor
  · exact Below.refl _ _
  · rfl
  · simp; omega
  · intro i
    have := envOf_ok (C := { P := P, T := T, tok := tok, N := fn.ntmps, w0 := w, S := S, glob := gl, f := f, R := Post S w r }) (n := fn.ntmps - vs.size) (r := noref) hlen hargs i
    exact VR.mono (fun b hb => ⟨hS b hb, .inl hb, fun id hl => absurd rfl hl⟩) (fun _ _ => rfl) _ _ _ _ (fun _ _ h => False.elim h) this
  · intro id; trivial
  · intro id i; rfl
  · intro id hl; exact absurd rfl hl
  · intro id id' hl; exact absurd rfl hl

/-! ### coming back -/
theorem Rel.globOk {C : Ctx} {env : Env} {h : Heap} {ι : Loc} {a : Act} {w : World} (R : Rel C env h ι a w) : GlobOk (okB C h ι w) w := fun g =>
  VR.mono (fun b hb => ⟨Nat.lt_of_lt_of_le hb.1 R.below.size, Nat.lt_of_lt_of_le hb.1 R.below.size, .inl hb.2, fun id hl hg => Nat.not_lt.mpr (R.base id hl b hg).1 hb.1⟩) (fun b hb => R.below.block b hb.1) _ _ _ _ (fun _ _ h => h) (C.glob g)
theorem Rel.globAll {C : Ctx} {env : Env} {h : Heap} {ι : Loc} {a : Act} {w : World} (R : Rel C env h ι a w) : GlobOk (fun b => b < w.heap.size) w := fun g =>
  VR.mono (fun b hb => ⟨hb.1, hb.1⟩) (fun _ _ => rfl) _ _ _ _ (fun _ _ h => h) (R.globOk g)

def fz (h : Heap) : AV → AV
  | .row id => match h id with
    | .row _ sz n get => .sl n sz get
    | .mat _ sz n get0 o _ szi len get none => .sl n sz (fun i j => cond (Nat.beq j o) (.sl (len i) szi (get i)) (get0 i j))
    | _ => .u
  | .mrow id i => match h id with
    | .mat _ _ _ _ _ _ szi len get _ => .sl (len i) szi (get i)
    | _ => .u
  | .madr .. => .u
  | .radr .. => .u
  | .box .. => .u
  | .obj _ => .u
  | .agg n get => .agg n (fun j => fz h (get j))
  | .tup n get => .tup n (fun j => fz h (get j))
  | x => x

section
variable {C : Ctx} {env : Env} {h : Heap} {ι : Loc} {a : Act} {w : World}

theorem own_sl {w : World} {B e sz n : Nat} {v : Value} {xs : List Value} {get : Nat → Nat → AV} {ok : Nat → Prop} (hrow : ownsX w B e sz v n xs) (hone : ∀ u ∈ xs, u.oneCell' = true) (hown : ∀ g, blk v = some g → ok g)
    (hcells : ∀ i j, i < n → j < sz → ∃ cv, xs[i * sz + j]? = some cv ∧ VR w ok (get i j) noref cv) (r : Ref) : VR w ok (.sl n sz get) r v := by
  rcases hrow.2 with ⟨hv, hn0⟩ | ⟨g, cap, cur, hv, hB, hg, hnc, hcap, hcs, htake⟩
  · rw [hv]; subst hn0
    exact ⟨none, 0, rfl, Nat.le_refl _, by simp [maxLen], fun _ => rfl, fun h => absurd h (Nat.lt_irrefl _)⟩
  · rw [hv]
    refine ⟨_, cap, rfl, hnc, hcap, (fun e => by cases e), fun _ => ⟨_, rfl, hown g (by rw [hv]; rfl), fun i j hi hj => ?_⟩⟩
    obtain ⟨cv, c1, c3⟩ := hcells i j hi hj
    exact ⟨cv, hrow.cells (g := g) (by rw [hv]; rfl) _ _ c1, hone cv (List.mem_of_getElem? c1), c3⟩

theorem row_sl (R : Rel C env h ι a w) {id e sz n : Nat} {get : Nat → Nat → AV} (hh : h id = .row e sz n get) {ok : Nat → Prop} (hok : ∀ b, okB C h ι w b → ok b) (hown : ∀ g, owns (h id) (ι id) g → ok g) (r : Ref) :
    VR w ok (.sl n sz get) r (ι id 0) := by
  have ho := R.obj id
  rw [hh] at ho
  obtain ⟨xs, hrow, hone, hcells⟩ := ho
  refine own_sl hrow hone (fun g hg => hown g (owns_zero hg)) (fun i j hi hj => ?_) r
  obtain ⟨cv, c1, c3⟩ := hcells i j hi hj
  exact ⟨cv, c1, VR.mono hok (fun _ _ => rfl) _ _ _ _ (fun _ _ h => h) c3⟩

theorem mrow_sl (R : Rel C env h ι a w) {id e sz n o ei szi : Nat} {get0 : Nat → Nat → AV} {len : Nat → Nat} {get : Nat → Nat → Nat → AV} {hole : Option Nat} (hh : h id = .mat e sz n get0 o ei szi len get hole) {ok : Nat → Prop} (hok : ∀ b, okB C h ι w b → ok b)
    (hown : ∀ g, owns (h id) (ι id) g → ok g) {i : Nat} (hi : i < n) (hho : hole ≠ some i) (r : Ref) : VR w ok (.sl (len i) szi (get i)) r (ι id (i + 1)) := by
  have ho := R.obj id
  rw [hh] at ho
  obtain ⟨_, _, hrows, _⟩ := ho
  obtain ⟨_, ys, hy, hy1, hyc⟩ := hrows i hi hho
  refine own_sl hy hy1 (fun g hg => hown g (by rw [hh]; exact .inr ⟨i, hi, hho, hg⟩)) (fun a b ha hb => ?_) r
  obtain ⟨u, u1, u3⟩ := hyc a b ha hb
  exact ⟨u, u1, VR.mono hok (fun _ _ => rfl) _ _ _ _ (fun _ _ h => h) u3⟩

theorem mat_sl (R : Rel C env h ι a w) {id e sz n o ei szi : Nat} {get0 : Nat → Nat → AV} {len : Nat → Nat} {get : Nat → Nat → Nat → AV} (hh : h id = .mat e sz n get0 o ei szi len get none) {ok : Nat → Prop} (hok : ∀ b, okB C h ι w b → ok b)
    (hown : ∀ g, owns (h id) (ι id) g → ok g) (r : Ref) : VR w ok (.sl n sz (fun i j => cond (Nat.beq j o) (.sl (len i) szi (get i)) (get0 i j))) r (ι id 0) := by
  have ho := R.obj id
  rw [hh] at ho
  obtain ⟨_, ⟨xs, hx, h1, hc0, hin⟩, _, _⟩ := ho
  refine own_sl hx h1 (fun g hg => hown g (owns_zero hg)) (fun i j hi hj => ?_) r
  by_cases hjo : j = o
  · subst hjo
    exact ⟨_, hin i hi (by simp), by rw [Nat.beq_refl, cond_true]; exact mrow_sl R hh hok hown hi (by simp) _⟩
  · obtain ⟨cv, c1, c3⟩ := hc0 i j hi hj hjo
    exact ⟨cv, c1, by rw [beq_ne hjo, cond_false]; exact VR.mono hok (fun _ _ => rfl) _ _ _ _ (fun _ _ h => h) c3⟩

theorem fz_ok (R : Rel C env h ι a w) {ok : Nat → Prop} (hok : ∀ b, okB C h ι w b → ok b) (hown : ∀ id, h id ≠ .dead → ∀ g, owns (h id) (ι id) g → ok g) :
    ∀ (x : AV) (v : Value), VR w (okB C h ι w) x (rf h ι) v → VR w ok (fz h x) noref v := by
  intro x
  induction x with
  | agg n get ih =>
    intro v ⟨cs, e, hs, hc⟩
    refine ⟨cs, e, hs, fun j hj => ?_⟩
    obtain ⟨cv, c1, c2, c3⟩ := hc j hj
    exact ⟨cv, c1, c2, ih j _ c3⟩
  | tup n get ih =>
    intro v ⟨cs, e, hs, hc⟩
    refine ⟨cs, e, hs, fun j hj => ?_⟩
    obtain ⟨cv, c1, c3⟩ := hc j hj
    exact ⟨cv, c1, ih j _ c3⟩
  | row id =>
    intro v hv
    have e : v = ι id 0 := hv
    rw [e]
    simp only [fz]
    split
    · rename_i hh; exact row_sl R hh hok (hown id (by rw [hh]; simp)) _
    · rename_i hh; exact mat_sl R hh hok (hown id (by rw [hh]; simp)) _
    · trivial
  | mrow id i =>
    intro v hv
    obtain ⟨e, h3⟩ := hv
    rw [e]
    simp only [fz]
    split
    · rename_i hh
      rw [hh] at h3
      exact mrow_sl R hh hok (hown id (by rw [hh]; simp)) h3.1 h3.2 _
    · trivial
  | madr id i sz a b => intro v _; trivial
  | radr id sz i j => intro v _; trivial
  | box id off => intro v _; trivial
  | obj id => intro v _; trivial
  | sl n sz get _ => intro v hv; exact VR.mono hok (fun _ _ => rfl) (.sl n sz get) noref noref v (fun _ _ h => h) hv
  | iadr m get _ => intro v hv; exact VR.mono hok (fun _ _ => rfl) (.iadr m get) noref noref v (fun _ _ h => h) hv
  | _ => intro v hv; exact hv

def Le (x y : AV) : Prop := ∀ w ok r v, VR w ok x r v → VR w ok y r v
theorem Le.refl (x : AV) : Le x x := fun _ _ _ _ h => h
theorem Le.trans {x y z : AV} (h : Le x y) (k : Le y z) : Le x z := fun w ok r v hv => k w ok r v (h w ok r v hv)
theorem Le.u (x : AV) : Le x .u := fun _ _ _ _ _ => trivial
theorem Le.of_eq {x y : AV} (h : x = y) : Le x y := h ▸ Le.refl x
theorem Le.sl {n sz : Nat} {g1 g2 : Nat → Nat → AV} (hg : ∀ i j, i < n → j < sz → Le (g1 i j) (g2 i j)) : Le (.sl n sz g1) (.sl n sz g2) := by
  rintro w ok r v ⟨A, c, e, h1, h2, h3, h4⟩
  refine ⟨A, c, e, h1, h2, h3, fun hn => ?_⟩
  obtain ⟨ad, e, hb, hc⟩ := h4 hn
  refine ⟨ad, e, hb, fun i j hi hj => ?_⟩
  obtain ⟨cv, c1, c2, c3⟩ := hc i j hi hj
  exact ⟨cv, c1, c2, hg i j hi hj _ _ _ _ c3⟩
theorem Le.agg {n : Nat} {g1 g2 : Nat → AV} (hg : ∀ j, j < n → Le (g1 j) (g2 j)) : Le (.agg n g1) (.agg n g2) := by
  rintro w ok r v ⟨cs, e, hs, hc⟩
  refine ⟨cs, e, hs, fun j hj => ?_⟩
  obtain ⟨cv, c1, c2, c3⟩ := hc j hj
  exact ⟨cv, c1, c2, hg j hj _ _ _ _ c3⟩
theorem Le.tup {n : Nat} {g1 g2 : Nat → AV} (hg : ∀ j, j < n → Le (g1 j) (g2 j)) : Le (.tup n g1) (.tup n g2) := by
  rintro w ok r v ⟨cs, e, hs, hc⟩
  refine ⟨cs, e, hs, fun j hj => ?_⟩
  obtain ⟨cv, c1, c3⟩ := hc j hj
  exact ⟨cv, c1, hg j hj _ _ _ _ c3⟩
theorem Le.nils (sz : Nat) (g : Nat → Nat → AV) : Le .nils (.sl 0 sz g) := by
  intro w ok r v hv
  exact ⟨none, 0, hv, Nat.le_refl _, by simp [maxLen], fun _ => rfl, fun h => absurd h (Nat.lt_irrefl _)⟩
theorem Le.tt : Le .tt (.bool true) := fun _ _ _ _ h => h
theorem Le.ff : Le .ff (.bool false) := fun _ _ _ _ h => h

def resAV (env : Env) : List Nat → AV
  | [t] => env t
  | ts => .tup ts.length (fun j => env (ts.getD j 0))

def resV (tmps : Array Value) : List Nat → Value
  | [t] => tmps.getD t undef
  | ts => .tuple (ts.map fun t => tmps.getD t undef).toArray

def resM (tmps : Array Value) : ResultVar → Sem Value
  | .tmp t => pure (tmps.getD t undef)
  | .cell a t => do loadVar t (← asAddr (tmps.getD a undef))

theorem results_eq (fn : Func) (tmps : Array Value) : results fn tmps = (do
    let vs ← fn.results.mapM (resM tmps)
    pure (if h : vs.size = 1 then vs[0] else .tuple vs)) := rfl

theorem results_run {P : Program} {fn : Func} {ts : List Nat} (hres : fn.results = (ts.map ResultVar.tmp).toArray) (tmps : Array Value) (w : World) :
    (results fn tmps).run P w = .ok (resV tmps ts) w := by
  have hm : ∀ ts : List Nat, ((ts.map ResultVar.tmp).mapM (resM tmps)).run P w = .ok (ts.map fun t => tmps.getD t undef) w := by
    intro ts
    induction ts with
    | nil => rfl
    | cons t ts ih => simp only [List.map_cons, List.mapM_cons, resM, Sem.run_bind, Sem.run_pure, Result.andThen_ok, ih]
  have h2 := hm ts
  rw [results_eq, hres, List.mapM_toArray, Sem.run_bind, Sem.run_map, h2]
  clear hres hm h2
  match ts with
  | [] => rfl
  | [t] => rfl
  | t :: u :: ts => simp [resV]

theorem Run.leave {k : List Item} {fn : Func} {ts : List Nat} {r : AV} (hk : k = [] ∨ ∃ k', k = .code .ret :: k') (hR : C.R = Post C.S C.w0 r) (hf : C.P.funcs[C.f]? = some fn) (hres : fn.results = (ts.map ResultVar.tmp).toArray)
    (hle : Le (fz h (resAV env ts)) r) : Run C k env h := by
  refine ⟨fun ι a w b cs hb hkd R => ?_⟩
  have hv : VR w (okB C h ι w) (resAV env ts) (rf h ι) (resV a.tmps ts) := by
    match ts, hle, hres with
    | [t], _, _ => exact R.env t
    | [], _, _ => exact ⟨#[], rfl, rfl, fun j hj => by cases hj⟩
    | t :: u :: ts, _, _ =>
      refine ⟨_, rfl, by simp, fun j hj => ?_⟩
      refine ⟨a.tmps.getD ((t :: u :: ts).getD j 0) undef, ?_, R.env _⟩
      rw [List.getElem?_toArray, List.getElem?_map, List.getElem?_eq_getElem hj, List.getD, List.getElem?_eq_getElem hj]
      rfl
  refine ⟨.returned _, w, { b.at a k with mode := .returning }, ?_, ?_, hb, rfl, R.defers, hkd, fn, by show C.P.funcs[b.fn]? = _; rw [hb]; exact hf, results_run hres a.tmps w⟩
  · rw [hR]
    refine ⟨_, rfl, R.below, ?_⟩
    refine hle _ _ _ _ (fz_ok R (fun b hb' => ⟨hb'.2.1, hb'.1⟩) (fun id hl g hg => ?_) _ _ hv)
    have := R.base id hl g hg
    exact ⟨.inr this.1, this.2⟩
  · rcases hk with rfl | ⟨k', rfl⟩
    · exact Steps.one step_end
    · exact Steps.one step_ret

/-! ### calling -/
def bor (h : Heap) : AV → AV := fz h

/-- What is handed in says at least what is asked for. -/
def ArgsLe : List AV → List AV → Prop
  | [], [] => True
  | x :: xs, y :: ys => Le x y ∧ ArgsLe xs ys
  | _, _ => False
theorem ArgsLe.of_eq {xs ys : List AV} (h : xs = ys) : ArgsLe xs ys := by
  subst h
  induction xs with
  | nil => trivial
  | cons x xs ih => exact ⟨Le.refl _, ih⟩
theorem ArgsLe.at : ∀ {xs ys : List AV}, ArgsLe xs ys → ys.length = xs.length ∧ ∀ (i : Nat) y, ys[i]? = some y → ∃ x, xs[i]? = some x ∧ Le x y
  | [], [], _ => ⟨rfl, fun i y h => by cases h⟩
  | x :: xs, y :: ys, h => by
    obtain ⟨h1, h2⟩ := h
    obtain ⟨h3, h4⟩ := ArgsLe.at h2
    refine ⟨by simp [h3], fun i y' hy => ?_⟩
    cases i with
    | zero => cases hy; exact ⟨x, rfl, h1⟩
    | succ i => exact h4 i y' hy
  | [], _ :: _, h => h.elim
  | _ :: _, [], h => h.elim

def flat : AV → Bool
  | .sl .. => false
  | .iadr .. => false
  | .agg n get => (List.range n).all fun j => flat (get j)
  | .tup n get => (List.range n).all fun j => flat (get j)
  | _ => true

theorem flat_ok {w w' : World} {ok ok' : Nat → Prop} : ∀ (x : AV) (r : Ref) (v : Value), flat x = true → VR w ok x r v → VR w' ok' x r v := by
  intro x
  induction x with
  | sl n sz get _ => intro r v hf; cases hf
  | iadr m get _ => intro r v hf; cases hf
  | agg n get ih =>
    intro r v hf ⟨cs, e, hs, hc⟩
    refine ⟨cs, e, hs, fun j hj => ?_⟩
    obtain ⟨cv, c1, c2, c3⟩ := hc j hj
    exact ⟨cv, c1, c2, ih j _ _ (List.all_eq_true.mp hf j (List.mem_range.mpr hj)) c3⟩
  | tup n get ih =>
    intro r v hf ⟨cs, e, hs, hc⟩
    refine ⟨cs, e, hs, fun j hj => ?_⟩
    obtain ⟨cv, c1, c3⟩ := hc j hj
    exact ⟨cv, c1, ih j _ _ (List.all_eq_true.mp hf j (List.mem_range.mpr hj)) c3⟩
  | _ => intro r v _ hv; exact hv

def imm : AV → Bool
  | .row _ => false
  | .radr .. => false
  | .box .. => false
  | .obj _ => false
  | .mrow .. => false
  | .madr .. => false
  | .agg n get => (List.range n).all fun j => imm (get j)
  | .tup n get => (List.range n).all fun j => imm (get j)
  | _ => true

theorem imm_ok {w : World} {ok : Nat → Prop} : ∀ (x : AV) (r r' : Ref) (v : Value), imm x = true → VR w ok x r v → VR w ok x r' v := by
  intro x
  induction x with
  | agg n get ih =>
    intro r r' v hf ⟨cs, e, hs, hc⟩
    refine ⟨cs, e, hs, fun j hj => ?_⟩
    obtain ⟨cv, c1, c2, c3⟩ := hc j hj
    exact ⟨cv, c1, c2, ih j _ _ _ (List.all_eq_true.mp hf j (List.mem_range.mpr hj)) c3⟩
  | tup n get ih =>
    intro r r' v hf ⟨cs, e, hs, hc⟩
    refine ⟨cs, e, hs, fun j hj => ?_⟩
    obtain ⟨cv, c1, c3⟩ := hc j hj
    exact ⟨cv, c1, ih j _ _ _ (List.all_eq_true.mp hf j (List.mem_range.mpr hj)) c3⟩
  | row id => intro r r' v hf; cases hf
  | radr => intro r r' v hf; cases hf
  | box => intro r r' v hf; cases hf
  | obj => intro r r' v hf; cases hf
  | mrow => intro r r' v hf; cases hf
  | madr => intro r r' v hf; cases hf
  | _ => intro r r' v _ hv; exact hv

/-- A call of a function of the program, written out by name. -/
def calls? (o : Oper) : Option (FuncId × List Operand) :=
  match o.op with
  | .call { callee := .value (.func f), args, .. } => some (f, args.toList)
  | _ => none

theorem exec_call {P : Program} {f : FuncId} {o : Oper} {xs : List Operand} (ho : calls? o = some (f, xs)) (ht : ∃ fn, P.funcs[f]? = some fn ∧ fn.name ≠ "runtime.NumGoroutine" ∧ fn.body.isNone = false) (a : Act) (w : World) :
    (execOp a.eval o).run P w = .ok (.enter f (xs.map a.eval).toArray) w := by
  obtain ⟨fn, h1, h2, h3⟩ := ht
  unfold calls? at ho
  split at ho
  · rename_i f' args at_ heq
    cases ho
    have h2' : (fn.name == "runtime.NumGoroutine") = false := by simpa using h2
    simp only [execOp, heq, resolve, Act.eval, Deferred.ofValue, Sem.run_bind, Sem.run_pure, Result.andThen_ok, invoke, callFunc, program, Sem.run, h1, h2', h3, Bool.false_eq_true, if_false]
    congr 2
    apply Array.ext'
    simp
  · cases ho

theorem step_call {P : Program} {b : Frame} {a : Act} {k : List Item} {cs : List Frame} {w : World} {ops : Array Oper} {i : Nat} {rest : List Nat} {o : Oper} {f : FuncId} {vs : Array Value} {R : Ending → World → Prop}
    (ho : ops[i]? = some o) (hw : Region.wanted o (yielded ops a.tmps) = true) (hr : (execOp a.eval o).run P w = .ok (.enter f vs) w) (hc : Calls P f vs w R) (hR : ∀ e w', R e w' → ∃ v, e = .returned v) :
    ∃ v w', R (.returned v) w' ∧ Steps P (lone (b.at a (.inRegion ops (i :: rest) :: k)) cs w) (lone (b.at (a.put o.dst v) (.inRegion ops rest :: k)) cs w') := by
  have hg := stepG_op (P := P) (b := b) (k := k) (cs := cs) (w := w) (rest := rest) ho hw
  obtain ⟨e, w', fr, hRe, hcomes, _, hleave⟩ := hc (b.at a (.inRegion ops (i :: rest) :: k) :: cs)
  obtain ⟨v, rfl⟩ := hR e w' hRe
  have henter : step P (lone (b.at a (.inRegion ops (i :: rest) :: k)) cs w) = .next (lone (Frame.enter P f vs .normal) (b.at a (.inRegion ops (i :: rest) :: k) :: cs) w) :=
    step_lone_go (by rw [hg]; simp [stepG.apply, hr, Frame.at])
  have hfin : (b.at a (.inRegion ops (i :: rest) :: k)).finish v = b.at (a.put o.dst v) (.inRegion ops rest :: k) := by
    rw [Frame.finish_at, ho]; rfl
  refine ⟨v, w', hRe, .head henter (Steps.trans hcomes (.one ?_))⟩
  rw [← hfin]
  exact step_leave_returned hleave

theorem post_returned {S : Nat → Prop} {w : World} {r : AV} : ∀ e w', Post S w r e w' → ∃ v, e = .returned v := fun e w' ⟨v, h, _⟩ => ⟨v, h⟩

/-- May this operation be done now? -/
def ready (env : Env) (ops : Array Oper) (o : Oper) : Bool :=
  match o.guard with
  | none => true
  | some (j, want) => match (ops.toList[j]?).bind (·.dst) with
    | some d => match env d with
      | .tt => want
      | .ff => !want
      | _ => false
    | none => false

theorem ready_ok {ops : Array Oper} {o : Oper} (hr : ready env ops o = true) (R : Rel C env h ι a w) : Region.wanted o (yielded ops a.tmps) = true := by
  unfold ready at hr
  split at hr
  · rename_i hg; exact wanted_none hg _
  · rename_i j want hg
    split at hr
    · rename_i d hj
      split at hr
      · rename_i e
        have hy : yielded ops a.tmps j = some true := yield_of R hj (by have := R.env d; rw [e] at this; have h2 : a.tmps.getD d undef = .bool true := this; exact ⟨by rw [e]; rfl, h2⟩)
        rw [wanted_some hg hy, hr]; rfl
      · rename_i e
        have hy : yielded ops a.tmps j = some false := yield_of R hj (by have := R.env d; rw [e] at this; have h2 : a.tmps.getD d undef = .bool false := this; exact ⟨by rw [e]; rfl, h2⟩)
        rw [wanted_some hg hy]; cases want <;> first | rfl | cases hr
      · cases hr
    · cases hr

/-- A call whose answer holds no memory: what is handed in may be the caller's own. -/
theorem Run.callA {ops : Array Oper} {i : Nat} {rest : List Nat} {k : List Item} {o : Oper} {f : FuncId} {xs : List Operand} {args : List AV} {r : AV} (hfn : Fn C.P f args r) (ho : ops.toList[i]? = some o) (hc : calls? o = some (f, xs))
    (hargs : ArgsLe (xs.map (fun x => bor h (ev env x))) args) (hd : okD C.N o.dst = true) (hr : ready env ops o = true) (hflat : flat r = true)
    (next : Run C (.inRegion ops rest :: k) (putE env o.dst r) h) : Run C (.inRegion ops (i :: rest) :: k) env h :=
  Run.of_step fun ι a w b cs _ R => by
    have ho' : ops[i]? = some o := by simpa using ho
    have hcalls := hfn.calls (fun b => b < w.heap.size) w (xs.map a.eval).toArray (fun b hb => hb) R.globAll (by rw [hargs.at.1]; simp) (fun i x v hx hv => by
      obtain ⟨x0, hx0, hle0⟩ := hargs.at.2 i x hx
      rw [List.getElem?_map] at hx0
      rw [List.getElem?_toArray, List.getElem?_map] at hv
      cases hq : xs[i]? with
      | none => rw [hq] at hx0; cases hx0
      | some y =>
        rw [hq] at hx0 hv
        cases hx0; cases hv
        exact hle0 _ _ _ _ (fz_ok R (fun b hb => hb.1) (fun id hl g hg => (R.base id hl g hg).2) _ _ (ev_ok R y)))
    obtain ⟨v, w', ⟨v', e, hbel, hv⟩, hst⟩ := step_call (b := b) (k := k) (cs := cs) (rest := rest) ho' (ready_ok hr R) (exec_call hc hfn.there a w) hcalls post_returned
    cases e
    have R' := R.grow hbel
    exact ⟨_, h, ι, _, w', _, hst, R'.put (imm_any hflat hv) hd, next⟩
where
  imm_any {r : AV} {w' : World} {ok ok' : Nat → Prop} {rr : Ref} {v : Value} (hf : flat r = true) (hv : VR w' ok r noref v) : VR w' ok' r rr v :=
    flat_ok _ _ _ hf (VR.mono (fun _ h => h) (fun _ _ => rfl) _ _ _ _ (fun _ _ h => False.elim h) hv)

/-- A call that is handed nothing of the caller's own that may still change. -/
theorem Run.callB {ops : Array Oper} {i : Nat} {rest : List Nat} {k : List Item} {o : Oper} {f : FuncId} {xs : List Operand} {args : List AV} {r : AV} (hfn : Fn C.P f args r) (ho : ops.toList[i]? = some o) (hc : calls? o = some (f, xs))
    (hargs : ArgsLe (xs.map (ev env)) args) (himm : args.all imm = true) (hd : okD C.N o.dst = true) (hr : ready env ops o = true)
    (next : Run C (.inRegion ops rest :: k) (putE env o.dst r) h) : Run C (.inRegion ops (i :: rest) :: k) env h :=
  Run.of_step fun ι a w b cs _ R => by
    have ho' : ops[i]? = some o := by simpa using ho
    have hcalls := hfn.calls (okB C h ι w) w (xs.map a.eval).toArray (fun b hb => hb.1) R.globOk (by rw [hargs.at.1]; simp) (fun i x v hx hv => by
      have hix : imm x = true := List.all_eq_true.mp himm x (List.mem_of_getElem? hx)
      obtain ⟨x0, hx0, hle0⟩ := hargs.at.2 i x hx
      rw [List.getElem?_map] at hx0
      rw [List.getElem?_toArray, List.getElem?_map] at hv
      cases hq : xs[i]? with
      | none => rw [hq] at hx0; cases hx0
      | some y =>
        rw [hq] at hx0 hv
        cases hx0; cases hv
        exact imm_ok _ _ _ _ hix (hle0 _ _ _ _ (ev_ok R y)))
    obtain ⟨v, w', ⟨v', e, hbel, hv⟩, hst⟩ := step_call (b := b) (k := k) (cs := cs) (rest := rest) ho' (ready_ok hr R) (exec_call hc hfn.there a w) hcalls post_returned
    cases e
    have R' := R.grow hbel
    refine ⟨_, h, ι, _, w', _, hst, R'.put (VR.mono (fun b hb => ?_) (fun _ _ => rfl) _ _ _ _ (fun _ _ h => False.elim h) hv) hd, next⟩
    refine ⟨hb.2, ?_, ?_⟩
    · rcases hb.1 with hb1 | hb1
      · exact hb1.2.1
      · exact .inr (Nat.le_trans R.below.size hb1)
    · intro id hl e
      rcases hb.1 with hb1 | hb1
      · exact hb1.2.2 id hl e
      · have := (R.base id hl b e).2; omega
end

end Go.Proofs.YtfodjmemdkibpaaDoor.V

namespace Go.Proofs.YtfodjmemdkibpaaDoor.V
open Go Go.RowKit
set_option linter.unusedSimpArgs false
set_option linter.unusedVariables false

theorem AskB.dec {p : Prop} [Decidable p] {X Y : Prop} (t : p → X) (f : ¬ p → Y) : AskB (decide p) X Y := ⟨fun h => t (of_decide_eq_true h), fun h => f (of_decide_eq_false h)⟩
theorem AskB.ndec {p : Prop} [Decidable p] {X Y : Prop} (t : p → Y) (f : ¬ p → X) : AskB (!decide p) X Y :=
  ⟨fun h => f (of_decide_eq_false (by simpa using h)), fun h => t (of_decide_eq_true (by simpa using h))⟩

/-! ### forgetting -/
def MOle : MO → MO → Prop
  | .row e sz n g, .row e' sz' n' g' => e = e' ∧ sz = sz' ∧ n = n' ∧ ∀ i j, i < n → j < sz → Le (g i j) (g' i j)
  | .box t l, .box t' l' => t = t' ∧ l.length = l'.length ∧ ∀ (j : Nat) x y, l[j]? = some x → l'[j]? = some y → Le x y
  | .iter s p, .iter s' p' => s = s' ∧ p = p'
  | .mp m, .mp m' => m = m'
  | .frame vs E, .frame vs' E' => vs = vs' ∧ ∀ i, Le (E i) (E' i)
  | .clo f l, .clo f' l' => f = f' ∧ l.length = l'.length ∧ ∀ (j : Nat) x y, l[j]? = some x → l'[j]? = some y → Le x y
  | .mat e sz n g0 o ei szi len g hole, .mat e' sz' n' g0' o' ei' szi' len' g' hole' => e = e' ∧ sz = sz' ∧ n = n' ∧ o = o' ∧ ei = ei' ∧ szi = szi' ∧ hole = hole' ∧ (∀ i j, i < n → j < sz → j ≠ o → Le (g0 i j) (g0' i j)) ∧
      (∀ i, i < n → hole ≠ some i → len i = len' i ∧ ∀ a b, a < len i → b < szi → Le (g i a b) (g' i a b))
  | _, .dead => True
  | _, _ => False

theorem MOle.refl (m : MO) : MOle m m := by
  cases m with
  | dead => trivial
  | box t l => exact ⟨rfl, rfl, fun j x y hx hy => by rw [hx] at hy; cases hy; exact Le.refl _⟩
  | row e sz n g => exact ⟨rfl, rfl, rfl, fun _ _ _ _ => Le.refl _⟩
  | iter s p => exact ⟨rfl, rfl⟩
  | mp m => rfl
  | frame vs E => exact ⟨rfl, fun i => Le.refl _⟩
  | clo f l => exact ⟨rfl, rfl, fun j x y hx hy => by rw [hx] at hy; cases hy; exact Le.refl _⟩
  | mat => exact ⟨rfl, rfl, rfl, rfl, rfl, rfl, rfl, fun _ _ _ _ _ => Le.refl _, fun _ _ _ => ⟨rfl, fun _ _ _ _ => Le.refl _⟩⟩

theorem MOle.kept {C : Ctx} {w : World} {ok ok' : Nat → Prop} {r r' : Ref} {m m' : MO} {v : Nat → Value} (hle : MOle m m') (hok : ∀ b, ok b → ok' b) (hr : ∀ x v, r x v → r' x v) (hm : MR C.B w ok r m v) : MR C.B w ok' r' m' v := by
  cases m' with
  | dead => trivial
  | box t' l' =>
    cases m with
    | box t l =>
      obtain ⟨rfl, hl, hx⟩ := hle
      obtain ⟨g, cs, e, hg, hs, hc⟩ := hm
      refine ⟨g, cs, e, hg, by omega, fun j y hy => ?_⟩
      have hj : j < l.length := by
        rcases Nat.lt_or_ge j l.length with h' | h'
        · exact h'
        · rw [List.getElem?_eq_none (by omega)] at hy; cases hy
      obtain ⟨cv, c1, c2, c3⟩ := hc j l[j] (List.getElem?_eq_getElem hj)
      exact ⟨cv, c1, c2, VR.mono hok (fun _ _ => rfl) _ _ _ _ hr (hx j _ _ (List.getElem?_eq_getElem hj) hy _ _ _ _ c3)⟩
    | _ => exact False.elim hle
  | row e' sz' n' g' =>
    cases m with
    | row e sz n g =>
      obtain ⟨rfl, rfl, rfl, hx⟩ := hle
      obtain ⟨xs, ho, h1, hc⟩ := hm
      refine ⟨xs, ho, h1, fun i j hi hj => ?_⟩
      obtain ⟨cv, c1, c3⟩ := hc i j hi hj
      exact ⟨cv, c1, VR.mono hok (fun _ _ => rfl) _ _ _ _ (fun _ _ h => h) (hx i j hi hj _ _ _ _ c3)⟩
    | _ => exact False.elim hle
  | iter s' p' =>
    cases m with
    | iter s p => obtain ⟨rfl, rfl⟩ := hle; exact hm
    | _ => exact False.elim hle
  | mp m' =>
    cases m with
    | mp m => cases hle; exact hm
    | _ => exact False.elim hle
  | clo f' l' =>
    cases m with
    | clo f l =>
      obtain ⟨rfl, hl, hx⟩ := hle
      obtain ⟨cs, e, hs, hc⟩ := hm
      refine ⟨cs, e, by omega, fun j y hy => ?_⟩
      have hj : j < l.length := by
        rcases Nat.lt_or_ge j l.length with h' | h'
        · exact h'
        · rw [List.getElem?_eq_none (by omega)] at hy; cases hy
      obtain ⟨cv, c1, c3⟩ := hc j l[j] (List.getElem?_eq_getElem hj)
      exact ⟨cv, c1, VR.mono hok (fun _ _ => rfl) _ _ _ _ hr (hx j _ _ (List.getElem?_eq_getElem hj) hy _ _ _ _ c3)⟩
    | _ => exact False.elim hle
  | frame vs' E' =>
    cases m with
    | frame vs E =>
      obtain ⟨rfl, hE⟩ := hle
      exact fun i => hE i _ _ _ _ (VR.mono hok (fun _ _ => rfl) _ _ _ _ hr (hm i))
    | _ => exact False.elim hle
  | mat e' sz' n' g0' o' ei' szi' len' g' hole' =>
    cases m with
    | mat e sz n g0 o ei szi len g hole =>
      obtain ⟨rfl, rfl, rfl, rfl, rfl, rfl, rfl, hx0, hx⟩ := hle
      obtain ⟨ho, ⟨xs, hxs, h1, hc0, hin⟩, hrows, hap⟩ := hm
      refine ⟨ho, ⟨xs, hxs, h1, fun i j hi hj hne => ?_, hin⟩, fun i hi hh => ?_, hap⟩
      · obtain ⟨cv, c1, c3⟩ := hc0 i j hi hj hne
        exact ⟨cv, c1, VR.mono hok (fun _ _ => rfl) _ _ _ _ (fun _ _ h => h) (hx0 i j hi hj hne _ _ _ _ c3)⟩
      · obtain ⟨h2, ys, hy, hy1, hyc⟩ := hrows i hi hh
        obtain ⟨e1, e2⟩ := hx i hi hh
        refine ⟨h2, ys, by rw [← e1]; exact hy, hy1, fun a b ha hb => ?_⟩
        rw [← e1] at ha
        obtain ⟨u, u1, u3⟩ := hyc a b ha hb
        exact ⟨u, u1, VR.mono hok (fun _ _ => rfl) _ _ _ _ (fun _ _ h => h) (e2 a b ha hb _ _ _ _ u3)⟩
    | _ => exact False.elim hle

theorem MOle.owns {m m' : MO} (hle : MOle m m') {v : Nat → Value} {g : Nat} (hd : m' ≠ .dead) : owns m' v g ↔ owns m v g := by
  cases m' <;> first | exact absurd rfl hd | (cases m <;> first | exact False.elim hle | exact Iff.rfl | (obtain ⟨rfl, rfl, rfl, rfl, rfl, rfl, rfl, _⟩ := hle; exact Iff.rfl))

section
variable {C : Ctx} {env env' : Env} {h h' : Heap} {ι : Loc} {a : Act} {w : World}

theorem rf_le (hh : ∀ id, MOle (h id) (h' id)) : ∀ x v, rf h ι x v → rf h' ι x v := by
  intro x v hx
  cases x with
  | radr id sz i j =>
    obtain ⟨g, n, c, h1, h2, h3⟩ := hx
    refine ⟨g, n, c, h1, h2, ?_⟩
    have := hh id
    cases hq : h' id <;> first
      | trivial
      | (cases hp : h id <;> rw [hp, hq] at this <;> rw [hp] at h3 <;> first
          | exact False.elim this
          | (obtain ⟨_, e3, e4, _⟩ := this; exact ⟨e3 ▸ h3.1, e4 ▸ h3.2⟩))
  | mrow id i =>
    obtain ⟨h1, h3⟩ := hx
    refine ⟨h1, ?_⟩
    have := hh id
    cases hq : h' id <;> first
      | trivial
      | (cases hp : h id <;> rw [hp, hq] at this <;> rw [hp] at h3 <;> first
          | exact False.elim this
          | (obtain ⟨rfl, rfl, rfl, rfl, rfl, rfl, rfl, _⟩ := this; exact h3))
  | madr id i sz a b =>
    obtain ⟨g, n, c, h1, h2, h3⟩ := hx
    refine ⟨g, n, c, h1, h2, ?_⟩
    have := hh id
    cases hq : h' id <;> first
      | trivial
      | (cases hp : h id <;> rw [hp, hq] at this <;> rw [hp] at h3 <;> first
          | exact False.elim this
          | (obtain ⟨rfl, rfl, rfl, rfl, rfl, rfl, rfl, _, hx⟩ := this; exact ⟨h3.1, h3.2.1, h3.2.2.1, (hx i h3.2.1 h3.2.2.1).1 ▸ h3.2.2.2⟩))
  | row id => exact hx
  | box id off => exact hx
  | obj id => exact hx
  | _ => exact absurd hx (by simp [rf])

theorem Rel.weaken (R : Rel C env h ι a w) (he : ∀ i, Le (env i) (env' i)) (hh : ∀ id, MOle (h id) (h' id)) : Rel C env' h' ι a w := by
  have hdead : ∀ id, h' id ≠ .dead → h id ≠ .dead := by
    intro id hl e
    have := hh id
    rw [e] at this
    cases hq : h' id with
    | dead => exact hl hq
    | _ => rw [hq] at this; exact False.elim this
  have hr := rf_le (ι := ι) hh
  have hok : ∀ b, okB C h ι w b → okB C h' ι w b := fun b hb => ⟨hb.1, hb.2.1, fun id hl hg => hb.2.2 id (hdead id hl) (((hh id).owns hl).mp hg)⟩
  constructor
  · exact R.below
  · exact R.defers
  · exact R.size
  · exact fun i => VR.mono hok (fun _ _ => rfl) _ _ _ _ hr (he i _ _ _ _ (R.env i))
  · exact fun id => MOle.kept (hh id) hok hr (R.obj id)
  · exact R.one
  · exact fun id hl g hg => R.base id (hdead id hl) g (((hh id).owns hl).mp hg)
  · exact fun id id' hl hl' hne g hg hg' => R.apart id id' (hdead id hl) (hdead id' hl') hne g (((hh id).owns hl).mp hg) (((hh id').owns hl').mp hg')

theorem Run.weaken {k : List Item} (he : ∀ i, Le (env i) (env' i)) (hh : ∀ id, MOle (h id) (h' id)) (hr : Run C k env' h') : Run C k env h :=
  ⟨fun ι a w b cs hb hkd R => hr.run ι a w b cs hb hkd (R.weaken he hh)⟩

/-- Slots, and objects, written out. -/
def lst (l : List (Nat × AV)) : Env := fun i => match l with
  | [] => .u
  | p :: l => cond (Nat.beq i p.1) p.2 (lst l i)
def lstH (l : List (Nat × MO)) : Heap := fun i => match l with
  | [] => .dead
  | p :: l => cond (Nat.beq i p.1) p.2 (lstH l i)

def fits (env : Env) : List (Nat × AV) → Prop
  | [] => True
  | p :: l => fv (env p.1) (fun x => Le x p.2) ∧ fits env l
def fitsH (h : Heap) : List (Nat × MO) → Prop
  | [] => True
  | p :: l => MOle (h p.1) p.2 ∧ fitsH h l

theorem fits_le : ∀ {l : List (Nat × AV)}, fits env l → ∀ i, Le (env i) (lst l i)
  | [], _, i => Le.u _
  | p :: l, hf, i => by
    obtain ⟨h1, h2⟩ := hf
    rw [fv_eq] at h1
    unfold lst
    cases hb : Nat.beq i p.1 with
    | true => have := Nat.eq_of_beq_eq_true hb; subst this; exact h1
    | false => exact fits_le h2 i
theorem fitsH_le : ∀ {l : List (Nat × MO)}, fitsH h l → ∀ i, MOle (h i) (lstH l i)
  | [], _, i => by cases h i <;> trivial
  | p :: l, hf, i => by
    obtain ⟨h1, h2⟩ := hf
    unfold lstH
    cases hb : Nat.beq i p.1 with
    | true => have := Nat.eq_of_beq_eq_true hb; subst this; exact h1
    | false => exact fitsH_le h2 i

theorem Run.to {k : List Item} (l : List (Nat × AV)) (lh : List (Nat × MO)) (he : fits env l) (hh : fitsH h lh) (hr : Run C k (lst l) (lstH lh)) : Run C k env h :=
  Run.weaken (fits_le he) (fitsH_le hh) hr

/-- The slots that stay through a loop, each looked at, and the ones that it turns. -/
def aforce (env : Env) : List Nat → (List (Nat × AV) → Prop) → Prop
  | [], K => K []
  | i :: r, K => fv (env i) fun x => aforce env r fun l => K ((i, x) :: l)
theorem aforce_ok : ∀ (ks : List Nat) {K : List (Nat × AV) → Prop}, aforce env ks K → ∃ l, fits env l ∧ K l
  | [], K, h => ⟨[], trivial, h⟩
  | i :: r, K, h => by
    unfold aforce at h
    rw [fv_eq] at h
    obtain ⟨l, h1, h2⟩ := aforce_ok r h
    exact ⟨(i, env i) :: l, ⟨by rw [fv_eq]; exact Le.refl _, h1⟩, h2⟩
theorem fits_append : ∀ {l1 l2 : List (Nat × AV)}, fits env l1 → fits env l2 → fits env (l1 ++ l2)
  | [], _, _, h => h
  | _ :: _, _, h1, h2 => ⟨h1.1, fits_append h1.2 h2⟩

/-- A loop: what holds at its head, for each state of its own; a measure goes down. -/
theorem Run.loop {α : Type} {k : List Item} (ks : List Nat) (E : α → List (Nat × AV)) (H : α → List (Nat × MO)) (I : α → Prop) (μ : α → Nat) (a0 : α) (h0 : I a0)
    (he : fits env (E a0)) (hh : fitsH h (H a0))
    (round : aforce env ks fun l => ∀ a, I a → (∀ a', μ a' < μ a → I a' → Run C k (lst (l ++ E a')) (lstH (H a'))) → Run C k (lst (l ++ E a)) (lstH (H a))) : Run C k env h := by
  obtain ⟨l, hl, round⟩ := aforce_ok ks round
  have key : ∀ (n : Nat) (a : α), μ a = n → I a → Run C k (lst (l ++ E a)) (lstH (H a)) := by
    intro n
    induction n using Nat.strongRecOn with
    | _ n ih =>
      intro a hn hI
      exact round a hI fun a' hlt hI' => ih (μ a') (hn ▸ hlt) a' rfl hI'
  exact Run.to _ _ (fits_append hl he) hh (key _ a0 rfl h0)

/-- The slots told anew, each looked at. -/
theorem Run.fresh {k : List Item} (ks : List Nat) (lh : List (Nat × MO)) (hh : fitsH h lh) (hr : aforce env ks fun l => Run C k (lst l) (lstH lh)) : Run C k env h := by
  obtain ⟨l, hl, hr⟩ := aforce_ok ks hr
  exact Run.to _ _ hl hh hr
end

/-! ### numbers -/
theorem wrap64 {x : Int} (h1 : -9223372036854775808 ≤ x) (h2 : x ≤ 9223372036854775807) : IntKind.i64.wrap x = x := IntWalk.i64_in x ⟨h1, h2⟩
theorem Le.int {k : IntKind} {x y : Int} (h : x = y) : Le (.int k x) (.int k y) := h ▸ Le.refl _
theorem Le.wrap64 {x y : Int} (h1 : -9223372036854775808 ≤ x) (h2 : x ≤ 9223372036854775807) (h : x = y) : Le (.int .i64 (IntKind.i64.wrap x)) (.int .i64 y) := by
  rw [V.wrap64 h1 h2, h]; exact Le.refl _
theorem Le.bool {x y : Bool} (h : x = y) : Le (.bool x) (.bool y) := h ▸ Le.refl _
theorem Le.str {x y : ByteArray} (h : x = y) : Le (.str x) (.str y) := h ▸ Le.refl _

theorem bytes_le {n b : Nat} (hb : Nat.ble b 4096 = true) (hn : n ≤ 34359738368) : n * b ≤ 140737488355328 := by
  have h1 : b ≤ 4096 := Nat.ble_eq ▸ hb
  exact Nat.le_trans (Nat.mul_le_mul hn h1) (by decide)

/-! ### lists -/
structure Ty (α : Type) where
  sz : Nat
  enc : α → Nat → AV
  z : α
def Ty.G {α : Type} (T : Ty α) (l : List α) : Nat → Nat → AV := fun i j => T.enc (l.getD i T.z) j
def Ty.L {α : Type} (T : Ty α) (l : List α) : AV := .sl l.length T.sz (T.G l)
def Ty.R {α : Type} (T : Ty α) (e : Nat) (l : List α) : MO := .row e T.sz l.length (T.G l)

theorem Ty.nil {α : Type} (T : Ty α) : Le .nils (T.L []) := Le.nils _ _
theorem Ty.join {α : Type} (T : Ty α) (e : Nat) (l x : List α) (n m : Nat) (c g : Nat → Nat → AV) (hn : n = l.length) (hm : m = x.length) (hg : ∀ i j, i < n → j < T.sz → Le (g i j) (T.G l i j)) (hc : ∀ i j, i < m → j < T.sz → Le (c i j) (T.G x i j)) :
    MOle (.row e T.sz (n + m) (joinRow n g c)) (T.R e (l ++ x)) := by
  subst hn; subst hm
  refine ⟨rfl, rfl, by simp, fun i j hi hj => ?_⟩
  unfold joinRow Ty.G
  by_cases hil : i < l.length
  · rw [if_pos hil]
    have : (l ++ x).getD i T.z = l.getD i T.z := by simp [List.getD, List.getElem?_append_left hil]
    rw [this]; exact hg i j hil hj
  · rw [if_neg hil]
    have : (l ++ x).getD i T.z = x.getD (i - l.length) T.z := by simp [List.getD, List.getElem?_append_right (Nat.le_of_not_lt hil)]
    rw [this]; exact hc _ j (by omega) hj
theorem Ty.push {α : Type} (T : Ty α) (e : Nat) (l : List α) (x : α) (c : Nat → Nat → AV) (hc : ∀ j, j < T.sz → Le (c 0 j) (T.enc x j)) : MOle (.row e T.sz (l.length + 1) (joinRow l.length (T.G l) c)) (T.R e (l ++ [x])) :=
  T.join e l [x] _ _ _ _ rfl rfl (fun _ _ _ _ => Le.refl _) (fun i j hi hj => by
    have : i = 0 := by simp at hi; omega
    subst this; exact hc j hj)
theorem Ty.set {α : Type} (T : Ty α) (e : Nat) (l : List α) (i : Nat) (x : α) (hi : i < l.length) (cs : List AV) (hcs : cs.length = T.sz) (hc : ∀ (j : Nat) y, cs[j]? = some y → Le y (T.enc x j)) :
    MOle (.row e T.sz l.length (updRow (T.G l) i 0 cs)) (T.R e (l.set i x)) := by
  refine ⟨rfl, rfl, by simp, fun i' j hi' hj => ?_⟩
  unfold updRow Ty.G
  by_cases hii : i' = i
  · subst hii
    rw [if_pos ⟨rfl, Nat.zero_le _, by omega⟩]
    have : (l.set i' x).getD i' T.z = x := by simp [List.getD, hi]
    rw [this, Nat.sub_zero]
    have hj2 : j < cs.length := by omega
    rw [List.getD, List.getElem?_eq_getElem hj2]
    exact hc j _ (List.getElem?_eq_getElem hj2)
  · rw [if_neg (fun h => hii h.1)]
    have : (l.set i x).getD i' T.z = l.getD i' T.z := by simp [List.getD, List.getElem?_set_ne (Ne.symm hii)]
    rw [this]; exact Le.refl _

def tI : Ty Int := ⟨1, fun x _ => .int .i64 x, 0⟩
def tB : Ty Bool := ⟨1, fun x _ => .bool x, false⟩
def tS : Ty ByteArray := ⟨1, fun x _ => .str x, ByteArray.empty⟩

/-! ### rows under a name of their own -/
section
variable {C : Ctx} {env : Env} {h : Heap}
theorem Run.hold {k : List Item} (s q : Nat) {z e sz n : Nat} {get : Nat → Nat → AV} (hs : env s = .row z) (hz : h z = .row e sz n get) (hne : Nat.beq z q = false)
    (hr : Run C k (upd (scrubE q env) s (.row q)) (upd (upd (scrubH q h) z .dead) q (.row e sz n get))) : Run C k env h :=
  ⟨fun ι a w b cs hb hkd R => by
    have ho := R.obj z
    rw [hz] at ho
    have hlz : h z ≠ .dead := by rw [hz]; simp
    obtain ⟨xs, hown, h1, hc⟩ := ho
    have R' := (R.make q z (.row e sz n get) (ι z 0) w (Below.refl _ _) (fun _ _ => rfl) (fun _ _ _ _ _ _ => rfl) (R.one z 0) (fun g hg => R.base z hlz g (owns_zero hg))
      (fun g hg hok => hok.2.2 z hlz (owns_zero hg)) (fun id _ hid hl g hg e' => R.apart id z hl hlz hid g hg (owns_zero e'))
      (fun ok r hok hS hrr => ⟨xs, hown, h1, fun i j hi hj => by
        obtain ⟨cv, c1, c3⟩ := hc i j hi hj
        exact ⟨cv, c1, VR.mono hok (fun _ _ => rfl) _ _ _ _ (fun _ _ h => h) c3⟩⟩)).1
    refine hr.run (upd ι q (fun _ => ι z 0)) a w b cs hb hkd (R'.env_ (fun i => ?_))
    by_cases hi : i = s
    · subst hi
      rw [upd_same]
      have hv := R.env i
      rw [hs] at hv
      show _ = upd ι q (fun _ => ι z 0) q 0
      rw [upd_same]; exact hv
    · rw [upd_other _ _ hi]; exact R'.env i⟩

/-- A row of empty slices, told as nested rows. -/
theorem Run.asMat {k : List Item} (id o ei szi : Nat) {e sz n : Nat} {get : Nat → Nat → AV} (hh : h id = .row e sz n get) (ho : o < sz) (hn : ∀ i, i < n → get i o = .nils)
    (hr : Run C k (scrubIE id env) (upd (upd (scrubIH id h) id .dead) id (.mat e sz n get o ei szi (fun _ => 0) (fun _ _ _ => .u) none))) : Run C k env h :=
  ⟨fun ι a w b cs hb hkd R => hr.run _ a w b cs hb hkd (R.asMat id o ei szi hh ho hn)⟩

theorem Run.holdNil {k : List Item} (s q e sz : Nat) (get : Nat → Nat → AV) (hs : env s = .nils)
    (hr : Run C k (upd (scrubE q env) s (.row q)) (upd (upd (scrubH q h) q .dead) q (.row e sz 0 get))) : Run C k env h :=
  ⟨fun ι a w b cs hb hkd R => by
    have R' := (R.make q q (.row e sz 0 get) (.slice none 0 0) w (Below.refl _ _) (fun _ _ => rfl) (fun _ _ _ _ _ _ => rfl) rfl (fun g hg => by cases hg)
      (fun g hg => by cases hg) (fun id _ _ _ g hg e' => by cases e')
      (fun ok r hok hS hrr => ⟨[], ownsX_nil w C.B e sz, by simp, fun i j hi => by omega⟩)).1
    refine hr.run (upd ι q (fun _ => .slice none 0 0)) a w b cs hb hkd (R'.env_ (fun i => ?_))
    by_cases hi : i = s
    · subst hi
      rw [upd_same]
      have hv := R.env i
      rw [hs] at hv
      show _ = upd ι q (fun _ => .slice none 0 0) q 0
      rw [upd_same]; exact hv
    · rw [upd_other _ _ hi]; exact R'.env i⟩
end

end Go.Proofs.YtfodjmemdkibpaaDoor.V

