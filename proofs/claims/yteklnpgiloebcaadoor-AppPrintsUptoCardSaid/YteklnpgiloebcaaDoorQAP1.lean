/-
The texts MB, MC, of each what the law needs.
-/
import Derived.Test.YteklnpgiloebcaaDoorQAP0
import Derived.Maps.Keyed
import Derived.Lib.AppendStr
import Derived.Lib.UnsafeStr
import Derived.Laws.StructEq
import Derived.Laws.Pointers
import Derived.Lib.Builder
import Derived.Laws.Cover3
namespace Go.Proofs.YteklnpgiloebcaaDoor.V
set_option linter.unusedVariables false
set_option linter.unusedSimpArgs false
open Go Go.RowKit

def findL {α β : Type} [DecidableEq α] (k : α) : List (α × β) → Nat → Option (Nat × β)
  | [], _ => none
  | p :: l, i => if k = p.1 then some (i, p.2) else findL k l (i + 1)
/-- What is put under a key: in its place, or at the end. -/
def mset {α β : Type} [DecidableEq α] (k : α) (v : β) : List (α × β) → List (α × β)
  | [] => [(k, v)]
  | p :: l => if k = p.1 then (k, v) :: l else p :: mset k v l
def mget {α β : Type} [DecidableEq α] (k : α) : List (α × β) → Option β
  | [] => none
  | p :: l => if k = p.1 then some p.2 else mget k l
def ins {α : Type} [DecidableEq α] (k : α) : List α → List α
  | [] => [k]
  | p :: l => if k = p then p :: l else p :: ins k l

theorem findNow_gen {α β : Type} [DecidableEq α] (kind : TypeDesc) (f : α → Value) (g : β → Value) (hs : ∀ a b, Instr.sameNow kind (f a) (f b) = some (decide (a = b))) (k : α) :
    ∀ (L : List (α × β)) (es : List MapEntry) (i : Nat), es.map (fun e => (e.key, e.val)) = L.map (fun p => (f p.1, g p.2)) → Instr.findNow kind (f k) es i = some ((findL k L i).map fun q => (q.1, g q.2))
  | [], [], i, _ => rfl
  | [], e :: es, i, h => by cases h
  | p :: L, [], i, h => by cases h
  | p :: L, e :: es, i, h => by
    simp only [List.map_cons, List.cons.injEq] at h
    obtain ⟨h1, h2⟩ := h
    have hk : e.key = f p.1 := congrArg Prod.fst h1
    have hv : e.val = g p.2 := congrArg Prod.snd h1
    simp only [Instr.findNow, findL, hk, hs]
    by_cases e1 : k = p.1
    · rw [decide_eq_true e1, if_pos e1, hv]; rfl
    · rw [decide_eq_false e1, if_neg e1]
      exact findNow_gen kind f g hs k L es (i + 1) h2

theorem findL_get {α β : Type} [DecidableEq α] (k : α) : ∀ (L : List (α × β)) (i : Nat), (findL k L i).map (·.2) = mget k L
  | [], i => rfl
  | p :: L, i => by
    unfold findL mget
    split
    · rfl
    · exact findL_get k L (i + 1)

theorem findL_some {α β : Type} [DecidableEq α] (k : α) (v : β) : ∀ (L : List (α × β)) (i j : Nat) (u : β), findL k L i = some (j, u) → i ≤ j ∧ L[j - i]? = some (k, u) ∧ mset k v L = L.set (j - i) (k, v)
  | [], i, j, u, h => by cases h
  | p :: L, i, j, u, h => by
    unfold findL at h
    split at h
    · rename_i e
      cases h
      refine ⟨Nat.le_refl _, ?_, ?_⟩
      · simp [e]
      · simp [mset, e]
    · rename_i e
      obtain ⟨h1, h2, h3⟩ := findL_some k v L (i + 1) j u h
      have h4 : j - i = (j - (i + 1)) + 1 := by omega
      refine ⟨by omega, ?_, ?_⟩
      · rw [h4, List.getElem?_cons_succ]; exact h2
      · rw [h4, List.set_cons_succ, mset, if_neg e, h3]
theorem findL_none {α β : Type} [DecidableEq α] (k : α) (v : β) : ∀ (L : List (α × β)) (i : Nat), findL k L i = none → mset k v L = L ++ [(k, v)]
  | [], i, h => rfl
  | p :: L, i, h => by
    unfold findL at h
    split at h
    · cases h
    · rename_i e
      rw [mset, if_neg e, findL_none k v L (i + 1) h]; rfl

theorem bytes_beq (a b : ByteArray) : (a == b) = decide (a = b) := by
  by_cases e : a = b
  · rw [decide_eq_true e]; exact MapKept.bytes_beq a b |>.mpr e
  · rw [decide_eq_false e, Bool.eq_false_iff]; exact fun h => e (MapKept.bytes_beq a b |>.mp h)
theorem bytes_beq_self (a : ByteArray) : (a == a) = true := by rw [bytes_beq]; exact decide_eq_true rfl
/-- A kind of key that is compared at once. -/
structure KeyTy (P : Program) (t : TypeId) {α : Type} [DecidableEq α] (f : α → Value) : Prop where
  kind : ∃ kind, P.underlying t = some kind ∧ ∀ a b, Instr.sameNow kind (f a) (f b) = some (decide (a = b))
  check : ∀ (w : World) (e : Bool) a, (Instr.checkKey e 10000 t (f a)).run P w = .ok () w
  stays : ∀ (w : World) a, (Instr.keyThatStays (f a) (f a)).run P w = .ok (f a) w

theorem KeyTy.int {P : Program} {t : TypeId} {k : IntKind} (ht : P.underlying t = some (.int k)) : KeyTy P t (fun n : Int => .int k n) := by
  refine ⟨⟨_, ht, fun a b => by simp [Instr.sameNow, BEq.beq]⟩, fun w e a => ?_, fun w a => ?_⟩
  · show (Instr.checkKey e (9999 + 1) t (.int k a)).run P w = _
    rw [Instr.checkKey]
    simp [run_underlying ht]
  · have : Instr.sameBits 10000 (.int k a) (.int k a) = true := by rw [Instr.sameBits.eq_def]; simp
    simp [Instr.keyThatStays, this]
theorem KeyTy.str {P : Program} {t : TypeId} (ht : P.underlying t = some .string) : KeyTy P t (fun s : ByteArray => .string s) := by
  refine ⟨⟨_, ht, fun a b => by simp only [Instr.sameNow]; congr 1; exact bytes_beq a b⟩, fun w e a => ?_, fun w a => ?_⟩
  · show (Instr.checkKey e (9999 + 1) t (.string a)).run P w = _
    rw [Instr.checkKey]
    simp [run_underlying ht]
  · have : Instr.sameBits 10000 (.string a) (.string a) = true := by rw [Instr.sameBits.eq_def]; exact bytes_beq_self a
    simp [Instr.keyThatStays, this]

section
variable {P : Program} {α β : Type} [DecidableEq α] {f : α → Value} {g : β → Value} {kt vt t : TypeId}

theorem run_lookup (K : KeyTy P kt f) (ht : P.underlying t = some (.map kt vt)) {z : Value} {w : World} (hz : (zeroValue vt).run P w = .ok z w) {b : Nat} {es : Array MapEntry} {clock : Nat}
    (hb : w.heap[b]? = some (.map es clock)) {L : List (α × β)} (he : es.toList.map (fun e => (e.key, e.val)) = L.map (fun p => (f p.1, g p.2))) (k : α) (c : Bool) :
    (Instr.lookup t (.map (some b)) (f k) c).run P w = .ok (if c then .tuple #[((mget k L).map g).getD z, .bool (mget k L).isSome] else ((mget k L).map g).getD z) w := by
  obtain ⟨kind, hk, hs⟩ := K.kind
  have hf := findNow_gen kind f g hs k L es.toList 0 he
  have hg := findL_get k L 0
  cases hq : findL k L 0 with
  | none =>
    rw [hq] at hf hg
    rw [← hg]
    cases c <;> simp [Instr.lookup, run_underlying ht, MapKept.run_getObj_map hb, K.check, Instr.findKey, run_underlying hk, hf, hz]
  | some q =>
    rw [hq] at hf hg
    rw [← hg]
    cases c <;> simp [Instr.lookup, run_underlying ht, MapKept.run_getObj_map hb, K.check, Instr.findKey, run_underlying hk, hf]

theorem run_update (K : KeyTy P kt f) (ht : P.underlying t = some (.map kt vt)) {w : World} {b : Nat} {es : Array MapEntry} {clock : Nat}
    (hb : w.heap[b]? = some (.map es clock)) {L : List (α × β)} (he : es.toList.map (fun e => (e.key, e.val)) = L.map (fun p => (f p.1, g p.2))) (k : α) (v : β) :
    ∃ es' clock', (Instr.mapUpdate t (.map (some b)) (f k) (g v)).run P w = .ok () { w with heap := w.heap.setIfInBounds b (.map es' clock') } ∧ es'.toList.map (fun e => (e.key, e.val)) = (mset k v L).map (fun p => (f p.1, g p.2)) := by
  obtain ⟨kind, hk, hs⟩ := K.kind
  have hf := findNow_gen kind f g hs k L es.toList 0 he
  cases hq : findL k L 0 with
  | none =>
    rw [hq] at hf
    refine ⟨es.push ⟨f k, g v, clock⟩, clock + 1, ?_, ?_⟩
    · simp [Instr.mapUpdate, run_underlying ht, MapKept.run_getObj_map hb, K.check, Instr.findKey, run_underlying hk, hf, MapKept.run_setObj_map _ hb, Result.andThen]
    · rw [findL_none k v L 0 hq]; simp [he]
  | some q =>
    obtain ⟨j, u⟩ := q
    rw [hq] at hf
    obtain ⟨_, h2, h3⟩ := findL_some k v L 0 j u hq
    rw [Nat.sub_zero] at h2 h3
    have h4 : (es.toList.map (fun e => (e.key, e.val)))[j]? = some (f k, g u) := by rw [he, List.getElem?_map, h2]; rfl
    rw [List.getElem?_map] at h4
    cases hj : es.toList[j]? with
    | none => rw [hj] at h4; cases h4
    | some e0 =>
      rw [hj] at h4
      have h5 : e0.key = f k := by injection h4 with h4; exact congrArg Prod.fst h4
      have hj' : es[j]? = some e0 := by simpa using hj
      refine ⟨es.modify j (fun e' => { e' with key := f k, val := g v }), clock, ?_, ?_⟩
      · simp [Instr.mapUpdate, run_underlying ht, MapKept.run_getObj_map hb, K.check, Instr.findKey, run_underlying hk, hf, MapKept.run_setObj_map _ hb, Result.andThen, hj', h5, K.stays]
      · have hjl : j < es.toList.length := (List.getElem?_eq_some_iff.1 hj).1
        rw [h3, Array.toList_modify, List.map_set, ← he]
        refine List.ext_getElem? fun i => ?_
        rw [List.getElem?_map, List.getElem?_modify, List.getElem?_set]
        by_cases hij : j = i
        · subst hij
          rw [if_pos rfl, hj, if_pos (by simpa using hjl)]
          simp
        · rw [if_neg hij, List.getElem?_map]; simp [hij]
end

theorem mset_ins {α : Type} [DecidableEq α] (k : α) : ∀ (l : List α), mset k true (l.map fun x => (x, true)) = (ins k l).map fun x => (x, true)
  | [] => rfl
  | p :: l => by
    simp only [List.map_cons, mset, ins]
    split
    · rename_i e; subst e; rfl
    · rw [mset_ins k l]; rfl
def hasK {α : Type} [DecidableEq α] (k : α) : List α → Bool
  | [] => false
  | p :: l => decide (k = p) || hasK k l
theorem hasK_iff {α : Type} [DecidableEq α] (k : α) : ∀ (l : List α), hasK k l = true ↔ k ∈ l
  | [] => by simp [hasK]
  | p :: l => by simp [hasK, hasK_iff k l]
theorem hasK_not {α : Type} [DecidableEq α] (k : α) (l : List α) : hasK k l = false ↔ k ∉ l := by
  rw [← hasK_iff, Bool.not_eq_true]
theorem mget_set {α : Type} [DecidableEq α] (k : α) : ∀ (l : List α), mget k (l.map fun x => (x, true)) = if hasK k l then some true else none
  | [] => rfl
  | p :: l => by
    simp only [List.map_cons, mget, hasK]
    by_cases e : k = p
    · simp [e]
    · simp only [if_neg e, decide_eq_false e, Bool.false_or]; exact mget_set k l

/-! ### the abstract side -/
def mkind (P : TT) (t : TypeId) : Option MK :=
  match P.underlying t with
  | some (.map k e) => match P.underlying k, P.underlying e with
    | some (.int .i64), some .bool => some (.ib [])
    | some .string, some .bool => some (.sb [])
    | some (.int .i64), some (.int .i64) => some (.ii [])
    | some .string, some (.int .i64) => some (.si [])
    | _, _ => none
  | _ => none

def amakeMap (P : TT) (t d : Nat) (env : Env) (h : Heap) (K : Env → Heap → AV → Prop) (stop : Prop) : Prop :=
  match mkind P t with
  | some m => K (scrubE d env) (upd (upd (scrubH d h) d .dead) d (.mp m)) (.obj d)
  | none => stop

/-- What is asked of a map. -/
def alookup (P : TT) (h : Heap) (t : TypeId) (x k : AV) (c : Bool) (K : AV → Prop) (stop : Prop) : Prop :=
  match x with
  | .obj id => match h id, P.underlying t, k with
    | .mp (.ib l), some (.map kt vt), .int .i64 n => match P.underlying kt, P.zero vt with
      | some (.int .i64), some [.ff] => cond (P.one vt) (cond c (K (.tup 2 (fun j => bif Nat.beq j 0 then .bool (hasK n l) else .bool (hasK n l)))) (K (.bool (hasK n l)))) stop
      | _, _ => stop
    | .mp (.sb l), some (.map kt vt), .str n => match P.underlying kt, P.zero vt with
      | some .string, some [.ff] => cond (P.one vt) (cond c (K (.tup 2 (fun j => bif Nat.beq j 0 then .bool (hasK n l) else .bool (hasK n l)))) (K (.bool (hasK n l)))) stop
      | _, _ => stop
    | .mp (.ii l), some (.map kt vt), .int .i64 n => match P.underlying kt, P.zero vt with
      | some (.int .i64), some [.int .i64 0] => cond (P.one vt) (cond c (K (.tup 2 (fun j => bif Nat.beq j 0 then .int .i64 ((mget n l).getD 0) else .bool (mget n l).isSome))) (K (.int .i64 ((mget n l).getD 0)))) stop
      | _, _ => stop
    | .mp (.si l), some (.map kt vt), .str n => match P.underlying kt, P.zero vt with
      | some .string, some [.int .i64 0] => cond (P.one vt) (cond c (K (.tup 2 (fun j => bif Nat.beq j 0 then .int .i64 ((mget n l).getD 0) else .bool (mget n l).isSome))) (K (.int .i64 ((mget n l).getD 0)))) stop
      | _, _ => stop
    | _, _, _ => stop
  | _ => stop

def aupdate (P : TT) (h : Heap) (t : TypeId) (x k v : AV) (K : Heap → Prop) (stop : Prop) : Prop :=
  match x with
  | .obj id => match h id, P.underlying t, k, v with
    | .mp (.ib l), some (.map kt vt), .int .i64 n, .tt => match P.underlying kt with | some (.int .i64) => K (upd h id (.mp (.ib (ins n l)))) | _ => stop
    | .mp (.sb l), some (.map kt vt), .str n, .tt => match P.underlying kt with | some .string => K (upd h id (.mp (.sb (ins n l)))) | _ => stop
    | .mp (.ii l), some (.map kt vt), .int .i64 n, .int .i64 u => match P.underlying kt with | some (.int .i64) => K (upd h id (.mp (.ii (mset n u l)))) | _ => stop
    | .mp (.si l), some (.map kt vt), .str n, .int .i64 u => match P.underlying kt with | some .string => K (upd h id (.mp (.si (mset n u l)))) | _ => stop
    | _, _, _, _ => stop
  | _ => stop

section
variable {C : Ctx} {env : Env} {h : Heap} {ι : Loc} {a : Act} {w : World}

theorem run_zero1 {t : TypeId} {z : AV} (hz : C.T.zero t = some [z]) (h1' : C.T.one t = true) {u : Value} (hu : z = .ff ∧ u = .bool false ∨ z = .int .i64 0 ∧ u = .int .i64 0) : (zeroValue t).run C.P w = .ok u w := by
  obtain ⟨i, zv, hi, hzz, hs, hc⟩ := zeroL_ok (C.zeroes hz).1
  obtain ⟨c, h1, h2, h3⟩ := hc w (fun _ => False) noref 0 z rfl
  have hcu : c = u := by
    rcases hu with ⟨rfl, rfl⟩ | ⟨rfl, rfl⟩ <;> exact h3
  subst hcu
  have : zv = c := by
    have h5 := C.ones h1'
    have h4 : zv.cells.size = 1 := hs
    cases zv with
    | agg cs => unfold zeroOne at h5; rw [hi] at h5; simp [hzz] at h5
    | _ => simpa [Value.cells] using h1
  subst this
  simp [zeroValue, typeInfo, hi, hzz]

theorem amakeMap_ok (R : Rel C env h ι a w) {t d : Nat} {K : Env → Heap → AV → Prop} {stop : Prop} (hk : amakeMap C.T t d env h K stop) : stop ∨ Out C a w (Instr.makeMap t none) K := by
  unfold amakeMap at hk
  split at hk
  · rename_i m hm
    have hent : m.entries = [] := by
      unfold mkind at hm
      split at hm
      · split at hm <;> (cases hm) <;> rfl
      · cases hm
    have R' := (R.make d d (.mp m) (.map (some w.heap.size)) (w.alloc (.map #[] 0)) (below_alloc C R.below _) (fun b hb => Below.heap_alloc _ _ _ hb.1)
      (fun id _ _ hl g hg => Below.heap_alloc _ _ _ (R.base id hl g hg).2) rfl (fun g hg => by cases hg; exact ⟨R.below.size, by simp⟩)
      (fun g hg hb => by cases hg; exact absurd hb.1 (Nat.lt_irrefl _)) (fun id _ _ hl g hg e => by cases e; exact absurd (R.base id hl _ hg).2 (Nat.lt_irrefl _))
      (fun ok r hok hS hr => ⟨_, _, _, rfl, heap_alloc_new w _, by rw [hent]; rfl⟩)).1
    refine .inr ⟨.map (some w.heap.size), _, _, _, _, _, ?_, R', ?_, hk⟩
    · simp [Instr.makeMap, newObj, Sem.run]
    · show _ = upd ι d _ d 0
      rw [upd_same]
  · exact .inl hk

theorem obj_map (R : Rel C env h ι a w) {id : Nat} {m : MK} {v : Value} (hx : VR w (okB C h ι w) (.obj id) (rf h ι) v) (hh : h id = .mp m) :
    ∃ g es clock, v = .map (some g) ∧ ι id 0 = .map (some g) ∧ w.heap[g]? = some (.map es clock) ∧ es.toList.map (fun e => (e.key, e.val)) = m.entries := by
  have ho := R.obj id
  rw [hh] at ho
  obtain ⟨g, es, clock, e1, e2, e3⟩ := ho
  have hv : v = ι id 0 := hx
  exact ⟨g, es, clock, hv.trans e1, e1, e2, e3⟩

theorem alookup_ok (R : Rel C env h ι a w) {t : TypeId} {x k : AV} {v u : Value} {c : Bool} {K : AV → Prop} {stop : Prop} (hx : VR w (okB C h ι w) x (rf h ι) v) (hu : VR w (okB C h ι w) k (rf h ι) u)
    (hk : alookup C.T h t x k c K stop) : stop ∨ ∃ z m, (Instr.lookup t v u c).run C.P w = .ok m w ∧ VR w (okB C h ι w) z (rf h ι) m ∧ K z := by
  have tup : ∀ (p q : AV) (P Q : Value), VR w (okB C h ι w) p (rf h ι) P → VR w (okB C h ι w) q (rf h ι) Q → VR w (okB C h ι w) (.tup 2 (fun j => bif Nat.beq j 0 then p else q)) (rf h ι) (.tuple #[P, Q]) := by
    intro p q P Q hp hq
    refine ⟨_, rfl, rfl, fun j hj => ?_⟩
    match j, hj with
    | 0, _ => exact ⟨P, rfl, hp⟩
    | 1, _ => exact ⟨Q, rfl, hq⟩
  unfold alookup at hk
  split at hk
  · rename_i id
    split at hk
    · rename_i l kt vt n hh ht
      obtain ⟨g, es, clock, rfl, _, hg, he⟩ := obj_map R hx hh
      have hu' : u = .int .i64 n := hu
      subst hu'
      split at hk
      · rename_i hkt hz
        cases h1 : C.T.one vt with
        | false => rw [h1] at hk; exact .inl hk
        | true =>
          rw [h1, cond_true] at hk
          have hrun := run_lookup (g := fun b : Bool => Value.bool b) (KeyTy.int (C.und hkt)) (C.und ht) (run_zero1 hz h1 (.inl ⟨rfl, rfl⟩)) hg (L := l.map fun x => (x, true)) (by rw [he]; simp [MK.entries]) n c
          have e : ((mget n (l.map fun x => (x, true))).map fun b : Bool => Value.bool b).getD (.bool false) = .bool (hasK n l) := by rw [mget_set]; cases hasK n l <;> rfl
          have e' : (mget n (l.map fun x => (x, true))).isSome = hasK n l := by rw [mget_set]; cases hasK n l <;> rfl
          rw [e, e'] at hrun
          cases c with
          | true => exact .inr ⟨_, _, hrun, tup (.bool (hasK n l)) (.bool (hasK n l)) _ _ rfl rfl, hk⟩
          | false => exact .inr ⟨(.bool (hasK n l)), _, hrun, rfl, hk⟩
      · exact .inl hk
    · rename_i l kt vt n hh ht
      obtain ⟨g, es, clock, rfl, _, hg, he⟩ := obj_map R hx hh
      have hu' : u = .string n := hu.1
      subst hu'
      split at hk
      · rename_i hkt hz
        cases h1 : C.T.one vt with
        | false => rw [h1] at hk; exact .inl hk
        | true =>
          rw [h1, cond_true] at hk
          have hrun := run_lookup (g := fun b : Bool => Value.bool b) (KeyTy.str (C.und hkt)) (C.und ht) (run_zero1 hz h1 (.inl ⟨rfl, rfl⟩)) hg (L := l.map fun x => (x, true)) (by rw [he]; simp [MK.entries]) n c
          have e : ((mget n (l.map fun x => (x, true))).map fun b : Bool => Value.bool b).getD (.bool false) = .bool (hasK n l) := by rw [mget_set]; cases hasK n l <;> rfl
          have e' : (mget n (l.map fun x => (x, true))).isSome = hasK n l := by rw [mget_set]; cases hasK n l <;> rfl
          rw [e, e'] at hrun
          cases c with
          | true => exact .inr ⟨_, _, hrun, tup (.bool (hasK n l)) (.bool (hasK n l)) _ _ rfl rfl, hk⟩
          | false => exact .inr ⟨(.bool (hasK n l)), _, hrun, rfl, hk⟩
      · exact .inl hk
    · rename_i l kt vt n hh ht
      obtain ⟨g, es, clock, rfl, _, hg, he⟩ := obj_map R hx hh
      have hu' : u = .int .i64 n := hu
      subst hu'
      split at hk
      · rename_i hkt hz
        cases h1 : C.T.one vt with
        | false => rw [h1] at hk; exact .inl hk
        | true =>
          rw [h1, cond_true] at hk
          have hrun := run_lookup (g := fun b : Int => Value.int .i64 b) (KeyTy.int (C.und hkt)) (C.und ht) (run_zero1 hz h1 (.inr ⟨rfl, rfl⟩)) hg (L := l) he n c
          have e : ((mget n l).map fun b : Int => Value.int .i64 b).getD (.int .i64 0) = .int .i64 ((mget n l).getD 0) := by cases mget n l <;> rfl
          rw [e] at hrun
          cases c with
          | true => exact .inr ⟨_, _, hrun, tup (.int .i64 ((mget n l).getD 0)) (.bool (mget n l).isSome) _ _ rfl rfl, hk⟩
          | false => exact .inr ⟨(.int .i64 ((mget n l).getD 0)), _, hrun, rfl, hk⟩
      · exact .inl hk
    · rename_i l kt vt n hh ht
      obtain ⟨g, es, clock, rfl, _, hg, he⟩ := obj_map R hx hh
      have hu' : u = .string n := hu.1
      subst hu'
      split at hk
      · rename_i hkt hz
        cases h1 : C.T.one vt with
        | false => rw [h1] at hk; exact .inl hk
        | true =>
          rw [h1, cond_true] at hk
          have hrun := run_lookup (g := fun b : Int => Value.int .i64 b) (KeyTy.str (C.und hkt)) (C.und ht) (run_zero1 hz h1 (.inr ⟨rfl, rfl⟩)) hg (L := l) he n c
          have e : ((mget n l).map fun b : Int => Value.int .i64 b).getD (.int .i64 0) = .int .i64 ((mget n l).getD 0) := by cases mget n l <;> rfl
          rw [e] at hrun
          cases c with
          | true => exact .inr ⟨_, _, hrun, tup (.int .i64 ((mget n l).getD 0)) (.bool (mget n l).isSome) _ _ rfl rfl, hk⟩
          | false => exact .inr ⟨(.int .i64 ((mget n l).getD 0)), _, hrun, rfl, hk⟩
      · exact .inl hk
    · exact .inl hk
  · exact .inl hk

theorem Rel.setMap (R : Rel C env h ι a w) {id g : Nat} {es : Array MapEntry} {clock : Nat} {m m' : MK} (hh : h id = .mp m) (hι : ι id 0 = .map (some g)) (hg : w.heap[g]? = some (.map es clock)) {es' : Array MapEntry} {clock' : Nat}
    (he : es'.toList.map (fun e => (e.key, e.val)) = m'.entries) : Rel C env (upd h id (.mp m')) ι a { w with heap := w.heap.setIfInBounds g (.map es' clock') } := by
  have hl : h id ≠ .dead := by rw [hh]; simp
  have hb := R.base id hl g (owns_zero (by rw [hι]; rfl))
  have hne : ∀ b, b ≠ g → (w.heap.setIfInBounds g (.map es' clock'))[b]? = w.heap[b]? := fun b hb => by rw [Array.getElem?_setIfInBounds, if_neg (Ne.symm hb)]
  refine R.set id (.mp m') _ ⟨rfl, rfl, rfl, by simp, fun k hk => hne k (by have := hb.1; omega)⟩ hl (fun b hb' _ => hne b (hb' g (by rw [hι]; rfl))) (by trivial) (fun r ok _ _ _ => ⟨g, es', clock', hι, ?_, he⟩)
  show (w.heap.setIfInBounds g (.map es' clock'))[g]? = _
  rw [Array.getElem?_setIfInBounds, if_pos rfl, if_pos hb.2]

theorem aupdate_ok (R : Rel C env h ι a w) {t : TypeId} {x k y : AV} {v u q : Value} {K : Heap → Prop} {stop : Prop} (hx : VR w (okB C h ι w) x (rf h ι) v) (hu : VR w (okB C h ι w) k (rf h ι) u)
    (hq : VR w (okB C h ι w) y (rf h ι) q) (hk : aupdate C.T h t x k y K stop) : stop ∨ ∃ w' h', (Instr.mapUpdate t v u q).run C.P w = .ok () w' ∧ Rel C env h' ι a w' ∧ K h' := by
  unfold aupdate at hk
  split at hk
  · rename_i id
    split at hk
    · rename_i l kt vt n hh ht
      obtain ⟨g, es, clock, rfl, hι, hg, he⟩ := obj_map R hx hh
      have hu' : u = .int .i64 n := hu
      have hq' : q = .bool true := hq
      subst hu'; subst hq'
      split at hk
      · rename_i hkt
        obtain ⟨es', clock', hrun, he'⟩ := run_update (g := fun b : Bool => Value.bool b) (KeyTy.int (C.und hkt)) (C.und ht) hg (L := l.map fun x => (x, true)) (by rw [he]; simp [MK.entries]) n true
        exact .inr ⟨_, _, hrun, R.setMap hh hι hg (by rw [he', mset_ins]; simp [MK.entries]), hk⟩
      · exact .inl hk
    · rename_i l kt vt n hh ht
      obtain ⟨g, es, clock, rfl, hι, hg, he⟩ := obj_map R hx hh
      have hu' : u = .string n := hu.1
      have hq' : q = .bool true := hq
      subst hu'; subst hq'
      split at hk
      · rename_i hkt
        obtain ⟨es', clock', hrun, he'⟩ := run_update (g := fun b : Bool => Value.bool b) (KeyTy.str (C.und hkt)) (C.und ht) hg (L := l.map fun x => (x, true)) (by rw [he]; simp [MK.entries]) n true
        exact .inr ⟨_, _, hrun, R.setMap hh hι hg (by rw [he', mset_ins]; simp [MK.entries]), hk⟩
      · exact .inl hk
    · rename_i l kt vt n m hh ht
      obtain ⟨g, es, clock, rfl, hι, hg, he⟩ := obj_map R hx hh
      have hu' : u = .int .i64 n := hu
      have hq' : q = .int .i64 m := hq
      subst hu'; subst hq'
      split at hk
      · rename_i hkt
        obtain ⟨es', clock', hrun, he'⟩ := run_update (g := fun b : Int => Value.int .i64 b) (KeyTy.int (C.und hkt)) (C.und ht) hg (L := l) he n m
        exact .inr ⟨_, _, hrun, R.setMap (m' := .ii (mset n m l)) hh hι hg he', hk⟩
      · exact .inl hk
    · rename_i l kt vt n m hh ht
      obtain ⟨g, es, clock, rfl, hι, hg, he⟩ := obj_map R hx hh
      have hu' : u = .string n := hu.1
      have hq' : q = .int .i64 m := hq
      subst hu'; subst hq'
      split at hk
      · rename_i hkt
        obtain ⟨es', clock', hrun, he'⟩ := run_update (g := fun b : Int => Value.int .i64 b) (KeyTy.str (C.und hkt)) (C.und ht) hg (L := l) he n m
        exact .inr ⟨_, _, hrun, R.setMap (m' := .si (mset n m l)) hh hι hg he', hk⟩
      · exact .inl hk
    · exact .inl hk
  · exact .inl hk
end

end Go.Proofs.YteklnpgiloebcaaDoor.V

namespace Go.Proofs.YteklnpgiloebcaaDoor.V
set_option linter.unusedVariables false
set_option linter.unusedSimpArgs false
open Go Go.RowKit

/-- What leads into the inner rows of 'd' is forgotten. -/
def scrubI (d : Nat) : AV → AV
  | .mrow id i => cond (Nat.beq id d) .u (.mrow id i)
  | .madr id i sz a b => cond (Nat.beq id d) .u (.madr id i sz a b)
  | .agg n get => .agg n (fun j => scrubI d (get j))
  | .tup n get => .tup n (fun j => scrubI d (get j))
  | x => x
def scrubIE (d : Nat) (env : Env) : Env := fun i => scrubI d (env i)
def scrubIH (d : Nat) (h : Heap) : Heap := fun id => scrM (scrubI d) (h id)

theorem scrubI_scr (d : Nat) : Scr (scrubI d) := by
  refine ⟨fun _ _ => rfl, fun _ _ => rfl, fun x h1 h2 h3 => ?_⟩
  cases x <;> first
    | rfl
    | exact absurd rfl (h2 _ _)
    | exact absurd rfl (h3 _ _)
    | (exfalso; exact h1 (fun _ => .dead) (fun _ _ => .nilIface) _ ⟨rfl, trivial⟩)
    | (exfalso; exact h1 (fun _ => .dead) (fun _ _ => .slice (some ⟨0, 0, none⟩) 0 0) _ ⟨0, 0, 0, rfl, rfl, trivial⟩)

/-- What leads to 'd' from outside is as it was; the rest too, where nothing has been done. -/
theorem rf_scrubI {d z : Nat} {h h' : Heap} {ι ι' : Loc} (hι : ∀ id, id ≠ d → ι' id = ι id) (h0 : ι' d 0 = ι d 0) (hm : ∀ id, id ≠ d → h' id = .dead ∨ h' id = scrM (scrubI d) (h id))
    (hd : match h' d with | .row _ sz n _ => (match h d with | .row _ sz0 n0 _ => sz0 = sz ∧ n0 = n | .mat _ sz0 n0 _ _ _ _ _ _ _ => sz0 = sz ∧ n0 = n | _ => False) | .mat _ sz n _ _ _ _ _ _ _ => (match h d with | .row _ sz0 n0 _ => sz0 = sz ∧ n0 = n | .mat _ sz0 n0 _ _ _ _ _ _ _ => sz0 = sz ∧ n0 = n | _ => False) | _ => True)
    {w : World} {ok : Nat → Prop} {x : AV} {v : Value} (hr : rf h ι x v) : VR w ok (scrubI d x) (rf h' ι') v := by
  cases x with
  | row id =>
    by_cases e : id = d
    · subst e; exact (show v = ι id 0 from hr).trans h0.symm
    · exact (show v = ι id 0 from hr).trans (by rw [hι id e])
  | obj id =>
    by_cases e : id = d
    · subst e; exact (show v = ι id 0 from hr).trans h0.symm
    · exact (show v = ι id 0 from hr).trans (by rw [hι id e])
  | box id off =>
    obtain ⟨g, h1, h2⟩ := hr
    by_cases e : id = d
    · subst e; exact ⟨g, h0.trans h1, h2⟩
    · exact ⟨g, by rw [hι id e]; exact h1, h2⟩
  | radr id sz i j =>
    obtain ⟨g, n, c, h1, h2, h3⟩ := hr
    by_cases e : id = d
    · subst e
      refine ⟨g, n, c, h0.trans h1, h2, ?_⟩
      cases hq : h' id <;> rw [hq] at hd <;> first
        | trivial
        | (cases hp : h id <;> rw [hp] at hd h3 <;> first
            | exact hd.elim
            | (obtain ⟨e1, e2⟩ := hd; exact ⟨e1 ▸ h3.1, e2 ▸ h3.2⟩))
    · refine ⟨g, n, c, by rw [hι id e]; exact h1, h2, ?_⟩
      rcases hm id e with e2 | e2
      · rw [e2]; trivial
      · rw [e2]
        cases hq : h id <;> rw [hq] at h3 <;> first | trivial | exact h3
  | mrow id i =>
    by_cases e : id = d
    · subst e; simp [scrubI, VR]
    · simp only [scrubI, beq_ne e, cond_false, VR]
      refine ⟨hr.1.trans (by rw [hι id e]), ?_⟩
      have h3 := hr.2
      rcases hm id e with e2 | e2
      · rw [e2]; trivial
      · rw [e2]
        cases hq : h id <;> rw [hq] at h3 <;> first | trivial | exact h3
  | madr id i sz a b =>
    by_cases e : id = d
    · subst e; simp [scrubI, VR]
    · simp only [scrubI, beq_ne e, cond_false, VR]
      obtain ⟨g, n, c, h1, h2, h3⟩ := hr
      refine ⟨g, n, c, by rw [hι id e]; exact h1, h2, ?_⟩
      rcases hm id e with e2 | e2
      · rw [e2]; trivial
      · rw [e2]
        cases hq : h id <;> rw [hq] at h3 <;> first | trivial | exact h3
  | _ => exact absurd hr (by simp [rf])

/-- A store into a row that is one's own. -/
theorem own_store {P : Program} {t : TypeId} {i : TypeInfo} (hi : P.info? t = some i) {w : World} {B e sz n g cc off : Nat} {v u : Value} {xs : List Value} (hown : ownsX w B e sz v n xs) (hv : v = .slice (some ⟨g, 0, none⟩) n cc)
    (hsz : u.cells.size = P.cellsOf t) (hfit : off + u.cells.size ≤ n * sz) (h1 : ∀ z ∈ u.cells.toList, z.oneCell' = true) (hone : ∀ z ∈ xs, z.oneCell' = true) :
    ∃ cur', (Instr.storeAt t (.pointer (some ⟨g, off, none⟩)) u).run P w = .ok () (w.setRow g cur') ∧
      ownsX (w.setRow g cur') B e sz v n (xs.take off ++ u.cells.toList ++ xs.drop (off + u.cells.toList.length)) ∧
      (∀ z ∈ xs.take off ++ u.cells.toList ++ xs.drop (off + u.cells.toList.length), z.oneCell' = true) ∧
      (∀ q, (xs.take off ++ u.cells.toList ++ xs.drop (off + u.cells.toList.length))[q]? = if off ≤ q ∧ q < off + u.cells.toList.length then u.cells.toList[q - off]? else xs[q]?) := by
  rcases hown.2 with ⟨hv2, hn0⟩ | ⟨g', cap, cur, hv2, hB, hg, hnc, hcap, hcs, htake⟩
  · rw [hv] at hv2; cases hv2
  · rw [hv] at hv2; cases hv2
    have hxl : xs.length = n * sz := hown.1
    have hn : n * sz ≤ cc * sz := Nat.mul_le_mul_right _ hnc
    have hul : u.cells.toList.length = u.cells.size := Array.length_toList
    have hthree : ∀ q, (xs.take off ++ u.cells.toList ++ xs.drop (off + u.cells.toList.length))[q]? = _ := fun q => getElem?_three xs u.cells.toList off q (by omega)
    refine ⟨_, run_storeVar_at hi hg (off := off) (v := u) hsz (by omega) h1, ⟨by simp; omega, .inr ⟨g, cc, _, hv, hB, hg.set (by simp; omega), hnc, hcap, by simp; omega, ?_⟩⟩, ?_, hthree⟩
    · rw [List.toList_toArray]
      apply List.ext_getElem?
      intro q
      rw [List.getElem?_take, hthree q, ← htake, List.getElem?_take]
      have h3 := getElem?_three cur.toList u.cells.toList off q (by simp; omega)
      rw [Array.length_toList] at h3
      rw [Array.length_toList]
      rw [h3]
      by_cases hq : q < n * sz
      · simp [hq]
      · rw [if_neg hq, if_neg (by omega), if_neg hq]
    · intro z hz
      obtain ⟨q, hq⟩ := List.getElem?_of_mem hz
      rw [hthree q] at hq
      split at hq
      · exact h1 z (List.mem_of_getElem? hq)
      · exact hone z (List.mem_of_getElem? hq)

def updIn {α : Type} (f : Nat → α) (i : Nat) (x : α) : Nat → α := fun k => if k = i then x else f k

/-- What is stored into nested rows. -/
def astoreM (P : TT) (t : TypeId) (x y : AV) (env : Env) (h : Heap) (K : Env → Heap → Prop) (stop : Prop) : Prop :=
  match P.underlying t with
  | some _ => (match x with
    | .madr id i sz a b => match h id, cellsAV y with
      | .mat e sz0 n get0 o ei szi len get hole, some l => cond (Nat.beq l.length (P.cellsOf t) && Nat.ble (b + l.length) sz && l.all noRef)
          (K env (upd h id (.mat e sz0 n get0 o ei szi len (updIn get i (updRow (get i) a b l)) hole))) stop
      | _, _ => stop
    | .radr id sz i j => match h id with
      | .mat e sz0 n get0 o ei szi len get hole => (match y with
        | .row q => match h q, hole with
          | .row eq szq m getq, none => cond (Nat.beq j o && Nat.beq (P.cellsOf t) 1 && Nat.beq eq ei && Nat.beq szq szi && !Nat.beq q id)
              (K (scrubIE id env) (upd (upd (scrubIH id h) q .dead) id (.mat e sz0 n get0 o ei szi (updIn len i m) (updIn get i getq) none))) stop
          | .row eq szq m getq, some i' => cond (Nat.beq j o && Nat.beq (P.cellsOf t) 1 && Nat.beq eq ei && Nat.beq szq szi && !Nat.beq q id)
              (Need (i' = i) (K (scrubIE id env) (upd (upd (scrubIH id h) q .dead) id (.mat e sz0 n get0 o ei szi (updIn len i m) (updIn get i getq) none)))) stop
          | _, _ => stop
        | y => match cellsAV y with
          | some l => cond (Nat.beq l.length (P.cellsOf t) && Nat.ble (j + l.length) sz && l.all noRef && (Nat.blt o j || Nat.ble (j + l.length) o))
              (K env (upd h id (.mat e sz0 n (updRow get0 i j l) o ei szi len get hole))) stop
          | none => stop)
      | _ => stop
    | _ => stop)
  | none => stop

section
variable {C : Ctx} {env : Env} {h : Heap} {ι : Loc} {a : Act} {w : World}

theorem cells_one (R : Rel C env h ι a w) {y : AV} {u : Value} {l : List AV} (hl : cellsAV y = some l) (hy : VR w (okB C h ι w) y (rf h ι) u) : ∀ z ∈ u.cells.toList, z.oneCell' = true := by
  obtain ⟨hs, hc⟩ := cellsAV_ok R hl hy
  intro z hz
  obtain ⟨j, hj⟩ := List.getElem?_of_mem hz
  have hjl : j < l.length := by
    rcases Nat.lt_or_ge j l.length with h' | h'
    · exact h'
    · rw [List.getElem?_eq_none (by rw [Array.length_toList, hs]; exact h')] at hj; cases hj
  obtain ⟨cv, c1, c2, _⟩ := hc j l[j] (List.getElem?_eq_getElem hjl)
  have : u.cells.toList[j]? = some cv := by simpa using c1
  rw [this] at hj; cases hj; exact c2

theorem store_madr (R : Rel C env h ι a w) {t : TypeId} {dt : TypeDesc} (hdt : C.T.underlying t = some dt) {id i sz p b e sz0 n o ei szi : Nat} {get0 : Nat → Nat → AV} {len : Nat → Nat} {get : Nat → Nat → Nat → AV} {hole : Option Nat} {y : AV} {v u : Value} {l : List AV}
    (hx : VR w (okB C h ι w) (.madr id i sz p b) (rf h ι) v) (hh : h id = .mat e sz0 n get0 o ei szi len get hole) (hy : VR w (okB C h ι w) y (rf h ι) u) (hl : cellsAV y = some l)
    (hsz : l.length = C.T.cellsOf t) (hle : b + l.length ≤ sz) (hnr : l.all noRef = true) :
    ∃ w', (Instr.storeAt t v u).run C.P w = .ok () w' ∧ Rel C env (upd h id (.mat e sz0 n get0 o ei szi len (updIn get i (updRow (get i) p b l)) hole)) ι a w' := by
  obtain ⟨hs, hc⟩ := cellsAV_ok R hl hy
  have h1 := cells_one R hl hy
  obtain ⟨inf, hi⟩ := info_some (C.und hdt)
  obtain ⟨g, nn, cc, e1, e2, h3⟩ := hx
  rw [hh] at h3
  obtain ⟨rfl, hin, hho, hp⟩ := h3
  have hlive : h id ≠ .dead := by rw [hh]; simp
  have ho := R.obj id
  rw [hh] at ho
  obtain ⟨hosz, ⟨xs, hxs, hx1, hc0, hinn⟩, hrows, hap⟩ := ho
  obtain ⟨hout, ys, hy0, hy1, hyc⟩ := hrows i hin hho
  have hul : u.cells.toList.length = l.length := by simp [hs]
  have hbl : blk (ι id (i + 1)) = some g := by rw [e1]; rfl
  have hv2 : ι id (i + 1) = .slice (some ⟨g, 0, none⟩) (len i) cc := by
    rcases hy0.2 with ⟨hv, _⟩ | ⟨g', cap, cur, hv, _⟩
    · rw [e1] at hv; cases hv
    · rw [e1] at hv; cases hv; exact e1
  have hfit : p * szi + b + u.cells.size ≤ len i * szi := by
    have := Nat.mul_le_mul_right szi (show p + 1 ≤ len i by omega)
    rw [Nat.add_mul] at this
    rw [hs]; omega
  obtain ⟨cur', hrun, hown', hone', hthree⟩ := own_store hi hy0 hv2 (u := u) (off := p * szi + b) (by rw [hs, hsz, C.cells hdt]) hfit h1 hy1
  have hbase := R.base id hlive g (by rw [hh]; exact .inr ⟨i, hin, hho, hbl⟩)
  refine ⟨_, by rw [e2, addr_lit, Nat.zero_add]; exact hrun, ?_⟩
  have hne : ∀ b', b' ≠ g → (w.setRow g cur').heap[b']? = w.heap[b']? := fun b' hb' => setRow_other w g b' _ hb'
  refine R.setG id _ _ (below_setRow C g _ hbase.1) hlive (fun b' hb' _ => hne b' (fun e => hb' (by rw [hh, e]; exact .inr ⟨i, hin, hho, hbl⟩))) (by rw [hh]; exact ⟨rfl, rfl, rfl, rfl, rfl⟩) (fun g' hg' => by rw [hh]; exact hg') ?_
  intro r ok hr hok hwb
  refine ⟨hosz, ⟨xs, ownsRow_keep hxs (fun g' hg' => hne g' (fun e => hout g' hg' (e ▸ hbl))), hx1, fun i' j' hi' hj' hne' => ?_, hinn⟩, fun i' hi' hh' => ?_, hap⟩
  · obtain ⟨cv, c1, c3⟩ := hc0 i' j' hi' hj' hne'
    exact ⟨cv, c1, VR.mono hok hwb _ _ _ _ (fun _ _ h => h) c3⟩
  · by_cases hii : i' = i
    · subst hii
      refine ⟨hout, _, hown', hone', fun a2 b2 ha2 hb2 => ?_⟩
      rw [hthree]
      have hiff := row_split (i := p) (j := b) (i' := a2) (j' := b2) (len := u.cells.toList.length) (by omega) hb2
      unfold updIn updRow
      rw [if_pos rfl]
      by_cases hin2 : a2 = p ∧ b ≤ b2 ∧ b2 < b + l.length
      · rw [if_pos hin2, if_pos (hiff.mpr (by rw [hul]; exact hin2))]
        have hlt : b2 - b < l.length := by omega
        obtain ⟨cv, c1, c2, c3⟩ := hc (b2 - b) l[b2 - b] (List.getElem?_eq_getElem hlt)
        refine ⟨cv, ?_, ?_⟩
        · have : a2 * szi + b2 - (p * szi + b) = b2 - b := by rw [hin2.1]; omega
          rw [this]; simpa using c1
        · rw [List.getD, List.getElem?_eq_getElem hlt]
          exact VR.mono hok hwb _ _ _ _ (fun _ _ h => h) (noRef_ok (List.all_eq_true.mp hnr _ (List.getElem_mem hlt)) c3)
      · rw [if_neg hin2, if_neg (fun h' => hin2 (by rw [← hul]; exact hiff.mp h'))]
        obtain ⟨cv, c1, c3⟩ := hyc a2 b2 ha2 hb2
        exact ⟨cv, c1, VR.mono hok hwb _ _ _ _ (fun _ _ h => h) c3⟩
    · obtain ⟨hout2, ys2, hy2, hy21, hyc2⟩ := hrows i' hi' hh'
      refine ⟨hout2, ys2, ownsRow_keep hy2 (fun g' hg' => hne g' (fun e => hap i' i hi' hin hii hh' hho g' hg' (e ▸ hbl))), hy21, fun a2 b2 ha2 hb2 => ?_⟩
      unfold updIn
      rw [if_neg hii]
      obtain ⟨cv, c1, c3⟩ := hyc2 a2 b2 ha2 hb2
      exact ⟨cv, c1, VR.mono hok hwb _ _ _ _ (fun _ _ h => h) c3⟩

theorem store_outer (R : Rel C env h ι a w) {t : TypeId} {dt : TypeDesc} (hdt : C.T.underlying t = some dt) {id i sz j e sz0 n o ei szi : Nat} {get0 : Nat → Nat → AV} {len : Nat → Nat} {get : Nat → Nat → Nat → AV} {hole : Option Nat} {y : AV} {v u : Value} {l : List AV}
    (hx : VR w (okB C h ι w) (.radr id sz i j) (rf h ι) v) (hh : h id = .mat e sz0 n get0 o ei szi len get hole) (hy : VR w (okB C h ι w) y (rf h ι) u) (hl : cellsAV y = some l)
    (hsz : l.length = C.T.cellsOf t) (hle : j + l.length ≤ sz) (hnr : l.all noRef = true) (hoff : o < j ∨ j + l.length ≤ o) :
    ∃ w', (Instr.storeAt t v u).run C.P w = .ok () w' ∧ Rel C env (upd h id (.mat e sz0 n (updRow get0 i j l) o ei szi len get hole)) ι a w' := by
  obtain ⟨hs, hc⟩ := cellsAV_ok R hl hy
  have h1 := cells_one R hl hy
  obtain ⟨inf, hi⟩ := info_some (C.und hdt)
  obtain ⟨g, nn, cc, e1, e2, h3⟩ := hx
  rw [hh] at h3
  obtain ⟨rfl, hin⟩ := h3
  have hlive : h id ≠ .dead := by rw [hh]; simp
  have ho := R.obj id
  rw [hh] at ho
  obtain ⟨hosz, ⟨xs, hxs, hx1, hc0, hinn⟩, hrows, hap⟩ := ho
  have hul : u.cells.toList.length = l.length := by simp [hs]
  have hbl : blk (ι id 0) = some g := by rw [e1]; rfl
  have hv2 : ι id 0 = .slice (some ⟨g, 0, none⟩) n cc := by
    rcases hxs.2 with ⟨hv, _⟩ | ⟨g', cap, cur, hv, _⟩
    · rw [e1] at hv; cases hv
    · rw [e1] at hv; cases hv; exact e1
  have hfit : i * sz0 + j + u.cells.size ≤ n * sz0 := by
    have := Nat.mul_le_mul_right sz0 (show i + 1 ≤ n by omega)
    rw [Nat.add_mul] at this
    rw [hs]; omega
  obtain ⟨cur', hrun, hown', hone', hthree⟩ := own_store hi hxs hv2 (u := u) (off := i * sz0 + j) (by rw [hs, hsz, C.cells hdt]) hfit h1 hx1
  have hbase := R.base id hlive g (owns_zero hbl)
  refine ⟨_, by rw [e2, addr_lit, Nat.zero_add]; exact hrun, ?_⟩
  have hne : ∀ b', b' ≠ g → (w.setRow g cur').heap[b']? = w.heap[b']? := fun b' hb' => setRow_other w g b' _ hb'
  refine R.setG id _ _ (below_setRow C g _ hbase.1) hlive (fun b' hb' _ => hne b' (fun e => hb' (owns_zero (e ▸ hbl)))) (by rw [hh]; exact ⟨rfl, rfl, rfl, rfl, rfl⟩) (fun g' hg' => by rw [hh]; exact hg') ?_
  intro r ok hr hok hwb
  have hsplit : ∀ i2 j2, j2 < sz0 → (i * sz0 + j ≤ i2 * sz0 + j2 ∧ i2 * sz0 + j2 < i * sz0 + j + u.cells.toList.length ↔ i2 = i ∧ j ≤ j2 ∧ j2 < j + u.cells.toList.length) := fun i2 j2 hj2 => row_split (by omega) hj2
  refine ⟨hosz, ⟨_, hown', hone', fun i2 j2 hi2 hj2 hne2 => ?_, fun i2 hi2 hh2 => ?_⟩, fun i2 hi2 hh2 => ?_, hap⟩
  · rw [hthree]
    unfold updRow
    by_cases hin2 : i2 = i ∧ j ≤ j2 ∧ j2 < j + l.length
    · rw [if_pos hin2, if_pos ((hsplit i2 j2 hj2).mpr (by rw [hul]; exact hin2))]
      have hlt : j2 - j < l.length := by omega
      obtain ⟨cv, c1, c2, c3⟩ := hc (j2 - j) l[j2 - j] (List.getElem?_eq_getElem hlt)
      refine ⟨cv, ?_, ?_⟩
      · have : i2 * sz0 + j2 - (i * sz0 + j) = j2 - j := by rw [hin2.1]; omega
        rw [this]; simpa using c1
      · rw [List.getD, List.getElem?_eq_getElem hlt]
        exact VR.mono hok hwb _ _ _ _ (fun _ _ h => h) (noRef_ok (List.all_eq_true.mp hnr _ (List.getElem_mem hlt)) c3)
    · rw [if_neg hin2, if_neg (fun h' => hin2 (by rw [← hul]; exact (hsplit i2 j2 hj2).mp h'))]
      obtain ⟨cv, c1, c3⟩ := hc0 i2 j2 hi2 hj2 hne2
      exact ⟨cv, c1, VR.mono hok hwb _ _ _ _ (fun _ _ h => h) c3⟩
  · rw [hthree, if_neg (fun h' => by have := (hsplit i2 o hosz).mp h'; rw [hul] at this; omega)]
    exact hinn i2 hi2 hh2
  · obtain ⟨hout2, ys2, hy2, hy21, hyc2⟩ := hrows i2 hi2 hh2
    refine ⟨hout2, ys2, ownsRow_keep hy2 (fun g' hg' => hne g' (fun e => hout2 g hbl (e ▸ hg'))), hy21, fun a2 b2 ha2 hb2 => ?_⟩
    obtain ⟨cv, c1, c3⟩ := hyc2 a2 b2 ha2 hb2
    exact ⟨cv, c1, VR.mono hok hwb _ _ _ _ (fun _ _ h => h) c3⟩

def plugL (f : Nat → Value) (i : Nat) (v : Value) : Nat → Value := fun k => if k = i + 1 then v else f k
theorem plugL_here (f : Nat → Value) (i : Nat) (v : Value) : plugL f i v (i + 1) = v := if_pos rfl
theorem plugL_other (f : Nat → Value) (i : Nat) (v : Value) {k : Nat} (h : k ≠ i) : plugL f i v (k + 1) = f (k + 1) := if_neg (by omega)
theorem plugL_zero (f : Nat → Value) (i : Nat) (v : Value) : plugL f i v 0 = f 0 := if_neg (by omega)
/-- An own row goes into its place among the others. -/
theorem plug (R : Rel C env h ι a w) {t : TypeId} {dt : TypeDesc} (hdt : C.T.underlying t = some dt) {id i sz o e sz0 n ei szi q m : Nat} {get0 : Nat → Nat → AV} {len : Nat → Nat} {get : Nat → Nat → Nat → AV} {hole : Option Nat} {getq : Nat → Nat → AV} {v u : Value}
    (hx : VR w (okB C h ι w) (.radr id sz i o) (rf h ι) v) (hh : h id = .mat e sz0 n get0 o ei szi len get hole) (hy : u = ι q 0) (hq : h q = .row ei szi m getq) (hne : q ≠ id) (h1t : C.T.cellsOf t = 1) (hhole : ∀ k, k ≠ i → hole ≠ some k) :
    ∃ w', (Instr.storeAt t v u).run C.P w = .ok () w' ∧
      Rel C (scrubIE id env) (upd (upd (scrubIH id h) q .dead) id (.mat e sz0 n get0 o ei szi (updIn len i m) (updIn get i getq) none)) (upd ι id (plugL (ι id) i (ι q 0))) a w' := by
  obtain ⟨inf, hi⟩ := info_some (C.und hdt)
  obtain ⟨g, nn, cc, e1, e2, h3⟩ := hx
  rw [hh] at h3
  obtain ⟨rfl, hin⟩ := h3
  have hlive : h id ≠ .dead := by rw [hh]; simp
  have hliveq : h q ≠ .dead := by rw [hq]; simp
  have ho := R.obj id
  rw [hh] at ho
  obtain ⟨hosz, ⟨xs, hxs, hx1, hc0, hinn⟩, hrows, hap⟩ := ho
  have hoq := R.obj q
  rw [hq] at hoq
  obtain ⟨zs, hzs, hz1, hzc⟩ := hoq
  have hu1 : u.oneCell' = true := by rw [hy]; exact R.one q 0
  have hcells : u.cells = #[u] := oneCell_cells hu1
  have hbl : blk (ι id 0) = some g := by rw [e1]; rfl
  have hv2 : ι id 0 = .slice (some ⟨g, 0, none⟩) n cc := by
    rcases hxs.2 with ⟨hv, _⟩ | ⟨g', cap, cur, hv, _⟩
    · rw [e1] at hv; cases hv
    · rw [e1] at hv; cases hv; exact e1
  have hfit : i * sz0 + o + u.cells.size ≤ n * sz0 := by
    have := Nat.mul_le_mul_right sz0 (show i + 1 ≤ n by omega)
    rw [Nat.add_mul] at this
    rw [hcells]; simp only [Array.size_singleton]; simp at this ⊢; omega
  obtain ⟨cur', hrun, hown', hone', hthree⟩ := own_store hi hxs hv2 (u := u) (off := i * sz0 + o) (by rw [hcells, ← C.cells hdt] at *; simp [h1t]) hfit (by rw [hcells]; simpa using hu1) hx1
  have hbase := R.base id hlive g (owns_zero hbl)
  have hqb : ∀ g', blk (ι q 0) = some g' → owns (h q) (ι q) g' := fun g' hg' => owns_zero hg'
  have hqg : ∀ g', blk (ι q 0) = some g' → g' ≠ g := fun g' hg' e => R.apart q id hliveq hlive hne g' (hqb g' hg') (owns_zero (by rw [e]; exact hbl))
  have hneb : ∀ b', b' ≠ g → (w.setRow g cur').heap[b']? = w.heap[b']? := fun b' hb' => setRow_other w g b' _ hb'
  have hsub : ∀ g', owns (.mat e sz0 n get0 o ei szi (updIn len i m) (updIn get i getq) none) (plugL (ι id) i (ι q 0)) g' → owns (h id) (ι id) g' ∨ owns (h q) (ι q) g' := by
    intro g' hg'
    rcases hg' with hg' | ⟨k, hk, _, hg'⟩
    · left; exact owns_zero (by rw [plugL_zero] at hg'; exact hg')
    · by_cases hki : k = i
      · subst hki
        rw [plugL_here] at hg'
        exact .inr (hqb g' hg')
      · rw [plugL_other _ _ _ hki] at hg'
        left; rw [hh]; exact .inr ⟨k, hk, hhole k hki, hg'⟩
  refine ⟨_, by rw [e2, addr_lit, Nat.zero_add]; exact hrun, ?_⟩
  have := R.remake (scrubI_scr id) id q (.mat e sz0 n get0 o ei szi (updIn len i m) (updIn get i getq) none) (plugL (ι id) i (ι q 0)) (w.setRow g cur') (below_setRow C g _ hbase.1)
    (fun b hb => hneb b (fun e' => hb.2.2 id hlive (owns_zero (e' ▸ hbl))))
    (fun id2 hd hz hl g' hg' => hneb g' (fun e' => R.apart id2 id hl hlive hd g' hg' (owns_zero (e' ▸ hbl))))
    (fun k => by unfold plugL; split <;> first | exact R.one q 0 | exact R.one id k)
    (fun g' hg' => by rcases hsub g' hg' with h' | h' <;> first | (have := R.base id hlive g' h'; exact ⟨this.1, by simpa using this.2⟩) | (have := R.base q hliveq g' h'; exact ⟨this.1, by simpa using this.2⟩))
    (fun g' hg' hok => by rcases hsub g' hg' with h' | h' <;> first | exact hok.2.2 id hlive h' | exact hok.2.2 q hliveq h')
    (fun id2 hd hz hl g' hg' hg2 => by rcases hsub g' hg2 with h' | h' <;> first | exact R.apart id2 id hl hlive hd g' hg' h' | exact R.apart id2 q hl hliveq hz g' hg' h')
    (fun hok x v hr => rf_scrubI (z := q) (fun id2 hd => upd_other _ _ hd) (by rw [upd_same, plugL_zero]) (fun id2 hd => by
      rw [upd_other _ _ hd]
      by_cases hz : id2 = q
      · subst hz; rw [upd_same]; exact .inl rfl
      · rw [upd_other _ _ hz]; exact .inr rfl) (by rw [upd_same, hh]; exact ⟨rfl, rfl⟩) hr)
    (fun hok => ?_)
  · exact this.1
  · have hwb : ∀ b, okB C h ι w b → (w.setRow g cur').heap[b]? = w.heap[b]? := fun b hb => hneb b (fun e' => hb.2.2 id hlive (owns_zero (e' ▸ hbl)))
    have hul : u.cells.toList.length = 1 := by rw [hcells]; rfl
    have hsplit : ∀ i2 j2, j2 < sz0 → (i * sz0 + o ≤ i2 * sz0 + j2 ∧ i2 * sz0 + j2 < i * sz0 + o + u.cells.toList.length ↔ i2 = i ∧ o ≤ j2 ∧ j2 < o + u.cells.toList.length) := fun i2 j2 hj2 => row_split (by omega) hj2
    refine ⟨hosz, ⟨_, hown', hone', fun i2 j2 hi2 hj2 hne2 => ?_, fun i2 hi2 _ => ?_⟩, fun i2 hi2 _ => ?_, fun i2 i3 hi2 hi3 hne2 _ _ g' hg' => ?_⟩
    · rw [hthree, if_neg (fun h' => by have := (hsplit i2 j2 hj2).mp h'; omega)]
      obtain ⟨cv, c1, c3⟩ := hc0 i2 j2 hi2 hj2 hne2
      exact ⟨cv, c1, VR.mono hok hwb _ _ _ _ (fun _ _ h => h) c3⟩
    · rw [hthree]
      by_cases hii : i2 = i
      · subst hii
        rw [if_pos (by omega), plugL_here, Nat.sub_self, hcells, ← hy]; rfl
      · rw [if_neg (fun h' => hii ((hsplit i2 o hosz).mp h').1), plugL_other _ _ _ hii]
        exact hinn i2 hi2 (hhole i2 hii)
    · by_cases hii : i2 = i
      · subst hii
        unfold updIn
        rw [plugL_here, plugL_zero, if_pos rfl, if_pos rfl]
        refine ⟨fun g1 hg1 hg2 => ?_, zs, ownsRow_keep hzs (fun g' hg' => hneb g' (hqg g' hg')), hz1, fun a2 b2 ha2 hb2 => ?_⟩
        · have : g1 = g := by
            rw [hbl] at hg1; cases hg1; rfl
          exact hqg g1 hg2 this
        · obtain ⟨cv, c1, c3⟩ := hzc a2 b2 ha2 hb2
          exact ⟨cv, c1, VR.mono hok hwb _ _ _ _ (fun _ _ h => h) c3⟩
      · obtain ⟨hout2, ys2, hy2, hy21, hyc2⟩ := hrows i2 hi2 (hhole i2 hii)
        unfold updIn
        rw [plugL_other _ _ _ hii, plugL_zero, if_neg hii, if_neg hii]
        refine ⟨fun g1 hg1 => hout2 g1 hg1, ys2, ownsRow_keep hy2 (fun g' hg' => hneb g' (fun e => hout2 g hbl (e ▸ hg'))), hy21, fun a2 b2 ha2 hb2 => ?_⟩
        obtain ⟨cv, c1, c3⟩ := hyc2 a2 b2 ha2 hb2
        exact ⟨cv, c1, VR.mono hok hwb _ _ _ _ (fun _ _ h => h) c3⟩
    · by_cases h2i : i2 = i
      · subst h2i
        rw [plugL_here] at hg'
        rw [plugL_other _ _ _ (fun e => hne2 e.symm)]
        intro hg3
        exact R.apart q id hliveq hlive hne g' (hqb g' hg') (by rw [hh]; exact .inr ⟨i3, hi3, hhole i3 (by omega), hg3⟩)
      · rw [plugL_other _ _ _ h2i] at hg'
        by_cases h3i : i3 = i
        · subst h3i
          rw [plugL_here]
          intro hg3
          exact R.apart q id hliveq hlive hne g' (hqb g' hg3) (by rw [hh]; exact .inr ⟨i2, hi2, hhole i2 h2i, hg'⟩)
        · rw [plugL_other _ _ _ h3i]
          exact hap i2 i3 hi2 hi3 hne2 (hhole i2 h2i) (hhole i3 h3i) g' hg'

theorem astoreM_ok (R : Rel C env h ι a w) {t : TypeId} {x y : AV} {v u : Value} {K : Env → Heap → Prop} {stop : Prop} (hx : VR w (okB C h ι w) x (rf h ι) v) (hy : VR w (okB C h ι w) y (rf h ι) u)
    (hk : astoreM C.T t x y env h K stop) : stop ∨ ∃ w' env' h' ι', (Instr.storeAt t v u).run C.P w = .ok () w' ∧ Rel C env' h' ι' a w' ∧ K env' h' := by
  unfold astoreM at hk
  split at hk
  · rename_i dt hdt
    split at hk
    · rename_i id i sz p b
      split at hk
      · rename_i e sz0 n get0 o ei szi len get hole l hh hl
        cases hb : (Nat.beq l.length (C.T.cellsOf t) && Nat.ble (b + l.length) sz && l.all noRef) with
        | false => rw [hb] at hk; exact .inl hk
        | true =>
          rw [hb, cond_true] at hk
          simp only [Bool.and_eq_true] at hb
          obtain ⟨w', hr, R'⟩ := store_madr R hdt hx hh hy hl (Nat.eq_of_beq_eq_true hb.1.1) (Nat.ble_eq ▸ hb.1.2) hb.2
          exact .inr ⟨w', _, _, _, hr, R', hk⟩
      · exact .inl hk
    · rename_i id sz i j
      split at hk
      · rename_i e sz0 n get0 o ei szi len get hole hh
        split at hk
        · rename_i q
          split at hk
          · rename_i eq szq m getq hq
            cases hb : (Nat.beq j o && Nat.beq (C.T.cellsOf t) 1 && Nat.beq eq ei && Nat.beq szq szi && !Nat.beq q id) with
            | false => rw [hb] at hk; exact .inl hk
            | true =>
              rw [hb, cond_true] at hk
              simp only [Bool.and_eq_true, Bool.not_eq_true'] at hb
              obtain ⟨⟨⟨⟨h1, h2⟩, h3⟩, h4⟩, h5⟩ := hb
              have e1 := Nat.eq_of_beq_eq_true h1
              have e3 := Nat.eq_of_beq_eq_true h3
              have e4 := Nat.eq_of_beq_eq_true h4
              subst e1; subst e3; subst e4
              obtain ⟨w', hr, R'⟩ := plug R hdt hx hh (show u = ι q 0 from hy) hq (fun e => by rw [e, Nat.beq_refl] at h5; cases h5) (Nat.eq_of_beq_eq_true h2) (fun k _ => by simp)
              exact .inr ⟨w', _, _, _, hr, R', hk⟩
          · rename_i eq szq m getq i' hq
            cases hb : (Nat.beq j o && Nat.beq (C.T.cellsOf t) 1 && Nat.beq eq ei && Nat.beq szq szi && !Nat.beq q id) with
            | false => rw [hb] at hk; exact .inl hk
            | true =>
              rw [hb, cond_true] at hk
              simp only [Bool.and_eq_true, Bool.not_eq_true'] at hb
              obtain ⟨⟨⟨⟨h1, h2⟩, h3⟩, h4⟩, h5⟩ := hb
              have e1 := Nat.eq_of_beq_eq_true h1
              have e3 := Nat.eq_of_beq_eq_true h3
              have e4 := Nat.eq_of_beq_eq_true h4
              subst e1; subst e3; subst e4
              obtain ⟨hi', hk⟩ := hk
              obtain ⟨w', hr, R'⟩ := plug R hdt hx hh (show u = ι q 0 from hy) hq (fun e => by rw [e, Nat.beq_refl] at h5; cases h5) (Nat.eq_of_beq_eq_true h2) (fun k hk' e => by injection e with e; omega)
              exact .inr ⟨w', _, _, _, hr, R', hk⟩
          · exact .inl hk
        · split at hk
          · rename_i l hl
            cases hb : (Nat.beq l.length (C.T.cellsOf t) && Nat.ble (j + l.length) sz && l.all noRef && (Nat.blt o j || Nat.ble (j + l.length) o)) with
            | false => rw [hb] at hk; exact .inl hk
            | true =>
              rw [hb, cond_true] at hk
              simp only [Bool.and_eq_true, Bool.or_eq_true] at hb
              obtain ⟨w', hr, R'⟩ := store_outer R hdt hx hh hy hl (Nat.eq_of_beq_eq_true hb.1.1.1) (Nat.ble_eq ▸ hb.1.1.2) hb.1.2 (hb.2.imp (fun h => by simpa [Nat.blt_eq] using h) (fun h => Nat.ble_eq ▸ h))
              exact .inr ⟨w', _, _, _, hr, R', hk⟩
          · exact .inl hk
      · exact .inl hk
    · exact .inl hk
  · exact .inl hk

def isM (h : Heap) (x : AV) : Bool := match x with
  | .madr .. => true
  | .radr id _ _ _ => match h id with
    | .mat .. => true
    | _ => false
  | _ => false
def astoreA (P : TT) (t : TypeId) (x y : AV) (env : Env) (h : Heap) (K : Env → Heap → Prop) (stop : Prop) : Prop :=
  cond (isM h x) (astoreM P t x y env h K stop) (astore P h t x y (fun h' => K env h') stop)
theorem astoreA_ok (R : Rel C env h ι a w) {t : TypeId} {x y : AV} {v u : Value} {K : Env → Heap → Prop} {stop : Prop} (hx : VR w (okB C h ι w) x (rf h ι) v) (hy : VR w (okB C h ι w) y (rf h ι) u)
    (hk : astoreA C.T t x y env h K stop) : stop ∨ ∃ w' env' h' ι', (Instr.storeAt t v u).run C.P w = .ok () w' ∧ Rel C env' h' ι' a w' ∧ K env' h' := by
  unfold astoreA at hk
  cases hb : isM h x with
  | true => rw [hb] at hk; exact astoreM_ok R hx hy hk
  | false =>
    rw [hb] at hk
    rcases astore_ok (K := fun env h _ => K env h) R hx hy hk with hk | ⟨w', h', hr, R', hk⟩
    · exact .inl hk
    · exact .inr ⟨w', _, _, _, hr, R', hk⟩
end

end Go.Proofs.YteklnpgiloebcaaDoor.V

namespace Go.Proofs.YteklnpgiloebcaaDoor.V
set_option linter.unusedVariables false
set_option linter.unusedSimpArgs false
open Go Go.RowKit

def arange (P : TT) (t : TypeId) (d : Nat) (x : AV) (env : Env) (h : Heap) (K : Env → Heap → AV → Prop) (stop : Prop) : Prop :=
  match P.underlying t, x with
  | some .string, .str s => K (scrubE d env) (upd (upd (scrubH d h) d .dead) d (.iter s 0)) (.obj d)
  | _, _ => stop

/-- The next rune: where it stands, which it is. -/
def nextAV (s : ByteArray) (p : Nat) : AV := .tup 3 (fun j => match j with | 0 => .tt | 1 => .int .i64 p | _ => .int .i32 (Utf8.decode s p).1)
def anext (x : AV) (b : Bool) (h : Heap) (K : Heap → AV → Prop) (stop : Prop) : Prop :=
  match x, b with
  | .obj id, true => match h id with
    | .iter s p => AskB (decide (p < s.size)) (K (upd h id (.iter s (p + (Utf8.decode s p).2))) (nextAV s p)) (K h (.tup 1 (fun _ => .ff)))
    | _ => stop
  | _, _ => stop

section
variable {C : Ctx} {env : Env} {h : Heap} {ι : Loc} {a : Act} {w : World}

theorem arange_ok (R : Rel C env h ι a w) {t d : Nat} {x : AV} {v : Value} {K : Env → Heap → AV → Prop} {stop : Prop} (hx : VR w (okB C h ι w) x (rf h ι) v) (hk : arange C.T t d x env h K stop) : stop ∨ Out C a w (Instr.range t v) K := by
  unfold arange at hk
  split at hk
  · rename_i s ht
    obtain ⟨rfl, _⟩ : v = .string s ∧ s.size ≤ maxLen := hx
    have R' := (R.make d d (.iter s 0) (.pointer (some ⟨w.heap.size, 0, none⟩)) (w.alloc (.stringIter s 0)) (below_alloc C R.below _) (fun b hb => Below.heap_alloc _ _ _ hb.1)
      (fun id _ _ hl g hg => Below.heap_alloc _ _ _ (R.base id hl g hg).2) rfl (fun g hg => by cases hg; exact ⟨R.below.size, by simp⟩)
      (fun g hg hb => by cases hg; exact absurd hb.1 (Nat.lt_irrefl _)) (fun id _ _ hl g hg e => by cases e; exact absurd (R.base id hl _ hg).2 (Nat.lt_irrefl _))
      (fun ok r hok hS hr => ⟨_, rfl, heap_alloc_new w _⟩)).1
    refine .inr ⟨.pointer (some ⟨w.heap.size, 0, none⟩), _, _, _, _, _, ?_, R', ?_, hk⟩
    · simp [Instr.range, run_underlying (C.und ht), newObj, Sem.run]
    · show _ = upd ι d _ d 0
      rw [upd_same]
  · exact .inl hk

theorem anext_ok (R : Rel C env h ι a w) {x : AV} {b : Bool} {t : TypeId} {v : Value} {K : Env → Heap → AV → Prop} {stop : Prop} (hx : VR w (okB C h ι w) x (rf h ι) v) (hk : anext x b h (K env) stop) : stop ∨ Out C a w (Instr.next v b t) K := by
  unfold anext at hk
  split at hk
  · rename_i id
    split at hk
    · rename_i s p hh
      have ho := R.obj id
      rw [hh] at ho
      obtain ⟨g, hι, hg⟩ := ho
      have hv : v = .pointer (some ⟨g, 0, none⟩) := (show v = ι id 0 from hx).trans hι
      subst hv
      have hl : h id ≠ .dead := by rw [hh]; simp
      have hb := R.base id hl g (owns_zero (by rw [hι]; rfl))
      by_cases hp : p < s.size
      · have hk := hk.t (decide_eq_true hp)
        have hne : ∀ b, b ≠ g → (w.heap.setIfInBounds g (.stringIter s (p + (Utf8.decode s p).2)))[b]? = w.heap[b]? := fun b hb => by rw [Array.getElem?_setIfInBounds, if_neg (Ne.symm hb)]
        have R' : Rel C env (upd h id (.iter s (p + (Utf8.decode s p).2))) ι a { w with heap := w.heap.setIfInBounds g (.stringIter s (p + (Utf8.decode s p).2)) } := by
          refine R.set id (.iter s (p + (Utf8.decode s p).2)) _ ⟨rfl, rfl, rfl, by simp, fun k hk => hne k (by have := hb.1; omega)⟩ hl (fun b hb' _ => hne b (hb' g (by rw [hι]; rfl))) (by trivial) (fun r ok _ _ _ => ⟨g, hι, ?_⟩)
          show (w.heap.setIfInBounds g _)[g]? = _
          rw [Array.getElem?_setIfInBounds, if_pos rfl, if_pos hb.2]
        refine .inr ⟨.tuple #[.bool true, goInt p, .int .i32 (Utf8.decode s p).1], _, ι, env, _, _, ?_, R', ?_, hk⟩
        · simp [Instr.next, getObj, setObj, Sem.run, hg, hp]
        · refine ⟨_, rfl, rfl, fun j hj => ?_⟩
          match j, hj with
          | 0, _ => exact ⟨_, rfl, rfl⟩
          | 1, _ => exact ⟨_, rfl, rfl⟩
          | 2, _ => exact ⟨_, rfl, rfl⟩
      · have hk := hk.f (decide_eq_false hp)
        refine .inr ⟨.tuple #[.bool false], w, ι, env, h, _, ?_, R, ?_, hk⟩
        · simp [Instr.next, getObj, setObj, Sem.run, hg, hp]
        · refine ⟨_, rfl, rfl, fun j hj => ?_⟩
          match j, hj with
          | 0, _ => exact ⟨_, rfl, rfl⟩
    · exact .inl hk
  · exact .inl hk
end

end Go.Proofs.YteklnpgiloebcaaDoor.V

namespace Go.Proofs.YteklnpgiloebcaaDoor.V
set_option linter.unusedVariables false
set_option linter.unusedSimpArgs false
open Go Go.RowKit
section
variable {C : Ctx} {env : Env} {h : Heap} {ι : Loc} {a : Act} {w : World}
/-- Appending a text's bytes to an own row of bytes. -/
def aappSTo (P : TT) (d z e n : Nat) (get : Nat → Nat → AV) (s : ByteArray) (env : Env) (h : Heap) (K : Env → Heap → AV → Prop) : Prop :=
  Need (n + s.size ≤ 140737488355328) (K (scrubE d env) (upd (upd (scrubH d h) z .dead) d (.row e 1 (n + s.size) (joinRow n get (fun i _ => .int .u8 (bt s i))))) (.row d))
def aappS (P : TT) (t t2 d : Nat) (s x : AV) (env : Env) (h : Heap) (K : Env → Heap → AV → Prop) (stop : Prop) : Prop :=
  match P.underlying t, P.underlying t2, x with
  | some (.slice e), some .string, .str b => match P.zero e, P.one e, Nat.beq (P.cellsOf e) 1 && Nat.beq (P.bytesOf e) 1 with
    | some [.int .u8 0], true, true => match s with
      | .nils => aappSTo P d d e 0 (fun _ _ => .u) b env h K
      | .row z => match h z with
        | .row e' sz n get => cond (Nat.beq e e' && Nat.beq sz 1) (aappSTo P d z e n get b env h K) stop
        | _ => stop
      | _ => stop
    | _, _, _ => stop
  | _, _, _ => stop

theorem appS_block {B t u ty e n : Nat} {v v' : Value} {w w' : World} {P : Program} {i : TypeInfo} {xs : List Value} {s : ByteArray} (ht : P.underlying t = some (.slice e)) (hu : P.underlying u = some .string)
    (hi : P.info? e = some i) (hz : i.zero = some (.int .u8 0)) (hsz : i.size = 1) (hby : i.bytes = 1) (hown : ownsX w B e 1 v n xs) (hle : n + s.size ≤ 140737488355328)
    (hr : (Builtin.append_ #[t, u] ty #[v, .string s]).run P w = .ok v' w') : blk v' = blk v ∨ ∀ g, blk v' = some g → w.heap.size ≤ g := by
  rcases hown.2 with ⟨rfl, rfl⟩ | ⟨g, cap, cur, rfl, hbg, hg, hnc, hcm, hcs, htake⟩
  · by_cases hm : s.size = 0
    · have hf := Lib.run_firstCells_string (P := P) w 1 s
      rw [hm] at hf
      have h3 : (Builtin.append_ #[t, u] ty #[.slice none 0 0, .string s]).run P w = .ok (.slice none 0 0) w := by
        simp [Builtin.append_, run_underlying ht, run_underlying hu, sizeOf, typeInfo, hi, hsz, Builtin.lenOf, hm, hf]
      rw [h3] at hr; cases hr; exact .inl rfl
    · have h3 := run_append_nil_string (P := P) w t u ty e i (.int .u8 0) ht hu hi hz s (by omega) (by omega) (by rw [hby]; omega)
      rw [h3] at hr; cases hr
      exact .inr (fun g hg => by cases hg; exact Nat.le_refl _)
  · by_cases hroom : n + s.size ≤ cap
    · have h3 := run_append_room_stringX (P := P) w t u ty e i ht hu hi hsz g n cap cur hg s hroom (by rw [hcs]; omega)
      rw [h3] at hr; cases hr; exact .inl rfl
    · have holds : ∀ (j : Nat) (u : Value), xs[j]? = some u → w.cell? ((⟨g, 0, none⟩ : Addr).add j) = some u := hown.cells (g := g) rfl
      have h3 := Lib.run_append_grow_string (P := P) w t u ty e i (.int .u8 0) ht hu hi hz ⟨g, 0, none⟩ n cap xs (by rw [hsz]; exact hown.1) holds s (by omega) (by omega) (growslice_fits (by omega) (by rw [hby]; omega))
      rw [h3] at hr; cases hr
      exact .inr (fun g hg => by cases hg; exact Nat.le_refl _)

theorem aappSTo_ok (R : Rel C env h ι a w) {t t2 d z e n : Nat} (ty : TypeId) {get : Nat → Nat → AV} {s : ByteArray} {v : Value} {xs : List Value} {K : Env → Heap → AV → Prop} (ht : C.T.underlying t = some (.slice e)) (hu : C.T.underlying t2 = some .string)
    (hzl : C.T.zero e = some [.int .u8 0]) (hone : C.T.one e = true) (hc1 : C.T.cellsOf e = 1) (hb1 : C.T.bytesOf e = 1)
    (hown : ownsX w C.B e 1 v n xs) (hx1 : ∀ u ∈ xs, u.oneCell' = true) (hxc : ∀ i j, i < n → j < 1 → ∃ cv, xs[i * 1 + j]? = some cv ∧ VR w (okB C h ι w) (get i j) noref cv)
    (hz : (v = .slice none 0 0) ∨ (h z ≠ .dead ∧ v = ι z 0)) (hk : aappSTo C.T d z e n get s env h K) :
    Out C a w (Builtin.append_ #[t, t2] ty #[v, .string s]) K := by
  obtain ⟨hle, hk⟩ := hk
  obtain ⟨i, zv, hi, hzz, hzs, hzc⟩ := zeroL_ok (C.zeroes hzl).1
  have hsz : i.size = 1 := by rw [← hc1, ← (C.zeroes hzl).2.1]; simp [Program.cellsOf, hi]
  have hbyt : i.bytes = 1 := by rw [← hb1, ← (C.zeroes hzl).2.2]; simp [Program.bytesOf, hi]
  have hzv : zv = .int .u8 0 := by
    have h5 := C.ones hone
    obtain ⟨c, c1, c2, c3⟩ := hzc w (fun _ => True) noref 0 (.int .u8 0) rfl
    have hc : c = .int .u8 0 := c3
    subst hc
    cases zv with
    | agg cs => unfold zeroOne at h5; rw [hi] at h5; simp [hzz] at h5
    | tuple cs => first | (unfold zeroOne at h5; rw [hi] at h5; simp [hzz, Value.cells] at c1 h5; done) | (simp [Value.cells] at c1; exact c1)
    | _ => simp [Value.cells] at c1 <;> first | exact c1 | (cases c1; rfl) | (subst c1; rfl) | (obtain ⟨rfl, rfl⟩ := c1; rfl)
  rw [hzv] at hzz
  obtain ⟨v', w', h1, h2, h3⟩ := run_append_own_stringX (P := C.P) w C.B t t2 ty e i (C.und ht) (C.und hu) hi hzz hsz hbyt v n xs hown s (by simp only [maxLen]; omega) hle R.below.size
  have hblk := appS_block (C.und ht) (C.und hu) hi hzz hsz hbyt hown hle h1
  have R' := R.appended d z e 1 n s.size get (fun i _ => .int .u8 (bt s i)) v v' w' xs (Lib.strCells s) hown hx1 hxc hz h2 h3 hblk (Lib.strCells_oneCell s) (fun i j hi hj => by
    have : j = 0 := by omega
    subst this
    refine ⟨.int .u8 (bt s i), ?_, rfl⟩
    have hlt : i < s.data.toList.length := by simpa using hi
    unfold Lib.strCells bt
    rw [Nat.mul_one, Nat.add_zero, List.getElem?_map, List.getElem?_eq_getElem hlt, List.getD, List.getElem?_eq_getElem hlt]; rfl) _ (fun i j _ _ => rfl)
  exact ⟨v', w', _, _, _, _, h1, R', by show v' = upd ι d (fun _ => v') d 0; rw [upd_same], hk⟩
theorem aappS_ok (R : Rel C env h ι a w) {t t2 d : Nat} (ty : TypeId) {s x : AV} {v u : Value} {K : Env → Heap → AV → Prop} {stop : Prop} (hs : VR w (okB C h ι w) s (rf h ι) v) (hx : VR w (okB C h ι w) x (rf h ι) u)
    (hk : aappS C.T t t2 d s x env h K stop) : stop ∨ Out C a w (Builtin.append_ #[t, t2] ty #[v, u]) K := by
  unfold aappS at hk
  split at hk
  · rename_i e b ht hu
    split at hk
    · rename_i hz ho hcb
      rw [Bool.and_eq_true] at hcb
      have hc1 := Nat.eq_of_beq_eq_true hcb.1
      have hb1 := Nat.eq_of_beq_eq_true hcb.2
      obtain ⟨rfl, hbs⟩ := hx
      split at hk
      · have hv : v = .slice none 0 0 := hs
        subst hv
        exact .inr (aappSTo_ok R ty ht hu hz ho hc1 hb1 (ownsX_nil w C.B e 1) (by simp) (fun i j hi => by omega) (.inl rfl) hk)
      · rename_i z
        split at hk
        · rename_i e' sz n get hh
          cases hb2 : (Nat.beq e e' && Nat.beq sz 1) with
          | false => rw [hb2] at hk; exact .inl hk
          | true =>
            rw [hb2, cond_true] at hk
            rw [Bool.and_eq_true] at hb2
            have e1 : e = e' := Nat.eq_of_beq_eq_true hb2.1
            have e2 : sz = 1 := Nat.eq_of_beq_eq_true hb2.2
            subst e1; subst e2
            have ho2 := R.obj z
            rw [hh] at ho2
            obtain ⟨xs, hown, hone, hcells⟩ := ho2
            have hv : v = ι z 0 := hs
            subst hv
            exact .inr (aappSTo_ok R ty ht hu hz ho hc1 hb1 hown hone hcells (.inr ⟨by rw [hh]; simp, rfl⟩) hk)
        · exact .inl hk
      · exact .inl hk
    · exact .inl hk
  · exact .inl hk

/-! ### unsafe.SliceData, of an own row -/
def asliceData (P : TT) (h : Heap) (ty : TypeId) (x : AV) (K : AV → Prop) (stop : Prop) : Prop :=
  match P.underlying ty, x with
  | some (.pointer _), .nils => K .nilp
  | some (.pointer _), .row q => match h q with
    | .row _ sz n _ => AskB (decide (n = 0)) (K .ptr) (K (.radr q sz 0 0))
    | _ => stop
  | _, _ => stop
theorem asliceData_ok (R : Rel C env h ι a w) {t ty : TypeId} {x : AV} {v : Value} {K : Env → Heap → AV → Prop} {stop : Prop} (hx : VR w (okB C h ι w) x (rf h ι) v)
    (hk : asliceData C.T h ty x (K env h) stop) : stop ∨ Out C a w (Builtin.unsafeSliceData_ #[t] ty #[v]) K := by
  unfold asliceData at hk
  split at hk
  · have hv : v = .slice none 0 0 := hx
    subst hv
    exact .inr (Out.same R hk (Lib.run_unsafeSliceData_nil w _ _ _ _) rfl)
  · rename_i e q hu
    split at hk
    · rename_i e' sz n get hh
      have ho := R.obj q
      rw [hh] at ho
      obtain ⟨xs, hown, hone, hcells⟩ := ho
      have hv : v = ι q 0 := hx
      by_cases hn : n = 0
      · have hk' := hk.t (decide_eq_true hn)
        rcases hown.2 with ⟨hv0, _⟩ | ⟨g, cap, cur, hv0, hB, hg, _⟩
        · subst hv; rw [hv0]
          exact .inr (Out.same R hk' (Lib.run_unsafeSliceData_nil w _ _ _ _) ⟨_, rfl⟩)
        · subst hv; rw [hv0]
          by_cases hc : cap = 0
          · subst hc
            have hr := Lib.run_unsafeSliceData_zero (P := C.P) w #[t] ty e (C.und hu) ⟨g, 0, none⟩ n (e', cur.size) hg.shape
            exact .inr ⟨_, _, ι, env, h, .ptr, hr, R.grow (Below.alloc (Below.refl _ _) (Nat.le_refl _) _), ⟨_, rfl⟩, hk'⟩
          · exact .inr (Out.same R hk' (Lib.run_unsafeSliceData_row w _ _ _ _ _ hc) ⟨_, rfl⟩)
      · have hk' := hk.f (decide_eq_false hn)
        rcases hown.2 with ⟨hv0, h0⟩ | ⟨g, cap, cur, hv0, hB, hg, hnc, _⟩
        · exact absurd h0 hn
        · subst hv; rw [hv0]
          refine .inr (Out.same R hk' (Lib.run_unsafeSliceData_row w _ _ _ _ _ (by omega)) ⟨g, n, cap, hv0, by simp [Addr.add], ?_⟩)
          rw [hh]
          exact ⟨rfl, by omega⟩
    · exact .inl hk
  · exact .inl hk
end
end Go.Proofs.YteklnpgiloebcaaDoor.V

namespace Go.Proofs.YteklnpgiloebcaaDoor.V
set_option linter.unusedVariables false
set_option linter.unusedSimpArgs false
open Go Go.RowKit

def eqC (T : TT) (t : TypeId) (x y : AV) : Option Bool := match T.underlying t with
  | some (.int _) => (match x, y with | .int k a, .int k' b => if k = k' then some (decide (a = b)) else none | _, _ => none)
  | some .string => (match x, y with | .str a, .str b => some (decide (a = b)) | _, _ => none)
  | some .bool => (match avB x, avB y with | some a, some b => some (a == b) | _, _ => none)
  | _ => none
def eqFs (T : TT) (n n' : Nat) (g g' : Nat → AV) : List Field → Option Bool
  | [] => some true
  | f :: fs => match cond (Nat.blt f.offset n && Nat.blt f.offset n') (eqC T f.type (g f.offset) (g' f.offset)) none, eqFs T n n' g g' fs with
    | some a, some b => some (a && b)
    | _, _ => none
/-- Pointers: against nil; one place against itself. -/
def eqP (T : TT) (t : TypeId) (x y : AV) : Option Bool := match T.underlying t with
  | some (.pointer e) => (match x, y with
    | .nilp, .nilp => some true
    | .box _ _, .nilp => some false
    | .box i a, .box j b => cond (Nat.beq i j && Nat.beq a b) (match T.zero e with | some _ => some true | none => none) none
    | _, _ => none)
  | _ => none
def aeqT (T : TT) (t : TypeId) (op : BinOp) (x y : AV) : Option AV := match eqP T t x y with
  | some b => (match op with
    | .eql => some (if b then .tt else .ff)
    | .neq => some (if b then .ff else .tt)
    | _ => none)
  | none => match x, y with
  | .agg n g, .agg n' g' => match T.underlying t, T.peq t with
    | some (.struct fs), true => (match eqFs T n n' g g' fs.toList, op with
      | some b, .eql => some (.bool b)
      | some b, .neq => some (.bool !b)
      | _, _ => none)
    | _, _ => none
  | _, _ => none

theorem eqC_ok {C : Ctx} {t : TypeId} {x y : AV} {v u : Value} {b : Bool} {w : World} {ok : Nat → Prop} {r : Ref} (d : Nat) (h : eqC C.T t x y = some b) (hx : VR w ok x r v) (hy : VR w ok y r u) :
    (Op.equalIn (d + 1) t v u).run C.P w = .ok b w ∧ isAggT C.T t = some false := by
  unfold eqC at h
  split at h
  · rename_i k0 hd
    split at h
    · rename_i k a k' b'
      split at h
      · rename_i e
        subst e
        cases h
        cases hx; cases hy
        exact ⟨run_equalIn_int w d t _ _ _ _ (C.und hd), by unfold isAggT; rw [hd]⟩
      · cases h
    · cases h
  · rename_i hd
    split at h
    · cases h
      obtain ⟨rfl, _⟩ := hx
      obtain ⟨rfl, _⟩ := hy
      exact ⟨by rw [run_equalIn_string w d t _ _ (C.und hd), bytes_eq], by unfold isAggT; rw [hd]⟩
    · cases h
  · rename_i hd
    split at h
    · rename_i a b' h1 h2
      cases h
      have := avB_ok h1 hx; subst this
      have := avB_ok h2 hy; subst this
      exact ⟨run_equalIn_bool' w d t _ _ (C.und hd), by unfold isAggT; rw [hd]⟩
    · cases h
  · cases h

theorem eqFs_ok {C : Ctx} {n n' : Nat} {g g' : Nat → AV} {xs ys : Array Value} {w : World} {ok : Nat → Prop} {r : Ref} (d : Nat) (hx : VR w ok (.agg n g) r (.agg xs)) (hy : VR w ok (.agg n' g') r (.agg ys)) :
    ∀ (fs : List Field) (b : Bool), (fs.all (fun f => f.name != "_")) = true → eqFs C.T n n' g g' fs = some b → (Op.eqFields (d + 1) xs ys fs).run C.P w = .ok b w := by
  obtain ⟨cs, e1, s1, c1⟩ := hx
  obtain ⟨cs', e2, s2, c2⟩ := hy
  cases e1; cases e2
  intro fs
  induction fs with
  | nil => intro b _ h; cases h; rfl
  | cons f fs ih =>
    intro b hn h
    rw [List.all_cons, Bool.and_eq_true] at hn
    unfold eqFs at h
    cases hc : (Nat.blt f.offset n && Nat.blt f.offset n') with
    | false => rw [hc] at h; simp at h
    | true =>
      rw [hc, cond_true] at h
      rw [Bool.and_eq_true, Nat.blt_eq, Nat.blt_eq] at hc
      cases h1 : eqC C.T f.type (g f.offset) (g' f.offset) with
      | none => rw [h1] at h; simp at h
      | some b1 =>
        cases h2 : eqFs C.T n n' g g' fs with
        | none => rw [h1, h2] at h; simp at h
        | some b2 =>
          rw [h1, h2] at h
          cases h
          obtain ⟨x, x1, x2, x3⟩ := c1 f.offset hc.1
          obtain ⟨y, y1, y2, y3⟩ := c2 f.offset hc.2
          obtain ⟨q1, q2⟩ := eqC_ok d h1 x3 y3
          have hne : f.name ≠ "_" := by simpa using hn.1
          have p1 : (part f.type xs f.offset).run C.P w = .ok x w := by
            unfold part
            rw [Sem.run_bind, run_isAgg q2]
            simp [x1]
          have p2 : (part f.type ys f.offset).run C.P w = .ok y w := by
            unfold part
            rw [Sem.run_bind, run_isAgg q2]
            simp [y1]
          unfold Op.eqFields
          rw [if_pos hne, Sem.run_bind, p1]
          simp only [Result.andThen_ok]
          rw [Sem.run_bind, p2]
          simp only [Result.andThen_ok]
          rw [Sem.run_bind, q1]
          simp only [Result.andThen_ok]
          cases b1
          · rfl
          · simpa using ih b2 hn.2 h2

theorem run_eqGuard_ptr {P : Program} (w : World) (op : BinOp) (t : TypeId) (x y : Operand) (a b : Option Addr) : (eqGuard op t x y (.pointer a) (.pointer b)).run P w = .ok () w := by
  cases op <;> simp [eqGuard]
theorem eqP_ok {C : Ctx} {t : TypeId} {x y : AV} {v u : Value} {b : Bool} {w : World} {ok : Nat → Prop} {hp : Heap} {ι : Loc} (h : eqP C.T t x y = some b) (hx : VR w ok x (rf hp ι) v) (hy : VR w ok y (rf hp ι) u) :
    (∃ a c, v = .pointer a ∧ u = .pointer c) ∧ (binOp .eql t v u).run C.P w = .ok (.bool b) w ∧ (binOp .neq t v u).run C.P w = .ok (.bool (!b)) w := by
  unfold eqP at h
  split at h
  · rename_i e hd
    have hu := C.und hd
    have hu2 : C.P.underlying t = some (.pointer (C.P.pointee t)) := by
      have : C.P.pointee t = e := by unfold Program.pointee; rw [hu]
      rw [this]; exact hu
    split at h
    · cases h; cases hx; cases hy
      exact ⟨⟨_, _, rfl, rfl⟩, run_eql_pointer_nil w t none hu2, run_neq_pointer_nil w t none hu2⟩
    · cases h; cases hy
      obtain ⟨g, h1, rfl⟩ := hx
      exact ⟨⟨_, _, rfl, rfl⟩, run_eql_pointer_nil w t (some _) hu2, run_neq_pointer_nil w t (some _) hu2⟩
    · rename_i i a j b'
      cases hb : (Nat.beq i j && Nat.beq a b') with
      | false => rw [hb] at h; cases h
      | true =>
        rw [hb, cond_true] at h
        rw [Bool.and_eq_true] at hb
        have e1 := Nat.eq_of_beq_eq_true hb.1
        have e2 := Nat.eq_of_beq_eq_true hb.2
        subst e1; subst e2
        split at h
        · rename_i l hz
          cases h
          obtain ⟨g, h1, rfl⟩ := hx
          obtain ⟨g', h1', rfl⟩ := hy
          rw [h1] at h1'
          cases h1'
          obtain ⟨ti, zv, hi, _⟩ := zeroL_ok (C.zeroes hz).1
          have hn := Lib.run_neq_ptr_same w ((⟨g, 0, none⟩ : Addr).add a) hu hi
          refine ⟨⟨_, _, rfl, rfl⟩, ?_, hn⟩
          have h2 : ∀ d : Nat, (Op.equalIn (d + 1) t (.pointer (some ((⟨g, 0, none⟩ : Addr).add a))) (.pointer (some ((⟨g, 0, none⟩ : Addr).add a)))).run C.P w = .ok true w := fun d => by
            simp [Op.equalIn, run_underlying hu, sizeOf, typeInfo, hi, run_sameAddr_same]
          simp only [binOp]
          simp [Op.equal, Op.maxDepth, h2 9999]
        · cases h
    · cases h
  · cases h

theorem aeqT_ok {C : Ctx} {t : TypeId} {op : BinOp} {x y z : AV} {v u : Value} {w : World} {ok : Nat → Prop} {hp : Heap} {ι : Loc} (h : aeqT C.T t op x y = some z) (hx : VR w ok x (rf hp ι) v) (hy : VR w ok y (rf hp ι) u) (X Y : Operand) :
    ∃ m, (do eqGuard op t X Y v u; binOp op t v u : Sem Value).run C.P w = .ok m w ∧ VR w ok z (rf hp ι) m := by
  unfold aeqT at h
  split at h
  · rename_i b hb
    split at h
    · cases h
      obtain ⟨⟨a, c, rfl, rfl⟩, h1, _⟩ := eqP_ok hb hx hy
      refine ⟨.bool b, ?_, ?_⟩
      · rw [Sem.run_bind, run_eqGuard_ptr]; simp only [Result.andThen_ok]; exact h1
      · cases b <;> rfl
    · cases h
      obtain ⟨⟨a, c, rfl, rfl⟩, _, h1⟩ := eqP_ok hb hx hy
      refine ⟨.bool (!b), ?_, ?_⟩
      · rw [Sem.run_bind, run_eqGuard_ptr]; simp only [Result.andThen_ok]; exact h1
      · cases b <;> rfl
    · cases h
  split at h
  · rename_i n g n' g'
    split at h
    · rename_i fs hd hp
      have hx0 := hx
      have hy0 := hy
      obtain ⟨xs, e1, _, _⟩ := hx0
      obtain ⟨ys, e2, _, _⟩ := hy0
      subst e1; subst e2
      have hq : peqP C.P t = true := by
        unfold TT.peq at hp
        cases hg : C.T.get t with
        | none => rw [hg] at hp; cases hp
        | some ti => rw [hg] at hp; exact C.tok.pe t ti hg hp
      have hu := C.und hd
      unfold peqP at hq
      rw [hu] at hq
      simp only [Bool.and_eq_true, Bool.not_eq_true'] at hq
      obtain ⟨⟨hn, hs⟩, heq⟩ := hq
      have hfo : C.P.fieldsOf t = fs := by unfold Program.fieldsOf; rw [hu]
      have hst : C.P.underlying t = some (.struct (C.P.fieldsOf t)) := by rw [hfo]; exact hu
      have hg := run_eqGuard_agg w op t X Y xs ys heq
      split at h
      · rename_i b hb
        cases h
        refine ⟨.bool b, ?_, rfl⟩
        rw [Sem.run_bind, hg]
        simp only [Result.andThen_ok]
        rw [run_eql_struct, run_equalIn_agg w 9999 t xs ys hst hs, hfo, eqFs_ok 9998 hx hy fs.toList b hn hb]
        rfl
      · rename_i b hb
        cases h
        refine ⟨.bool !b, ?_, rfl⟩
        rw [Sem.run_bind, hg]
        simp only [Result.andThen_ok]
        rw [run_neq_struct, run_equalIn_agg w 9999 t xs ys hst hs, hfo, eqFs_ok 9998 hx hy fs.toList b hn hb]
        rfl
      · cases h
    · cases h
  · cases h
end Go.Proofs.YteklnpgiloebcaaDoor.V

namespace Go.Proofs.YteklnpgiloebcaaDoor.V
set_option linter.unusedVariables false
set_option linter.unusedSimpArgs false
open Go Go.RowKit

/-- A frame that is about to end as told. -/
def leaveK (P : Program) (kd : CallKind) (fr : Frame) (w : World) : Ending → Prop
  | .returned v => fr.mode = .returning ∧ fr.defers = [] ∧ fr.kind = kd ∧ ∃ fn, P.funcs[fr.fn]? = some fn ∧ (results fn fr.tmps).run P w = .ok v w
  | .panicked chain => fr.mode = .panicking chain ∧ fr.defers = [] ∧ ∃ fn, P.funcs[fr.fn]? = some fn
  | .outgrown => True
theorem leaveK_normal {P : Program} {fr : Frame} {w : World} : ∀ {e : Ending}, leaveK P .normal fr w e → fr.leaving P w e
  | .returned _, h => h
  | .panicked _, h => h
  | .outgrown, h => h
theorem exK {P : Program} {R : Ending → World → Prop} {A : Ending → World → Frame → Prop} {B : Frame → Prop} (h : ∃ e w' fr, R e w' ∧ A e w' fr ∧ B fr ∧ leaveK P .normal fr w' e) : ∃ e w' fr, R e w' ∧ A e w' fr ∧ B fr ∧ fr.leaving P w' e :=
  let ⟨e, w', fr, h1, h2, h3, h4⟩ := h
  ⟨e, w', fr, h1, h2, h3, leaveK_normal h4⟩
/-- From every world that fits the abstract state, the frame comes to an end as it should. -/
structure Run (C : Ctx) (k : List Item) (env : Env) (h : Heap) : Prop where
  run : ∀ ι a w (b : Frame) cs, b.fn = C.f → b.kind = C.kp.kd → Rel C env h ι a w →
    ∃ e w' fr, C.R e w' ∧ Comes C.P (lone (b.at a k) cs w) (lone fr cs w') e ∧ fr.fn = C.f ∧ leaveK C.P C.kp.kd fr w' e

def aun (op : UnOp) (x : AV) (K : AV → Prop) (stop : Prop) : Prop :=
  match op, x with
  | .not, .tt => K .ff
  | .not, .ff => K .tt
  | .not, .bool b => K (.bool (!b))
  | .neg, .int k n => K (.int k (k.wrap (0 - n)))
  | .xor, .int k n => K (.int k (k.wrap ((BitVec.ofInt k.bits (if k.signed then -1 else k.max)) ^^^ (BitVec.ofInt k.bits n)).toNat))
  | _, _ => stop

/-- How long the slice is that is held against nil. -/
def nilLen (h : Heap) : AV → Option Nat
  | .sl n _ _ => some n
  | .row id => match h id with
    | .row _ _ n _ => some n
    | .mat _ _ n _ _ _ _ _ _ _ => some n
    | _ => none
  | .mrow id i => match h id with
    | .mat _ _ _ _ _ _ _ len _ _ => some (len i)
    | _ => none
  | _ => none
def nilOf (T : TT) (h : Heap) (t : TypeId) (x y : AV) : Option Nat := match y with
  | .nils => match T.underlying t with
    | some (.slice _) => nilLen h x
    | _ => none
  | _ => none
def anil (op : BinOp) (n : Nat) (K : AV → Prop) (stop : Prop) : Prop := match op with
  | .eql => Any fun b => (b = true → n = 0) → K (.bool b)
  | .neq => Any fun b => (b = false → n = 0) → K (.bool b)
  | _ => stop

def pairs (env : Env) (ps : Array (Nat × Operand)) : List (Nat × AV) := ps.toList.map fun p => (p.1, ev env p.2)

/-- The same, each value looked at. -/
def fpairs (env : Env) : List (Nat × Operand) → (List (Nat × AV) → Prop) → Prop
  | [], K => K []
  | p :: r, K => fv (ev env p.2) fun x => fpairs env r fun l => K ((p.1, x) :: l)
theorem fpairs_eq (env : Env) : ∀ (ps : List (Nat × Operand)) (K : List (Nat × AV) → Prop), fpairs env ps K = K (ps.map fun p => (p.1, ev env p.2))
  | [], K => rfl
  | p :: r, K => by unfold fpairs; rw [fv_eq, fpairs_eq env r]; rfl

def aop (C : Ctx) (o : Oper) (env : Env) (h : Heap) (K : Env → Heap → AV → Prop) (stop : Prop) : Prop :=
  match o.op with
  | .move x => K env h (ev env x)
  | .assign x => K env h (ev env x)
  | .pick c x y => match ev env c with
    | .tt => K env h (ev env x)
    | .ff => K env h (ev env y)
    | .bool b => AskB b (K env h (ev env x)) (K env h (ev env y))
    | _ => stop
  | .box t x => match o.dst with | some d => fv (ev env x) fun x => abox t d x env h K stop | none => stop
  | .alloc t => match o.dst with | some d => aalloc C.T t d env h K stop | none => stop
  | .build t ps => fpairs env ps.toList fun l => abuild C.T t l (K env h) stop
  | .buildSlice t n ps => match o.dst with | some d => fpairs env ps.toList fun l => abuildSlice C.T t d n l env h K stop | none => stop
  | .load t x => aload C.T h t (ev env x) (K env h) stop
  | .store t x y => fv (ev env y) fun y => astoreA C.T t (ev env x) y env h (fun env' h' => K env' h' .u) stop
  | .nilCheck x => match ev env x with
    | .iadr m g => K env h (.iadr m g)
    | .radr a b c d => K env h (.radr a b c d)
    | .box a b => K env h (.box a b)
    | _ => stop
  | .binOp op t x y _ => match nilOf C.T h t (ev env x) (ev env y) with
    | some n => anil op n (K env h) stop
    | none => match aeqT C.T t op (ev env x) (ev env y) with
      | some z => K env h z
      | none => match avB (ev env x) with
        | some _ => cond (boolTy C.T t) (abin op (ev env x) (ev env y) (K env h) stop) stop
        | none => abin op (ev env x) (ev env y) (K env h) stop
  | .unOp op _ x => aun op (ev env x) (K env h) stop
  | .convert s d x => aconvert C.T s d (ev env x) (K env h) stop
  | .makeSlice t l c => match o.dst with | some d => amake C.T t d (ev env l) (ev env c) env h K stop | none => stop
  | .slice t x lo hi none => aslice C.T t (ev env x) (lo.map (ev env)) (hi.map (ev env)) (K env h) stop
  | .fieldAddr s x f => afieldAddr C.T s (ev env x) f (K env h) stop
  | .field s x f => afield C.T s (ev env x) f (K env h) stop
  | .indexAddr t x i => aindexAddr C.T h t (ev env x) (ev env i) (K env h) stop
  | .index t x i => aindex C.T t (ev env x) (ev env i) (K env h) stop
  | .extract x i => aextract (ev env x) i (K env h) stop
  | .makeMap t none => match o.dst with | some d => amakeMap C.T t d env h K stop | none => stop
  | .range t x => match o.dst with | some d => arange C.T t d (ev env x) env h K stop | none => stop
  | .next x b => anext (ev env x) b h (K env) stop
  | .lookup t x k c => alookup C.T h t (ev env x) (ev env k) c (K env h) stop
  | .mapUpdate t x k v => aupdate C.T h t (ev env x) (ev env k) (ev env v) (fun h' => K env h' .u) stop
  | .insert t x k v => aupdate C.T h t (ev env x) (ev env k) (ev env v) (fun h' => K env h' .u) stop
  | .call c => match c.callee, c.args.toList, c.argTypes.toList with
    | .builtin .len, [x], [t] => alen C.T h t (ev env x) (K env h) stop
    | .builtin .unsafeSliceData, [x], [t] => asliceData C.T h o.type (ev env x) (K env h) stop
    | .builtin .append, [s, x], [t, t2] => match o.dst with | some d => cond (Nat.beq t t2) (aappend C.T t t2 d (ev env s) (ev env x) env h K stop) (aappS C.T t t2 d (ev env s) (ev env x) env h K stop) | none => stop
    | _, _, _ => stop
  | _ => stop

/-- What one operation does, said of the model's own run. -/
def OpOut (C : Ctx) (a : Act) (w : World) (o : Oper) (K : Env → Heap → AV → Prop) : Prop :=
  ∃ nx v w' ι' env' h' x, (execOp a.eval o).run C.P w = .ok nx w' ∧ (nx = .value v ∨ (nx = .skip ∧ v = undef)) ∧ Rel C env' h' ι' a w' ∧ VR w' (okB C h' ι' w') x (rf h' ι') v ∧ K env' h' x

section
variable {C : Ctx} {env : Env} {h : Heap} {ι : Loc} {a : Act} {w : World}

theorem OpOut.of {o : Oper} {s : Sem Value} {K : Env → Heap → AV → Prop} (he : execOp a.eval o = (do pure (.value (← s)) : Sem Next)) (hs : Out C a w s K) : OpOut C a w o K := by
  obtain ⟨v, w', ι', env', h', x, hr, R', hv, hk⟩ := hs
  exact ⟨.value v, v, w', ι', env', h', x, by rw [he]; simp [hr], .inl rfl, R', hv, hk⟩

theorem OpOut.same (R : Rel C env h ι a w) {o : Oper} {K : Env → Heap → AV → Prop} {x : AV} {v : Value} (hk : K env h x) (he : (execOp a.eval o).run C.P w = .ok (.value v) w) (hv : VR w (okB C h ι w) x (rf h ι) v) :
    OpOut C a w o K := ⟨.value v, v, w, ι, env, h, x, he, .inl rfl, R, hv, hk⟩

theorem pairs_ok (R : Rel C env h ι a w) (ps : Array (Nat × Operand)) : (pairs env ps).length = (ps.map fun (i, x) => (i, a.eval x)).size ∧
    ∀ (k : Nat) p q, (pairs env ps)[k]? = some p → (ps.map fun (i, x) => (i, a.eval x))[k]? = some q → p.1 = q.1 ∧ VR w (okB C h ι w) p.2 (rf h ι) q.2 := by
  refine ⟨by simp [pairs], fun k p q hp hq => ?_⟩
  simp only [pairs, List.getElem?_map, Array.getElem?_toList] at hp
  rw [Array.getElem?_map] at hq
  cases hk : ps[k]? with
  | none => rw [hk] at hp; cases hp
  | some r =>
    rw [hk] at hp hq
    cases hp; cases hq
    exact ⟨rfl, ev_ok R _⟩

theorem toList_two {α : Type} {a : Array α} {l : List α} (h : a.toList = l) : a = l.toArray := by
  rw [← h]

theorem aun_ok (R : Rel C env h ι a w) {op : UnOp} {x : AV} {v : Value} {K : AV → Prop} {stop : Prop} (hx : VR w (okB C h ι w) x (rf h ι) v) (hk : aun op x K stop) :
    stop ∨ ∃ z m, (Op.unary op v).run C.P w = .ok m w ∧ VR w (okB C h ι w) z (rf h ι) m ∧ K z := by
  unfold aun at hk
  split at hk
  · have e : v = .bool true := hx
    subst e; exact .inr ⟨.ff, .bool false, by simp [Op.unary], rfl, hk⟩
  · have e : v = .bool false := hx
    subst e; exact .inr ⟨.tt, .bool true, by simp [Op.unary], rfl, hk⟩
  · rename_i b
    have e : v = .bool b := hx
    subst e; exact got_bool hk (by simp [Op.unary])
  · rename_i k n
    have e : v = .int k n := hx
    subst e; exact got_int hk (by simp [Op.unary, Op.intArith])
  · rename_i k n
    have e : v = .int k n := hx
    subst e; exact got_int hk (by simp [Op.unary, Op.intBits])
  · exact .inl hk

theorem own_nil {w : World} {B e sz n : Nat} {v : Value} {xs : List Value} (h : ownsX w B e sz v n xs) : ∃ A c, v = .slice A n c ∧ (A.isNone = true → n = 0) := by
  rcases h.2 with ⟨rfl, hn⟩ | ⟨g, cap, cur, rfl, _⟩
  · exact ⟨none, 0, by rw [hn], fun _ => hn⟩
  · exact ⟨_, cap, rfl, fun e => by cases e⟩

theorem nilLen_ok (R : Rel C env h ι a w) {x : AV} {v : Value} {n : Nat} (hx : VR w (okB C h ι w) x (rf h ι) v) (hn : nilLen h x = some n) : ∃ A c, v = .slice A n c ∧ (A.isNone = true → n = 0) := by
  cases x with
  | sl n' sz get =>
    cases hn
    obtain ⟨A, c, e, h1, _, h3, _⟩ := hx
    refine ⟨A, c, e, fun hA => ?_⟩
    cases A with
    | none => have := h3 rfl; omega
    | some _ => cases hA
  | row id =>
    have ho := R.obj id
    have hv : v = ι id 0 := hx
    rw [hv]
    simp only [nilLen] at hn
    cases hh : h id with
    | row e sz m get => rw [hh] at hn ho; cases hn; obtain ⟨xs, hr, _⟩ := ho; exact own_nil hr
    | mat e sz m get0 o ei szi len get hole => rw [hh] at hn ho; cases hn; obtain ⟨_, ⟨xs, hr, _⟩, _⟩ := ho; exact own_nil hr
    | _ => rw [hh] at hn; cases hn
  | mrow id i =>
    have ho := R.obj id
    obtain ⟨hv, h3⟩ := hx
    rw [hv]
    simp only [nilLen] at hn
    cases hh : h id with
    | mat e sz m get0 o ei szi len get hole =>
      rw [hh] at hn ho h3; cases hn
      obtain ⟨_, _, hrows, _⟩ := ho
      obtain ⟨_, ys, hr, _⟩ := hrows i h3.1 h3.2
      exact own_nil hr
    | _ => rw [hh] at hn; cases hn
  | _ => cases hn

theorem anil_ok (R : Rel C env h ι a w) {op : BinOp} {t : TypeId} {x y : AV} {v u : Value} {n : Nat} {K : AV → Prop} {stop : Prop} (hx : VR w (okB C h ι w) x (rf h ι) v) (hy : VR w (okB C h ι w) y (rf h ι) u)
    (hn : nilOf C.T h t x y = some n) (X Y : Operand) (hk : anil op n K stop) :
    stop ∨ ∃ z m, (do eqGuard op t X Y v u; binOp op t v u : Sem Value).run C.P w = .ok m w ∧ VR w (okB C h ι w) z (rf h ι) m ∧ K z := by
  unfold nilOf at hn
  split at hn
  · split at hn
    · rename_i e ht
      obtain ⟨A, c, rfl, hA⟩ := nilLen_ok R hx hn
      have hu : u = .slice none 0 0 := hy
      subst hu
      unfold anil at hk
      split at hk
      · refine got_bool (hk.all A.isNone hA) ?_
        simp [eqGuard, binOp, run_equal_slice_nil w t e A n c (C.und ht)]
      · refine got_bool (hk.all (!A.isNone) (fun hb => hA (by simpa using hb))) ?_
        simp [eqGuard, run_neq_slice_nil w t e A n c (C.und ht)]
      · exact .inl hk
    · cases hn
  · cases hn

theorem aop_ok (R : Rel C env h ι a w) (o : Oper) {K : Env → Heap → AV → Prop} {stop : Prop} (hk : aop C o env h K stop) : stop ∨ OpOut C a w o K := by
  unfold aop at hk
  split at hk
  · rename_i x ho
    exact .inr (OpOut.same R hk (by simp [execOp, ho]) (ev_ok R x))
  · rename_i x ho
    exact .inr (OpOut.same R hk (by simp [execOp, ho]) (ev_ok R x))
  · rename_i c x y ho
    have hc := ev_ok R c
    split at hk
    · rename_i e
      rw [e] at hc
      have e2 : a.eval c = .bool true := hc
      exact .inr (OpOut.same R hk (by simp [execOp, ho, e2, asBool]) (ev_ok R x))
    · rename_i e
      rw [e] at hc
      have e2 : a.eval c = .bool false := hc
      exact .inr (OpOut.same R hk (by simp [execOp, ho, e2, asBool]) (ev_ok R y))
    · rename_i b e
      rw [e] at hc
      have e2 : a.eval c = .bool b := hc
      cases b with
      | true => exact .inr (OpOut.same R (hk.t rfl) (by simp [execOp, ho, e2, asBool]) (ev_ok R x))
      | false => exact .inr (OpOut.same R (hk.f rfl) (by simp [execOp, ho, e2, asBool]) (ev_ok R y))
    · exact .inl hk
  · rename_i t x ho
    split at hk
    · rw [fv_eq] at hk
      exact (abox_ok R (ev_ok R x) hk).imp id (OpOut.of (by simp [execOp, ho]))
    · exact .inl hk
  · rename_i t ho
    split at hk
    · exact (aalloc_ok R (.tuple #[]) hk).imp id (OpOut.of (by simp [execOp, ho]))
    · exact .inl hk
  · rename_i t ps ho
    rw [fpairs_eq] at hk
    obtain ⟨h1, h2⟩ := pairs_ok R ps
    exact (abuild_ok R h1 h2 hk).imp id (OpOut.of (by simp [execOp, ho]))
  · rename_i t n ps ho
    split at hk
    · rw [fpairs_eq] at hk
      obtain ⟨h1, h2⟩ := pairs_ok R ps
      exact (abuildSlice_ok R h1 h2 hk).imp id (OpOut.of (by simp [execOp, ho]))
    · exact .inl hk
  · rename_i t x ho
    exact (aload_ok R (ev_ok R x) hk).imp id (OpOut.of (by simp [execOp, ho]))
  · rename_i t x y ho
    rw [fv_eq] at hk
    rcases astoreA_ok R (ev_ok R x) (ev_ok R y) hk with hk | ⟨w', env', h', ι', hr, R', hk⟩
    · exact .inl hk
    · exact .inr ⟨.skip, undef, w', ι', env', h', .u, by simp [execOp, ho, hr], .inr ⟨rfl, rfl⟩, R', trivial, hk⟩
  · rename_i x ho
    have hx := ev_ok R x
    split at hk
    · rename_i m g e
      rw [e] at hx
      obtain ⟨ad, e2, hx2⟩ := hx
      exact .inr (OpOut.same R hk (by simp [execOp, ho, e2]) ⟨ad, rfl, hx2⟩)
    · rename_i b1 b2 b3 b4 e
      rw [e] at hx
      obtain ⟨g, n, c, h1, e2, hx2⟩ := hx
      exact .inr (OpOut.same R hk (by simp [execOp, ho, e2]) ⟨g, n, c, h1, rfl, hx2⟩)
    · rename_i b1 b2 e
      rw [e] at hx
      obtain ⟨g, h1, e2⟩ := hx
      exact .inr (OpOut.same R hk (by simp [execOp, ho, e2]) ⟨g, h1, rfl⟩)
    · exact .inl hk
  · rename_i op t x y ty ho
    have main : abin op (ev env x) (ev env y) (K env h) stop → (C.P.underlying t = some .bool ∨ avB (ev env x) = none) → stop ∨ OpOut C a w o K := by
      intro hk hb
      rcases abin_ok t hb hk (ev_ok R x) (ev_ok R y) x y with hk | ⟨z, m, hr, hz, hk⟩
      · exact .inl hk
      · refine .inr (OpOut.of (s := do eqGuard op t x y (a.eval x) (a.eval y); binOp op t (a.eval x) (a.eval y)) (by simp [execOp, ho]) (Out.same R hk hr hz))
    split at hk
    · rename_i n hn
      rcases anil_ok R (ev_ok R x) (ev_ok R y) hn x y hk with hk | ⟨z, m, hr, hz, hk⟩
      · exact .inl hk
      · exact .inr (OpOut.of (s := do eqGuard op t x y (a.eval x) (a.eval y); binOp op t (a.eval x) (a.eval y)) (by simp [execOp, ho]) (Out.same R hk hr hz))
    split at hk
    · rename_i z hz
      obtain ⟨m, hr, hv⟩ := aeqT_ok hz (ev_ok R x) (ev_ok R y) x y
      exact .inr (OpOut.of (s := do eqGuard op t x y (a.eval x) (a.eval y); binOp op t (a.eval x) (a.eval y)) (by simp [execOp, ho]) (Out.same R hk hr hv))
    split at hk
    · cases hb : boolTy C.T t with
      | false => rw [hb] at hk; exact .inl hk
      | true => rw [hb] at hk; exact main hk (.inl (boolTy_ok hb))
    · rename_i e; exact main hk (.inr e)
  · rename_i op t x ho
    rcases aun_ok R (ev_ok R x) hk with hk | ⟨z, m, hr, hz, hk⟩
    · exact .inl hk
    · exact .inr (OpOut.of (by simp [execOp, ho]) (Out.same R hk hr hz))
  · rename_i s d x ho
    exact (aconvert_ok R (ev_ok R x) hk).imp id (OpOut.of (by simp [execOp, ho]))
  · rename_i t l c ho
    split at hk
    · exact (amake_ok R (ev_ok R l) (ev_ok R c) hk).imp id (OpOut.of (by simp [execOp, ho]))
    · exact .inl hk
  · rename_i t x lo hi ho
    refine (aslice_ok R (lv := lo.map a.eval) (hv := hi.map a.eval) (ev_ok R x) ⟨by simp, ?_⟩ ⟨by simp, ?_⟩ hk).imp id (OpOut.of (by simp [execOp, ho]))
    · intro y u hy hu
      cases lo with
      | none => cases hy
      | some z => cases hy; cases hu; exact ev_ok R z
    · intro y u hy hu
      cases hi with
      | none => cases hy
      | some z => cases hy; cases hu; exact ev_ok R z
  · rename_i s x f ho
    exact (afieldAddr_ok R (ev_ok R x) hk).imp id (OpOut.of (by simp [execOp, ho]))
  · rename_i s x f ho
    exact (afield_ok R (ev_ok R x) hk).imp id (OpOut.of (by simp [execOp, ho]))
  · rename_i t x i ho
    exact (aindexAddr_ok R (ev_ok R x) (ev_ok R i) hk).imp id (OpOut.of (by simp [execOp, ho]))
  · rename_i t x i ho
    exact (aindex_ok R (ev_ok R x) (ev_ok R i) hk).imp id (OpOut.of (by simp [execOp, ho]))
  · rename_i x i ho
    exact (aextract_ok R (ev_ok R x) hk).imp id (OpOut.of (by simp [execOp, ho]))
  · rename_i t ho
    split at hk
    · exact (amakeMap_ok R hk).imp id (OpOut.of (by simp [execOp, ho]))
    · exact .inl hk
  · rename_i t x ho
    split at hk
    · exact (arange_ok R (ev_ok R x) hk).imp id (OpOut.of (by simp [execOp, ho]))
    · exact .inl hk
  · rename_i x b ho
    exact (anext_ok (t := o.type) R (ev_ok R x) hk).imp id (OpOut.of (by simp [execOp, ho]))
  · rename_i t x k c ho
    rcases alookup_ok R (ev_ok R x) (ev_ok R k) hk with hk | ⟨z, m, hr, hz, hk⟩
    · exact .inl hk
    · exact .inr (OpOut.of (by simp [execOp, ho]) (Out.same R hk hr hz))
  · rename_i t x k v ho
    rcases aupdate_ok R (ev_ok R x) (ev_ok R k) (ev_ok R v) hk with hk | ⟨w', h', hr, R', hk⟩
    · exact .inl hk
    · exact .inr ⟨.skip, undef, w', ι, env, h', .u, by simp [execOp, ho, hr], .inr ⟨rfl, rfl⟩, R', trivial, hk⟩
  · rename_i t x k v ho
    rcases aupdate_ok R (ev_ok R x) (ev_ok R k) (ev_ok R v) hk with hk | ⟨w', h', hr, R', hk⟩
    · exact .inl hk
    · exact .inr ⟨.skip, undef, w', ι, env, h', .u, by simp [execOp, ho, hr], .inr ⟨rfl, rfl⟩, R', trivial, hk⟩
  · rename_i c ho
    split at hk
    · rename_i x t e1 e2 e3
      have e2' := toList_two e2
      have e3' := toList_two e3
      refine (alen_ok R o.type (ev_ok R x) hk).imp id (OpOut.of ?_)
      simp [execOp, ho, resolve, e1, e2', e3', invoke, builtin]
    · rename_i x t e1 e2 e3
      have e2' := toList_two e2
      have e3' := toList_two e3
      refine (asliceData_ok R (t := t) (ev_ok R x) hk).imp id (OpOut.of ?_)
      simp [execOp, ho, resolve, e1, e2', e3', invoke, builtin]
    · rename_i s x t t2 e1 e2 e3
      have e2' := toList_two e2
      have e3' := toList_two e3
      split at hk
      · cases hbt : Nat.beq t t2 with
        | true =>
          rw [hbt, cond_true] at hk
          refine (aappend_ok R o.type (ev_ok R s) (ev_ok R x) hk).imp id (OpOut.of ?_)
          simp [execOp, ho, resolve, e1, e2', e3', invoke, builtin]
        | false =>
          rw [hbt, cond_false] at hk
          refine (aappS_ok R o.type (ev_ok R s) (ev_ok R x) hk).imp id (OpOut.of ?_)
          simp [execOp, ho, resolve, e1, e2', e3', invoke, builtin]
      · exact .inl hk
    · exact .inl hk
  · exact .inl hk
end

end Go.Proofs.YteklnpgiloebcaaDoor.V

namespace Go.Proofs.YteklnpgiloebcaaDoor.V
set_option linter.unusedVariables false
set_option linter.unusedSimpArgs false
open Go Go.RowKit

def isRange : Nat → Nat → List Nat → Bool
  | i, n, [] => Nat.beq i n
  | i, n, j :: l => Nat.beq i j && isRange (i + 1) n l

def dstOf (ops : Array Oper) (j : Nat) : Option Nat := (ops.toList[j]?).bind (·.dst)

/-- A region's operations from the i-th on. -/
def areg (C : Ctx) (E : List Item → Env → Heap → Prop) (ops : Array Oper) (k : List Item) : List Oper → Nat → Env → Heap → Prop
  | [], _, env, h => E k env h
  | o :: l, i, env, h =>
    match o.dst, o.guard with
    | none, none => aop C o env h (fun env' h' _ => areg C E ops k l (i + 1) env' h') (Run C (.inRegion ops (List.range' i (l.length + 1)) :: k) env h)
    | some d, none => cond (okD C (some d)) (aop C o env h (fun env' h' x => fv x fun x => areg C E ops k l (i + 1) (upd env' d x) h') (Run C (.inRegion ops (List.range' i (l.length + 1)) :: k) env h)) (Run C (.inRegion ops (List.range' i (l.length + 1)) :: k) env h)
    | dst, some (j, want) => cond (okD C dst) (match dstOf ops j with
      | some g => match env g with
        | .tt => cond want (aop C o env h (fun env' h' x => fv x fun x => areg C E ops k l (i + 1) (putE env' dst x) h') (Run C (.inRegion ops (List.range' i (l.length + 1)) :: k) env h))
            (areg C E ops k l (i + 1) (putE env dst .sk) h)
        | .ff => cond want (areg C E ops k l (i + 1) (putE env dst .sk) h)
            (aop C o env h (fun env' h' x => fv x fun x => areg C E ops k l (i + 1) (putE env' dst x) h') (Run C (.inRegion ops (List.range' i (l.length + 1)) :: k) env h))
        | .bool b => AskB b
            (cond want (aop C o (upd env g .tt) h (fun env' h' x => fv x fun x => areg C E ops k l (i + 1) (putE env' dst x) h') (Run C (.inRegion ops (List.range' i (l.length + 1)) :: k) (upd env g .tt) h)) (areg C E ops k l (i + 1) (putE (upd env g .tt) dst .sk) h))
            (cond want (areg C E ops k l (i + 1) (putE (upd env g .ff) dst .sk) h) (aop C o (upd env g .ff) h (fun env' h' x => fv x fun x => areg C E ops k l (i + 1) (putE env' dst x) h') (Run C (.inRegion ops (List.range' i (l.length + 1)) :: k) (upd env g .ff) h)))
        | .sk => areg C E ops k l (i + 1) (putE env dst .sk) h
        | _ => Run C (.inRegion ops (List.range' i (l.length + 1)) :: k) env h
      | none => Run C (.inRegion ops (List.range' i (l.length + 1)) :: k) env h) (Run C (.inRegion ops (List.range' i (l.length + 1)) :: k) env h)

/-- A truth, once asked for, is known. -/
def toldE (c : Operand) (env : Env) (x : AV) : Env := match c with
  | .tmp t => upd env t x
  | _ => env
def astep (C : Ctx) (E : List Item → Env → Heap → Prop) : List Item → Env → Heap → Prop
  | [], env, h => Run C [] env h
  | .code (.seq x y) :: k, env, h => E (.code x :: .code y :: k) env h
  | .code .skip :: k, env, h => E k env h
  | .code (.label _) :: k, env, h => Run C k env h
  | .code (.cond c x y) :: k, env, h => match ev env c with
    | .tt => E (.code x :: k) env h
    | .ff => E (.code y :: k) env h
    | .bool b => AskB b (E (.code x :: k) (toldE c env .tt) h) (E (.code y :: k) (toldE c env .ff) h)
    | _ => Run C (.code (.cond c x y) :: k) env h
  | .code (.block id c) :: k, env, h => E (.code c :: .inBlock id :: k) env h
  | .code (.loop c) :: k, env, h => Run C (.code c :: .inLoop c :: k) env h
  | .inLoop c :: k, env, h => Run C (.code c :: .inLoop c :: k) env h
  | .code (.scope c) :: k, env, h => E (.code c :: .inScope c :: k) env h
  | .code (.exit id) :: k, env, h => match exitTo id k with
    | some k' => E k' env h
    | none => Run C (.code (.exit id) :: k) env h
  | .code (.goto l) :: k, env, h => match gotoIn l k with
    | some k' => Run C k' env h
    | none => Run C (.code (.goto l) :: k) env h
  | .code (.region id ops false) :: k, env, h => areg C E ops k ops.toList 0 env h
  | .inBlock _ :: k, env, h => E k env h
  | .inScope _ :: k, env, h => E k env h
  | .inRegion ops [] :: k, env, h => E k env h
  | .inRegion ops (i :: rest) :: k, env, h => cond (isRange i ops.size (i :: rest)) (areg C E ops k (ops.toList.drop i) i env h) (Run C (.inRegion ops (i :: rest) :: k) env h)
  | k, env, h => Run C k env h

def aexec (C : Ctx) : Nat → List Item → Env → Heap → Prop
  | 0 => Run C
  | n + 1 => astep C (aexec C n)

section
variable {C : Ctx} {env : Env} {h : Heap}

theorem Run.of_step {k : List Item} (hs : ∀ ι a w (b : Frame) cs, b.fn = C.f → Rel C env h ι a w → ∃ env' h' ι' a' w' k', Steps C.P (lone (b.at a k) cs w) (lone (b.at a' k') cs w') ∧ Rel C env' h' ι' a' w' ∧ Run C k' env' h') : Run C k env h :=
  ⟨fun ι a w b cs hb hkd R => by
    obtain ⟨env', h', ι', a', w', k', hst, R', hrun⟩ := hs ι a w b cs hb R
    obtain ⟨e, w2, fr, h1, h2, h3⟩ := hrun.run ι' a' w' b cs hb hkd R'
    exact ⟨e, w2, fr, h1, Comes.of_steps hst h2, h3⟩⟩

theorem Run.quiet {k k' : List Item} (hs : ∀ (b : Frame) a cs w, step C.P (lone (b.at a k) cs w) = .next (lone (b.at a k') cs w)) (hr : Run C k' env h) : Run C k env h :=
  Run.of_step fun ι a w b cs _ R => ⟨env, h, ι, a, w, k', .one (hs b a cs w), R, hr⟩

theorem step_scope {P : Program} {b : Frame} {a : Act} {k : List Item} {cs : List Frame} {w : World} {c : Code} :
    step P (lone (b.at a (.code (.scope c) :: k)) cs w) = .next (lone (b.at a (.code c :: .inScope c :: k)) cs w) :=
  step_lone_go (by simp [stepG, stepG.exec, Frame.at])
theorem step_inScope {P : Program} {b : Frame} {a : Act} {k : List Item} {cs : List Frame} {w : World} {c : Code} :
    step P (lone (b.at a (.inScope c :: k)) cs w) = .next (lone (b.at a k) cs w) :=
  step_lone_go (by simp [stepG, stepG.exec, Frame.at])

theorem step_op_ok {P : Program} {b : Frame} {a : Act} {k : List Item} {cs : List Frame} {w w' : World} {ops : Array Oper} {i : Nat} {rest : List Nat} {o : Oper} {nx : Next} {v : Value}
    (ho : ops[i]? = some o) (hw : Region.wanted o (yielded ops a.tmps) = true) (hr : (execOp a.eval o).run P w = .ok nx w') (hv : nx = .value v ∨ (nx = .skip ∧ v = undef)) :
    step P (lone (b.at a (.inRegion ops (i :: rest) :: k)) cs w) = .next (lone (b.at (a.put o.dst v) (.inRegion ops rest :: k)) cs w') := by
  have hg := stepG_op (P := P) (b := b) (k := k) (cs := cs) (w := w) (rest := rest) ho hw
  have hfin : (b.at a (.inRegion ops (i :: rest) :: k)).finish v = b.at (a.put o.dst v) (.inRegion ops rest :: k) := by
    rw [Frame.finish_at, ho]; rfl
  refine step_lone_go ?_
  rw [hg, ← hfin]
  rcases hv with rfl | ⟨rfl, rfl⟩ <;> simp [stepG.apply, hr]

theorem yield_of {ι : Loc} {a : Act} {w : World} (R : Rel C env h ι a w) {ops : Array Oper} {j d : Nat} {b : Bool} (hj : (ops.toList[j]?).bind (·.dst) = some d) (hx : VR w (okB C h ι w) (env d) (rf h ι) (.bool b) ∧ a.tmps.getD d undef = .bool b) :
    yielded ops a.tmps j = some b := by
  have hj' : (ops[j]?).bind (·.dst) = some d := by simpa using hj
  unfold yielded
  rw [hj']
  have h2 := hx.2
  rw [Array.getD_eq_getD_getElem?] at h2
  simp only [Option.bind_some]
  cases hq : a.tmps[d]? with
  | none => rw [hq] at h2; cases h2
  | some u => rw [hq] at h2; simp only [Option.getD_some] at h2; subst h2; rfl

theorem op_ok {o : Oper} {ops : Array Oper} {i : Nat} {rest : List Nat} {k : List Item} (ho : ops[i]? = some o) (hd : okD C o.dst = true) {K : Env → Heap → AV → Prop}
    (hK : ∀ env' h' x, K env' h' x → Run C (.inRegion ops rest :: k) (putE env' o.dst x) h')
    (hw : ∀ ι a w, Rel C env h ι a w → Region.wanted o (yielded ops a.tmps) = true) (hk : aop C o env h K (Run C (.inRegion ops (i :: rest) :: k) env h)) : Run C (.inRegion ops (i :: rest) :: k) env h :=
  ⟨fun ι a w b cs hb hkd R => by
    rcases aop_ok R o hk with hk | ⟨nx, v, w', ι', env', h', x, hr, hv, R', hx, hk⟩
    · exact hk.run ι a w b cs hb hkd R
    · have hst := step_op_ok (b := b) (k := k) (cs := cs) (rest := rest) ho (hw ι a w R) hr hv
      obtain ⟨e, w2, fr, h1, h2, h3⟩ := (hK env' h' x hk).run ι' (a.put o.dst v) w' b cs hb hkd (R'.put hx hd)
      exact ⟨e, w2, fr, h1, Comes.of_steps (.one hst) h2, h3⟩⟩

theorem skip_ok {o : Oper} {ops : Array Oper} {i : Nat} {rest : List Nat} {k : List Item} (ho : ops[i]? = some o) (hd : okD C o.dst = true)
    (hw : ∀ ι a w, Rel C env h ι a w → Region.wanted o (yielded ops a.tmps) = false) (hk : Run C (.inRegion ops rest :: k) (putE env o.dst .sk) h) : Run C (.inRegion ops (i :: rest) :: k) env h :=
  Run.of_step fun ι a w b cs _ R => by
    have hs := step_op_skip (P := C.P) (b := b) (a := a) (k := k) (cs := cs) (w := w) (ops := ops) (i := i) (rest := rest) (by simp [ho, hw ι a w R])
    rw [ho] at hs
    exact ⟨_, h, ι, _, w, _, .one hs, R.put (x := .sk) rfl hd, hk⟩

theorem wanted_none {o : Oper} (hg : o.guard = none) (f : Nat → Option Bool) : Region.wanted o f = true := by simp [Region.wanted, hg]
theorem wanted_some {o : Oper} {j : Nat} {want b : Bool} (hg : o.guard = some (j, want)) {f : Nat → Option Bool} (hf : f j = some b) : Region.wanted o f = (b == want) := by
  simp [Region.wanted, hg, hf]

theorem wanted_sk {o : Oper} {j : Nat} {want : Bool} (hg : o.guard = some (j, want)) {f : Nat → Option Bool} (hf : f j = none) : Region.wanted o f = false := by
  simp [Region.wanted, hg, hf]
theorem yield_sk {ops : Array Oper} {tmps : Array Value} {j d : Nat} (hj : (ops.toList[j]?).bind (·.dst) = some d) (hx : tmps.getD d undef = undef) : yielded ops tmps j = none := by
  have hj' : (ops[j]?).bind (·.dst) = some d := by simpa using hj
  unfold yielded
  rw [hj']
  rw [Array.getD_eq_getD_getElem?] at hx
  simp only [Option.bind_some]
  cases hq : tmps[d]? with
  | none => rfl
  | some u => rw [hq] at hx; simp only [Option.getD_some] at hx; subst hx; rfl

theorem Run.retell {k : List Item} {env' : Env} (he : ∀ ι a w, Rel C env h ι a w → ∀ i, VR w (okB C h ι w) (env' i) (rf h ι) (a.tmps.getD i undef)) (hr : Run C k env' h) : Run C k env h :=
  ⟨fun ι a w b cs hb hkd R => hr.run ι a w b cs hb hkd (R.env_ (he ι a w R))⟩

theorem Run.told {k : List Item} {d : Nat} {b : Bool} (hd : env d = .bool b) (hb : b = true → Run C k (upd env d .tt) h) (hf : b = false → Run C k (upd env d .ff) h) : Run C k env h := by
  cases b with
  | true =>
    refine Run.retell (fun ι a w R i => ?_) (hb rfl)
    by_cases e : i = d
    · subst e; rw [upd_same]; have := R.env i; rw [hd] at this; exact this
    · rw [upd_other _ _ e]; exact R.env i
  | false =>
    refine Run.retell (fun ι a w R i => ?_) (hf rfl)
    by_cases e : i = d
    · subst e; rw [upd_same]; have := R.env i; rw [hd] at this; exact this
    · rw [upd_other _ _ e]; exact R.env i
end

theorem isRange_ok : ∀ (l : List Nat) (i n : Nat), isRange i n l = true → i + l.length = n ∧ l = List.range' i l.length
  | [], i, n, h => ⟨by simpa using Nat.eq_of_beq_eq_true h, rfl⟩
  | j :: l, i, n, h => by
    simp only [isRange, Bool.and_eq_true] at h
    have e := Nat.eq_of_beq_eq_true h.1
    subst e
    obtain ⟨h1, h2⟩ := isRange_ok l (i + 1) n h.2
    exact ⟨by simp only [List.length_cons]; omega, by rw [List.length_cons, List.range'_succ, ← h2]⟩

theorem areg_ok {C : Ctx} {E : List Item → Env → Heap → Prop} (ih : ∀ k env h, E k env h → Run C k env h) {ops : Array Oper} {k : List Item} :
    ∀ (l : List Oper) (i : Nat) (env : Env) (h : Heap), (∀ j, l[j]? = ops[i + j]?) → areg C E ops k l i env h → Run C (.inRegion ops (List.range' i l.length) :: k) env h := by
  intro l
  induction l with
  | nil => intro i env h _ hx; exact Run.quiet (fun b a cs w => step_region_end) (ih _ _ _ hx)
  | cons o l ihl =>
    intro i env h hl hx
    have ho : ops[i]? = some o := by simpa using (hl 0).symm
    have hl' : ∀ j, l[j]? = ops[i + 1 + j]? := fun j => by
      have := hl (j + 1)
      rw [List.getElem?_cons_succ] at this
      rw [this]; congr 1; omega
    have hrec : ∀ env' h', areg C E ops k l (i + 1) env' h' → Run C (.inRegion ops (List.range' (i + 1) l.length) :: k) env' h' := fun env' h' => ihl (i + 1) env' h' hl'
    have hrec2 : ∀ env' h' x, fv x (fun x => areg C E ops k l (i + 1) (putE env' o.dst x) h') → Run C (.inRegion ops (List.range' (i + 1) l.length) :: k) (putE env' o.dst x) h' := fun env' h' x hk => hrec _ _ ((fv_eq x _).mp hk)
    rw [List.length_cons, List.range'_succ]
    unfold areg at hx
    rw [List.range'_succ] at hx
    split at hx
    · rename_i hd hg
      refine op_ok ho (by rw [hd]; rfl) (fun env' h' x hk => ?_) (fun _ _ _ _ => wanted_none hg _) hx
      rw [hd]; exact hrec _ _ hk
    · rename_i d hd hg
      cases hb : okD C (some d) with
      | false => rw [hb] at hx; exact hx
      | true =>
        rw [hb, cond_true] at hx
        refine op_ok ho (by rw [hd]; exact hb) (fun env' h' x hk => ?_) (fun _ _ _ _ => wanted_none hg _) hx
        rw [hd]; exact hrec _ _ ((fv_eq _ _).mp hk)
    · rename_i j want hg
      cases hd : okD C o.dst with
      | false => rw [hd] at hx; exact hx
      | true =>
        rw [hd, cond_true] at hx
        split at hx
        · rename_i g hj
          have yes : ∀ e, e g = .tt → ∀ ι a w, Rel C e h ι a w → yielded ops a.tmps j = some true := fun e he ι a w R => yield_of R hj (by have := R.env g; rw [he] at this; have h2 : a.tmps.getD g undef = .bool true := this; exact ⟨by rw [he]; rfl, h2⟩)
          have no : ∀ e, e g = .ff → ∀ ι a w, Rel C e h ι a w → yielded ops a.tmps j = some false := fun e he ι a w R => yield_of R hj (by have := R.env g; rw [he] at this; have h2 : a.tmps.getD g undef = .bool false := this; exact ⟨by rw [he]; rfl, h2⟩)
          split at hx
          · rename_i e
            cases want with
            | true => exact op_ok ho hd hrec2 (fun ι a w R => wanted_some hg (yes _ e ι a w R)) hx
            | false => exact skip_ok ho hd (fun ι a w R => wanted_some hg (yes _ e ι a w R)) (hrec _ _ hx)
          · rename_i e
            cases want with
            | true => exact skip_ok ho hd (fun ι a w R => wanted_some hg (no _ e ι a w R)) (hrec _ _ hx)
            | false => exact op_ok ho hd hrec2 (fun ι a w R => wanted_some hg (no _ e ι a w R)) hx
          · rename_i b e
            refine Run.told e (fun ht => ?_) (fun ht => ?_)
            · have hx := hx.t ht
              cases want with
              | true => exact op_ok ho hd hrec2 (fun ι a w R => wanted_some hg (yes _ (upd_same _ _ _) ι a w R)) hx
              | false => exact skip_ok ho hd (fun ι a w R => wanted_some hg (yes _ (upd_same _ _ _) ι a w R)) (hrec _ _ hx)
            · have hx := hx.f ht
              cases want with
              | true => exact skip_ok ho hd (fun ι a w R => wanted_some hg (no _ (upd_same _ _ _) ι a w R)) (hrec _ _ hx)
              | false => exact op_ok ho hd hrec2 (fun ι a w R => wanted_some hg (no _ (upd_same _ _ _) ι a w R)) hx
          · rename_i e
            exact skip_ok ho hd (fun ι a w R => wanted_sk hg (yield_sk hj (by have := R.env g; rw [e] at this; exact this))) (hrec _ _ hx)
          · exact hx
        · exact hx

theorem astep_ok {C : Ctx} {E : List Item → Env → Heap → Prop} (ih : ∀ k env h, E k env h → Run C k env h) (k : List Item) (env : Env) (h : Heap) (hx : astep C E k env h) : Run C k env h := by
    unfold astep at hx
    split at hx
    · exact hx
    · exact Run.quiet (fun b a cs w => step_seq) (ih _ _ _ hx)
    · exact Run.quiet (fun b a cs w => step_skip) (ih _ _ _ hx)
    · exact Run.quiet (fun b a cs w => step_label) hx
    · rename_i c x y k
      have key : ∀ t : Bool, (∀ ι a w, Rel C env h ι a w → a.eval c = .bool t) → Run C (.code (if t then x else y) :: k) env h → Run C (.code (.cond c x y) :: k) env h := by
        intro t ht hr
        exact Run.of_step fun ι a w b cs _ R => ⟨env, h, ι, a, w, _, .one (step_cond (ht ι a w R)), R, hr⟩
      split at hx
      · rename_i e
        exact key true (fun ι a w R => by have := ev_ok R c; rw [e] at this; exact this) (ih _ _ _ hx)
      · rename_i e
        exact key false (fun ι a w R => by have := ev_ok R c; rw [e] at this; exact this) (ih _ _ _ hx)
      · rename_i t e
        refine key t (fun ι a w R => by have := ev_ok R c; rw [e] at this; exact this) ?_
        have told : ∀ (t : Bool) (y : AV), ev env c = .bool t → (∀ w ok r v, VR w ok (.bool t) r v → VR w ok y r v) → ∀ k', Run C k' (toldE c env y) h → Run C k' env h := by
          intro t y he hy k' hr
          cases c with
          | tmp s =>
            refine Run.retell (fun ι a w R i => ?_) hr
            by_cases ei : i = s
            · subst ei
              show VR _ _ (upd env i y i) _ _
              rw [upd_same]
              have := R.env i
              rw [show env i = .bool t from he] at this
              exact hy _ _ _ _ this
            · show VR _ _ (upd env s y i) _ _
              rw [upd_other _ _ ei]; exact R.env i
          | _ => exact hr
        cases t with
        | true => exact told true .tt e (fun _ _ _ _ h => h) _ (ih _ _ _ (hx.t rfl))
        | false => exact told false .ff e (fun _ _ _ _ h => h) _ (ih _ _ _ (hx.f rfl))
      · exact hx
    · exact Run.quiet (fun b a cs w => step_block) (ih _ _ _ hx)
    · exact Run.quiet (fun b a cs w => step_loop) hx
    · exact Run.quiet (fun b a cs w => step_inLoop) hx
    · exact Run.quiet (fun b a cs w => step_scope) (ih _ _ _ hx)
    · split at hx
      · rename_i k' e
        exact Run.quiet (fun b a cs w => step_exit e) (ih _ _ _ hx)
      · exact hx
    · split at hx
      · rename_i k' e
        exact Run.quiet (fun b a cs w => step_goto e) hx
      · exact hx
    · rename_i id ops k
      refine Run.quiet (fun b a cs w => step_region) ?_
      have := areg_ok ih ops.toList 0 env h (fun j => by simp) hx
      rwa [Array.length_toList, ← List.range_eq_range'] at this
    · exact Run.quiet (fun b a cs w => step_inBlock) (ih _ _ _ hx)
    · exact Run.quiet (fun b a cs w => step_inScope) (ih _ _ _ hx)
    · exact Run.quiet (fun b a cs w => step_region_end) (ih _ _ _ hx)
    · rename_i ops i rest k
      cases hb : isRange i ops.size (i :: rest) with
      | false => rw [hb] at hx; exact hx
      | true =>
        rw [hb, cond_true] at hx
        obtain ⟨h1, h2⟩ := isRange_ok _ _ _ hb
        have := areg_ok ih (ops.toList.drop i) i env h (fun j => by simp) hx
        rw [h2]
        have e : (i :: rest).length = (ops.toList.drop i).length := by
          have h3 : ops.toList.length = ops.size := Array.length_toList
          rw [List.length_drop, h3]; omega
        rw [e]; exact this
    · exact hx

theorem aexec_ok {C : Ctx} : ∀ (n : Nat) {k : List Item} {env : Env} {h : Heap}, aexec C n k env h → Run C k env h := by
  intro n
  induction n with
  | zero => intro k env h hx; exact hx
  | succ n ih => intro k env h hx; exact astep_ok (fun k env h => ih) k env h hx

end Go.Proofs.YteklnpgiloebcaaDoor.V

namespace Go.Proofs.YteklnpgiloebcaaDoor.V
set_option linter.unusedVariables false
set_option linter.unusedSimpArgs false
open Go Go.RowKit

/-- Where what a call answers may lie: in what its arguments lead to, or in new memory. -/
def okR (S : Nat → Prop) (w w' : World) (b : Nat) : Prop := (S b ∨ w.heap.size ≤ b) ∧ b < w'.heap.size

def Post (S : Nat → Prop) (w : World) (r : AV) (e : Ending) (w' : World) : Prop := ∃ v, e = .returned v ∧ Below w.heap.size w w' ∧ VR w' (okR S w w') r noref v

/-- Called with what reads as 'args', the function returns what reads as 'r'; nothing that was there has changed. -/
structure Fn (P : Program) (f : FuncId) (args : List AV) (r : AV) : Prop where
  there : ∃ fn, P.funcs[f]? = some fn ∧ fn.name ≠ "runtime.NumGoroutine" ∧ fn.body.isNone = false
  calls : ∀ (S : Nat → Prop) (w : World) (vs : Array Value), (∀ b, S b → b < w.heap.size) → GlobOk S w → args.length = vs.size →
    (∀ (i : Nat) x v, args[i]? = some x → vs[i]? = some v → VR w S x noref v) → Calls P f vs w (Post S w r)

def envOf (args : List AV) : Env := fun i => args.getD i .u
def noObjs : Heap := fun _ => .dead

theorem envOf_ok {C : Ctx} {args : List AV} {vs : Array Value} {n : Nat} {r : Ref} (hlen : args.length = vs.size) (hargs : ∀ (i : Nat) x v, args[i]? = some x → vs[i]? = some v → VR C.w0 C.S x noref v) (i : Nat) :
    VR C.w0 C.S (envOf args i) noref ((vs ++ Array.replicate n undef).getD i undef) := by
  unfold envOf
  cases hx : args[i]? with
  | none => simp only [List.getD, hx]; trivial
  | some x =>
    have hi : i < args.length := by
      rcases Nat.lt_or_ge i args.length with h' | h'
      · exact h'
      · rw [List.getElem?_eq_none h'] at hx; cases hx
    have hi2 : i < vs.size := by omega
    have := hargs i x vs[i] hx (by simp [hi2])
    simp only [List.getD, hx, Option.getD_some]
    rw [Array.getD_eq_getD_getElem?, Array.getElem?_append_left hi2]
    simpa [hi2] using this

theorem Fn.of {P : Program} {f : FuncId} {args : List AV} {r : AV} (fn : Func) (c : Code) (hf : P.funcs[f]? = some fn) (hb : fn.body = some c) (hname : fn.name ≠ "runtime.NumGoroutine") (hn : args.length ≤ fn.ntmps)
    {T : TT} (tok : TOk P T) (N : Nat) (hN : fn.ntmps = N)
    (hrun : ∀ S w0 (gl : GlobOk S w0), Run { P := P, T := T, tok := tok, N := N, w0 := w0, S := S, glob := gl, f := f, R := Post S w0 r } [.code c] (envOf args) noObjs) : Fn P f args r := by
  subst hN
  refine ⟨⟨fn, hf, hname, by rw [hb]; rfl⟩, fun S w vs hS gl hlen hargs cs => ?_⟩
  let b : Frame := { (default : Frame) with fn := f, kind := .normal }
  have henter : Frame.enter P f vs .normal = b.at { tmps := vs ++ Array.replicate (fn.ntmps - vs.size) undef, defers := [] } [.code c] := by
    simp [Frame.enter, Frame.at, hf, hb, b]
  rw [henter]
  refine exK ((hrun S w gl).run (fun _ _ => .nilIface) _ w b cs rfl rfl ?_)
  constructor
  · exact Below.refl _ _
  · exact ⟨rfl, fun _ h => nomatch h⟩
  · simp; omega
  · intro i
    have := envOf_ok (C := { P := P, T := T, tok := tok, N := fn.ntmps, w0 := w, S := S, glob := gl, f := f, R := Post S w r }) (n := fn.ntmps - vs.size) (r := noref) hlen hargs i
    exact VR.mono (fun b hb => ⟨hS b hb, .inl hb, fun id hl => absurd rfl hl⟩) (fun _ _ => rfl) _ _ _ _ (fun _ _ h => False.elim h) this
  · intro id; trivial
  · intro id i; rfl
  · intro id hl; exact absurd rfl hl
  · intro id id' hl; exact absurd rfl hl

/-! ### coming back -/
theorem Rel.globOk {C : Ctx} {env : Env} {h : Heap} {ι : Loc} {a : Act} {w : World} (R : Rel C env h ι a w) : GlobOk (okB C h ι w) w := fun g =>
  VR.mono (fun b hb => ⟨Nat.lt_of_lt_of_le hb.1 R.below.size, Nat.lt_of_lt_of_le hb.1 R.below.size, .inl hb.2, fun id hl hg => Nat.not_lt.mpr (R.base id hl b hg).1 hb.1⟩) (fun b hb => R.below.block b hb.1) _ _ _ _ (fun _ _ h => h) (C.glob g)
theorem Rel.globAll {C : Ctx} {env : Env} {h : Heap} {ι : Loc} {a : Act} {w : World} (R : Rel C env h ι a w) : GlobOk (fun b => b < w.heap.size) w := fun g =>
  VR.mono (fun b hb => ⟨hb.1, hb.1⟩) (fun _ _ => rfl) _ _ _ _ (fun _ _ h => h) (R.globOk g)

/-- What stays of a value when nothing of the walk's own memory may be told. -/
def thin : AV → AV
  | .row _ => .u
  | .mrow .. => .u
  | .madr .. => .u
  | .radr .. => .u
  | .box .. => .u
  | .obj _ => .u
  | .agg n get => .agg n (fun j => thin (get j))
  | .tup n get => .tup n (fun j => thin (get j))
  | x => x
theorem thin_ok {w : World} {ok ok' : Nat → Prop} {r : Ref} (hok : ∀ b, ok b → ok' b) : ∀ (x : AV) (v : Value), VR w ok x r v → VR w ok' (thin x) noref v := by
  intro x
  induction x with
  | agg n get ih =>
    intro v ⟨cs, e, hs, hc⟩
    refine ⟨cs, e, hs, fun j hj => ?_⟩
    obtain ⟨cv, c1, c2, c3⟩ := hc j hj
    exact ⟨cv, c1, c2, ih j _ c3⟩
  | tup n get ih =>
    intro v ⟨cs, e, hs, hc⟩
    refine ⟨cs, e, hs, fun j hj => ?_⟩
    obtain ⟨cv, c1, c3⟩ := hc j hj
    exact ⟨cv, c1, ih j _ c3⟩
  | sl n sz get _ => intro v hv; exact VR.mono hok (fun _ _ => rfl) (.sl n sz get) noref noref v (fun _ _ h => h) hv
  | iadr m get _ => intro v hv; exact VR.mono hok (fun _ _ => rfl) (.iadr m get) noref noref v (fun _ _ h => h) hv
  | gtab cs => intro v hv; exact VR.mono hok (fun _ _ => rfl) (.gtab cs) noref noref v (fun _ _ h => h) hv
  | row id => intro v _; trivial
  | mrow id i => intro v _; trivial
  | madr id i sz a b => intro v _; trivial
  | radr id sz i j => intro v _; trivial
  | box id off => intro v _; trivial
  | obj id => intro v _; trivial
  | _ => intro v hv; exact hv
def fz (h : Heap) : AV → AV
  | .row id => match h id with
    | .row _ sz n get => .sl n sz get
    | .mat _ sz n get0 o _ szi len get none => .sl n sz (fun i j => cond (Nat.beq j o) (.sl (len i) szi (get i)) (get0 i j))
    | _ => .u
  | .mrow id i => match h id with
    | .mat _ _ _ _ _ _ szi len get _ => .sl (len i) szi (get i)
    | _ => .u
  | .madr .. => .u
  | .radr .. => .u
  | .box id off => match h id with
    | .box _ l => cond (Nat.beq off 0) (.iadr l.length (fun j => thin (l.getD j .u))) .u
    | _ => .u
  | .obj _ => .u
  | .agg n get => .agg n (fun j => fz h (get j))
  | .tup n get => .tup n (fun j => fz h (get j))
  | x => x

section
variable {C : Ctx} {env : Env} {h : Heap} {ι : Loc} {a : Act} {w : World}

theorem own_sl {w : World} {B e sz n : Nat} {v : Value} {xs : List Value} {get : Nat → Nat → AV} {ok : Nat → Prop} (hrow : ownsX w B e sz v n xs) (hone : ∀ u ∈ xs, u.oneCell' = true) (hown : ∀ g, blk v = some g → ok g)
    (hcells : ∀ i j, i < n → j < sz → ∃ cv, xs[i * sz + j]? = some cv ∧ VR w ok (get i j) noref cv) (r : Ref) : VR w ok (.sl n sz get) r v := by
  rcases hrow.2 with ⟨hv, hn0⟩ | ⟨g, cap, cur, hv, hB, hg, hnc, hcap, hcs, htake⟩
  · rw [hv]; subst hn0
    exact ⟨none, 0, rfl, Nat.le_refl _, by simp [maxLen], fun _ => rfl, fun h => absurd h (Nat.lt_irrefl _)⟩
  · rw [hv]
    refine ⟨_, cap, rfl, hnc, hcap, (fun e => by cases e), fun _ => ⟨_, rfl, hown g (by rw [hv]; rfl), fun i j hi hj => ?_⟩⟩
    obtain ⟨cv, c1, c3⟩ := hcells i j hi hj
    exact ⟨cv, hrow.cells (g := g) (by rw [hv]; rfl) _ _ c1, hone cv (List.mem_of_getElem? c1), c3⟩

theorem row_sl (R : Rel C env h ι a w) {id e sz n : Nat} {get : Nat → Nat → AV} (hh : h id = .row e sz n get) {ok : Nat → Prop} (hok : ∀ b, okB C h ι w b → ok b) (hown : ∀ g, owns (h id) (ι id) g → ok g) (r : Ref) :
    VR w ok (.sl n sz get) r (ι id 0) := by
  have ho := R.obj id
  rw [hh] at ho
  obtain ⟨xs, hrow, hone, hcells⟩ := ho
  refine own_sl hrow hone (fun g hg => hown g (owns_zero hg)) (fun i j hi hj => ?_) r
  obtain ⟨cv, c1, c3⟩ := hcells i j hi hj
  exact ⟨cv, c1, VR.mono hok (fun _ _ => rfl) _ _ _ _ (fun _ _ h => h) c3⟩

theorem mrow_sl (R : Rel C env h ι a w) {id e sz n o ei szi : Nat} {get0 : Nat → Nat → AV} {len : Nat → Nat} {get : Nat → Nat → Nat → AV} {hole : Option Nat} (hh : h id = .mat e sz n get0 o ei szi len get hole) {ok : Nat → Prop} (hok : ∀ b, okB C h ι w b → ok b)
    (hown : ∀ g, owns (h id) (ι id) g → ok g) {i : Nat} (hi : i < n) (hho : hole ≠ some i) (r : Ref) : VR w ok (.sl (len i) szi (get i)) r (ι id (i + 1)) := by
  have ho := R.obj id
  rw [hh] at ho
  obtain ⟨_, _, hrows, _⟩ := ho
  obtain ⟨_, ys, hy, hy1, hyc⟩ := hrows i hi hho
  refine own_sl hy hy1 (fun g hg => hown g (by rw [hh]; exact .inr ⟨i, hi, hho, hg⟩)) (fun a b ha hb => ?_) r
  obtain ⟨u, u1, u3⟩ := hyc a b ha hb
  exact ⟨u, u1, VR.mono hok (fun _ _ => rfl) _ _ _ _ (fun _ _ h => h) u3⟩

theorem mat_sl (R : Rel C env h ι a w) {id e sz n o ei szi : Nat} {get0 : Nat → Nat → AV} {len : Nat → Nat} {get : Nat → Nat → Nat → AV} (hh : h id = .mat e sz n get0 o ei szi len get none) {ok : Nat → Prop} (hok : ∀ b, okB C h ι w b → ok b)
    (hown : ∀ g, owns (h id) (ι id) g → ok g) (r : Ref) : VR w ok (.sl n sz (fun i j => cond (Nat.beq j o) (.sl (len i) szi (get i)) (get0 i j))) r (ι id 0) := by
  have ho := R.obj id
  rw [hh] at ho
  obtain ⟨_, ⟨xs, hx, h1, hc0, hin⟩, _, _⟩ := ho
  refine own_sl hx h1 (fun g hg => hown g (owns_zero hg)) (fun i j hi hj => ?_) r
  by_cases hjo : j = o
  · subst hjo
    exact ⟨_, hin i hi (by simp), by rw [Nat.beq_refl, cond_true]; exact mrow_sl R hh hok hown hi (by simp) _⟩
  · obtain ⟨cv, c1, c3⟩ := hc0 i j hi hj hjo
    exact ⟨cv, c1, by rw [beq_ne hjo, cond_false]; exact VR.mono hok (fun _ _ => rfl) _ _ _ _ (fun _ _ h => h) c3⟩

theorem fz_ok2 (R : Rel C env h ι a w) {h2 : Heap} (hsub : ∀ id, h2 id ≠ .dead → h2 id = h id) {ok : Nat → Prop} (hok : ∀ b, okB C h ι w b → ok b) (hown : ∀ id, h2 id ≠ .dead → ∀ g, owns (h id) (ι id) g → ok g) :
    ∀ (x : AV) (v : Value), VR w (okB C h ι w) x (rf h ι) v → VR w ok (fz h2 x) noref v := by
  intro x
  induction x with
  | agg n get ih =>
    intro v ⟨cs, e, hs, hc⟩
    refine ⟨cs, e, hs, fun j hj => ?_⟩
    obtain ⟨cv, c1, c2, c3⟩ := hc j hj
    exact ⟨cv, c1, c2, ih j _ c3⟩
  | tup n get ih =>
    intro v ⟨cs, e, hs, hc⟩
    refine ⟨cs, e, hs, fun j hj => ?_⟩
    obtain ⟨cv, c1, c3⟩ := hc j hj
    exact ⟨cv, c1, ih j _ c3⟩
  | row id =>
    intro v hv
    have e : v = ι id 0 := hv
    rw [e]
    simp only [fz]
    split
    · rename_i hh; exact row_sl R ((hsub id (by rw [hh]; simp)).symm.trans hh) hok (hown id (by rw [hh]; simp)) _
    · rename_i hh; exact mat_sl R ((hsub id (by rw [hh]; simp)).symm.trans hh) hok (hown id (by rw [hh]; simp)) _
    · trivial
  | mrow id i =>
    intro v hv
    obtain ⟨e, h3⟩ := hv
    rw [e]
    simp only [fz]
    split
    · rename_i hh
      have hh' := (hsub id (by rw [hh]; simp)).symm.trans hh
      rw [hh'] at h3
      exact mrow_sl R hh' hok (hown id (by rw [hh]; simp)) h3.1 h3.2 _
    · trivial
  | madr id i sz a b => intro v _; trivial
  | radr id sz i j => intro v _; trivial
  | box id off =>
    intro v hv
    simp only [fz]
    split
    · rename_i t l hh
      have hh' := (hsub id (by rw [hh]; simp)).symm.trans hh
      cases hb : Nat.beq off 0 with
      | false => trivial
      | true =>
        obtain rfl := Nat.eq_of_beq_eq_true hb
        obtain ⟨g, h1, h2⟩ := hv
        have ho := R.obj id
        rw [hh'] at ho
        obtain ⟨g', cs, e1, hg, hs, hc⟩ := ho
        rw [h1] at e1
        cases e1
        refine ⟨⟨g, 0, none⟩, h2, hown id (by rw [hh]; simp) g (owns_zero (by rw [h1]; rfl)), fun j hj => ?_⟩
        obtain ⟨cv, c1, c2, c3⟩ := hc j l[j] (List.getElem?_eq_getElem hj)
        have e2 : l.getD j .u = l[j] := by simp [List.getD, List.getElem?_eq_getElem hj]
        refine ⟨cv, ?_, c2, ?_⟩
        · have e3 : (⟨g, 0, none⟩ : Addr).add j = ⟨g, j, none⟩ := by
            unfold Addr.add
            by_cases h0 : j = 0
            · simp [h0]
            · simp [h0]
          rw [e3]
          simp [World.cell?, hg, c1]
        · show VR w ok (thin (l.getD j .u)) noref cv
          rw [e2]; exact thin_ok hok _ _ c3
    · trivial
  | obj id => intro v _; trivial
  | sl n sz get _ => intro v hv; exact VR.mono hok (fun _ _ => rfl) (.sl n sz get) noref noref v (fun _ _ h => h) hv
  | iadr m get _ => intro v hv; exact VR.mono hok (fun _ _ => rfl) (.iadr m get) noref noref v (fun _ _ h => h) hv
  | gtab cs => intro v hv; exact VR.mono hok (fun _ _ => rfl) (.gtab cs) noref noref v (fun _ _ h => h) hv
  | _ => intro v hv; exact hv
theorem fz_ok (R : Rel C env h ι a w) {ok : Nat → Prop} (hok : ∀ b, okB C h ι w b → ok b) (hown : ∀ id, h id ≠ .dead → ∀ g, owns (h id) (ι id) g → ok g) :
    ∀ (x : AV) (v : Value), VR w (okB C h ι w) x (rf h ι) v → VR w ok (fz h x) noref v := fz_ok2 R (fun _ _ => rfl) hok hown

def Le (x y : AV) : Prop := ∀ w ok r v, VR w ok x r v → VR w ok y r v
theorem Le.refl (x : AV) : Le x x := fun _ _ _ _ h => h
theorem Le.trans {x y z : AV} (h : Le x y) (k : Le y z) : Le x z := fun w ok r v hv => k w ok r v (h w ok r v hv)
theorem Le.u (x : AV) : Le x .u := fun _ _ _ _ _ => trivial
theorem Le.of_eq {x y : AV} (h : x = y) : Le x y := h ▸ Le.refl x
theorem Le.sl {n sz : Nat} {g1 g2 : Nat → Nat → AV} (hg : ∀ i j, i < n → j < sz → Le (g1 i j) (g2 i j)) : Le (.sl n sz g1) (.sl n sz g2) := by
  rintro w ok r v ⟨A, c, e, h1, h2, h3, h4⟩
  refine ⟨A, c, e, h1, h2, h3, fun hn => ?_⟩
  obtain ⟨ad, e, hb, hc⟩ := h4 hn
  refine ⟨ad, e, hb, fun i j hi hj => ?_⟩
  obtain ⟨cv, c1, c2, c3⟩ := hc i j hi hj
  exact ⟨cv, c1, c2, hg i j hi hj _ _ _ _ c3⟩
theorem Le.agg {n : Nat} {g1 g2 : Nat → AV} (hg : ∀ j, j < n → Le (g1 j) (g2 j)) : Le (.agg n g1) (.agg n g2) := by
  rintro w ok r v ⟨cs, e, hs, hc⟩
  refine ⟨cs, e, hs, fun j hj => ?_⟩
  obtain ⟨cv, c1, c2, c3⟩ := hc j hj
  exact ⟨cv, c1, c2, hg j hj _ _ _ _ c3⟩
theorem Le.tup {n : Nat} {g1 g2 : Nat → AV} (hg : ∀ j, j < n → Le (g1 j) (g2 j)) : Le (.tup n g1) (.tup n g2) := by
  rintro w ok r v ⟨cs, e, hs, hc⟩
  refine ⟨cs, e, hs, fun j hj => ?_⟩
  obtain ⟨cv, c1, c3⟩ := hc j hj
  exact ⟨cv, c1, hg j hj _ _ _ _ c3⟩
theorem Le.nils (sz : Nat) (g : Nat → Nat → AV) : Le .nils (.sl 0 sz g) := by
  intro w ok r v hv
  exact ⟨none, 0, hv, Nat.le_refl _, by simp [maxLen], fun _ => rfl, fun h => absurd h (Nat.lt_irrefl _)⟩
theorem Le.tt : Le .tt (.bool true) := fun _ _ _ _ h => h
theorem Le.ff : Le .ff (.bool false) := fun _ _ _ _ h => h

def resAV (env : Env) : List Nat → AV
  | [t] => env t
  | ts => .tup ts.length (fun j => env (ts.getD j 0))

def resV (tmps : Array Value) : List Nat → Value
  | [t] => tmps.getD t undef
  | ts => .tuple (ts.map fun t => tmps.getD t undef).toArray

def resM (tmps : Array Value) : ResultVar → Sem Value
  | .tmp t => pure (tmps.getD t undef)
  | .cell a t => do loadVar t (← asAddr (tmps.getD a undef))

theorem results_eq (fn : Func) (tmps : Array Value) : results fn tmps = (do
    let vs ← fn.results.mapM (resM tmps)
    pure (if h : vs.size = 1 then vs[0] else .tuple vs)) := rfl

theorem results_run {P : Program} {fn : Func} {ts : List Nat} (hres : fn.results = (ts.map ResultVar.tmp).toArray) (tmps : Array Value) (w : World) :
    (results fn tmps).run P w = .ok (resV tmps ts) w := by
  have hm : ∀ ts : List Nat, ((ts.map ResultVar.tmp).mapM (resM tmps)).run P w = .ok (ts.map fun t => tmps.getD t undef) w := by
    intro ts
    induction ts with
    | nil => rfl
    | cons t ts ih => simp only [List.map_cons, List.mapM_cons, resM, Sem.run_bind, Sem.run_pure, Result.andThen_ok, ih]
  have h2 := hm ts
  rw [results_eq, hres, List.mapM_toArray, Sem.run_bind, Sem.run_map, h2]
  clear hres hm h2
  match ts with
  | [] => rfl
  | [t] => rfl
  | t :: u :: ts => simp [resV]

theorem Run.leave {k : List Item} {fn : Func} {ts : List Nat} {r : AV} (hk : k = [] ∨ ∃ k', k = .code .ret :: k') (hR : C.R = Post C.S C.w0 r) (hf : C.P.funcs[C.f]? = some fn) (hres : fn.results = (ts.map ResultVar.tmp).toArray)
    (hle : Le (fz h (resAV env ts)) r) (hds : C.kp.ds = [] := by rfl) : Run C k env h := by
  refine ⟨fun ι a w b cs hb hkd R => ?_⟩
  have hv : VR w (okB C h ι w) (resAV env ts) (rf h ι) (resV a.tmps ts) := by
    match ts, hle, hres with
    | [t], _, _ => exact R.env t
    | [], _, _ => exact ⟨#[], rfl, rfl, fun j hj => by cases hj⟩
    | t :: u :: ts, _, _ =>
      refine ⟨_, rfl, by simp, fun j hj => ?_⟩
      refine ⟨a.tmps.getD ((t :: u :: ts).getD j 0) undef, ?_, R.env _⟩
      rw [List.getElem?_toArray, List.getElem?_map, List.getElem?_eq_getElem hj, List.getD, List.getElem?_eq_getElem hj]
      rfl
  refine ⟨.returned _, w, { b.at a k with mode := .returning }, ?_, ?_, hb, rfl, R.defers.1.trans hds, hkd, fn, by show C.P.funcs[b.fn]? = _; rw [hb]; exact hf, results_run hres a.tmps w⟩
  · rw [hR]
    refine ⟨_, rfl, R.below, ?_⟩
    refine hle _ _ _ _ (fz_ok R (fun b hb' => ⟨hb'.2.1, hb'.1⟩) (fun id hl g hg => ?_) _ _ hv)
    have := R.base id hl g hg
    exact ⟨.inr this.1, this.2⟩
  · rcases hk with rfl | ⟨k', rfl⟩
    · exact Steps.one step_end
    · exact Steps.one step_ret

/-! ### calling -/
def bor (h : Heap) : AV → AV := fz h

/-- What is handed in says at least what is asked for. -/
def ArgsLe : List AV → List AV → Prop
  | [], [] => True
  | x :: xs, y :: ys => Le x y ∧ ArgsLe xs ys
  | _, _ => False
theorem ArgsLe.at : ∀ {xs ys : List AV}, ArgsLe xs ys → ys.length = xs.length ∧ ∀ (i : Nat) y, ys[i]? = some y → ∃ x, xs[i]? = some x ∧ Le x y
  | [], [], _ => ⟨rfl, fun i y h => by cases h⟩
  | x :: xs, y :: ys, h => by
    obtain ⟨h1, h2⟩ := h
    obtain ⟨h3, h4⟩ := ArgsLe.at h2
    refine ⟨by simp [h3], fun i y' hy => ?_⟩
    cases i with
    | zero => cases hy; exact ⟨x, rfl, h1⟩
    | succ i => exact h4 i y' hy
  | [], _ :: _, h => h.elim
  | _ :: _, [], h => h.elim

def flat : AV → Bool
  | .sl .. => false
  | .iadr .. => false
  | .gtab _ => false
  | .agg n get => (List.range n).all fun j => flat (get j)
  | .tup n get => (List.range n).all fun j => flat (get j)
  | _ => true

theorem flat_ok {w w' : World} {ok ok' : Nat → Prop} : ∀ (x : AV) (r : Ref) (v : Value), flat x = true → VR w ok x r v → VR w' ok' x r v := by
  intro x
  induction x with
  | sl n sz get _ => intro r v hf; cases hf
  | iadr m get _ => intro r v hf; cases hf
  | gtab cs => intro r v hf; cases hf
  | agg n get ih =>
    intro r v hf ⟨cs, e, hs, hc⟩
    refine ⟨cs, e, hs, fun j hj => ?_⟩
    obtain ⟨cv, c1, c2, c3⟩ := hc j hj
    exact ⟨cv, c1, c2, ih j _ _ (List.all_eq_true.mp hf j (List.mem_range.mpr hj)) c3⟩
  | tup n get ih =>
    intro r v hf ⟨cs, e, hs, hc⟩
    refine ⟨cs, e, hs, fun j hj => ?_⟩
    obtain ⟨cv, c1, c3⟩ := hc j hj
    exact ⟨cv, c1, ih j _ _ (List.all_eq_true.mp hf j (List.mem_range.mpr hj)) c3⟩
  | _ => intro r v _ hv; exact hv

def imm : AV → Bool
  | .row _ => false
  | .radr .. => false
  | .box .. => false
  | .obj _ => false
  | .mrow .. => false
  | .madr .. => false
  | .agg n get => (List.range n).all fun j => imm (get j)
  | .tup n get => (List.range n).all fun j => imm (get j)
  | _ => true

theorem imm_ok {w : World} {ok : Nat → Prop} : ∀ (x : AV) (r r' : Ref) (v : Value), imm x = true → VR w ok x r v → VR w ok x r' v := by
  intro x
  induction x with
  | agg n get ih =>
    intro r r' v hf ⟨cs, e, hs, hc⟩
    refine ⟨cs, e, hs, fun j hj => ?_⟩
    obtain ⟨cv, c1, c2, c3⟩ := hc j hj
    exact ⟨cv, c1, c2, ih j _ _ _ (List.all_eq_true.mp hf j (List.mem_range.mpr hj)) c3⟩
  | tup n get ih =>
    intro r r' v hf ⟨cs, e, hs, hc⟩
    refine ⟨cs, e, hs, fun j hj => ?_⟩
    obtain ⟨cv, c1, c3⟩ := hc j hj
    exact ⟨cv, c1, ih j _ _ _ (List.all_eq_true.mp hf j (List.mem_range.mpr hj)) c3⟩
  | row id => intro r r' v hf; cases hf
  | radr => intro r r' v hf; cases hf
  | box => intro r r' v hf; cases hf
  | obj => intro r r' v hf; cases hf
  | mrow => intro r r' v hf; cases hf
  | madr => intro r r' v hf; cases hf
  | _ => intro r r' v _ hv; exact hv

/-- A call of a function of the program, written out by name. -/
def calls? (o : Oper) : Option (FuncId × List Operand) :=
  match o.op with
  | .call { callee := .value (.func f), args, .. } => some (f, args.toList)
  | _ => none

theorem exec_call {P : Program} {f : FuncId} {o : Oper} {xs : List Operand} (ho : calls? o = some (f, xs)) (ht : ∃ fn, P.funcs[f]? = some fn ∧ fn.name ≠ "runtime.NumGoroutine" ∧ fn.body.isNone = false) (a : Act) (w : World) :
    (execOp a.eval o).run P w = .ok (.enter f (xs.map a.eval).toArray) w := by
  obtain ⟨fn, h1, h2, h3⟩ := ht
  unfold calls? at ho
  split at ho
  · rename_i f' args at_ heq
    cases ho
    have h2' : (fn.name == "runtime.NumGoroutine") = false := by simpa using h2
    simp only [execOp, heq, resolve, Act.eval, Deferred.ofValue, Sem.run_bind, Sem.run_pure, Result.andThen_ok, invoke, callFunc, program, Sem.run, h1, h2', h3, Bool.false_eq_true, if_false]
    congr 2
    apply Array.ext'
    simp
  · cases ho

theorem step_call {P : Program} {b : Frame} {a : Act} {k : List Item} {cs : List Frame} {w : World} {ops : Array Oper} {i : Nat} {rest : List Nat} {o : Oper} {f : FuncId} {vs : Array Value} {R : Ending → World → Prop}
    (ho : ops[i]? = some o) (hw : Region.wanted o (yielded ops a.tmps) = true) (hr : (execOp a.eval o).run P w = .ok (.enter f vs) w) (hc : Calls P f vs w R) (hR : ∀ e w', R e w' → ∃ v, e = .returned v) :
    ∃ v w', R (.returned v) w' ∧ Steps P (lone (b.at a (.inRegion ops (i :: rest) :: k)) cs w) (lone (b.at (a.put o.dst v) (.inRegion ops rest :: k)) cs w') := by
  have hg := stepG_op (P := P) (b := b) (k := k) (cs := cs) (w := w) (rest := rest) ho hw
  obtain ⟨e, w', fr, hRe, hcomes, _, hleave⟩ := hc (b.at a (.inRegion ops (i :: rest) :: k) :: cs)
  obtain ⟨v, rfl⟩ := hR e w' hRe
  have henter : step P (lone (b.at a (.inRegion ops (i :: rest) :: k)) cs w) = .next (lone (Frame.enter P f vs .normal) (b.at a (.inRegion ops (i :: rest) :: k) :: cs) w) :=
    step_lone_go (by rw [hg]; simp [stepG.apply, hr, Frame.at])
  have hfin : (b.at a (.inRegion ops (i :: rest) :: k)).finish v = b.at (a.put o.dst v) (.inRegion ops rest :: k) := by
    rw [Frame.finish_at, ho]; rfl
  refine ⟨v, w', hRe, .head henter (Steps.trans hcomes (.one ?_))⟩
  rw [← hfin]
  exact step_leave_returned hleave

theorem post_returned {S : Nat → Prop} {w : World} {r : AV} : ∀ e w', Post S w r e w' → ∃ v, e = .returned v := fun e w' ⟨v, h, _⟩ => ⟨v, h⟩

/-- May this operation be done now? -/
def ready (env : Env) (ops : Array Oper) (o : Oper) : Bool :=
  match o.guard with
  | none => true
  | some (j, want) => match (ops.toList[j]?).bind (·.dst) with
    | some d => match env d with
      | .tt => want
      | .ff => !want
      | _ => false
    | none => false

theorem ready_ok {ops : Array Oper} {o : Oper} (hr : ready env ops o = true) (R : Rel C env h ι a w) : Region.wanted o (yielded ops a.tmps) = true := by
  unfold ready at hr
  split at hr
  · rename_i hg; exact wanted_none hg _
  · rename_i j want hg
    split at hr
    · rename_i d hj
      split at hr
      · rename_i e
        have hy : yielded ops a.tmps j = some true := yield_of R hj (by have := R.env d; rw [e] at this; have h2 : a.tmps.getD d undef = .bool true := this; exact ⟨by rw [e]; rfl, h2⟩)
        rw [wanted_some hg hy, hr]; rfl
      · rename_i e
        have hy : yielded ops a.tmps j = some false := yield_of R hj (by have := R.env d; rw [e] at this; have h2 : a.tmps.getD d undef = .bool false := this; exact ⟨by rw [e]; rfl, h2⟩)
        rw [wanted_some hg hy]; cases want <;> first | rfl | cases hr
      · cases hr
    · cases hr

/-- A call whose answer holds no memory: what is handed in may be the caller's own. -/
theorem Run.callA {ops : Array Oper} {i : Nat} {rest : List Nat} {k : List Item} {o : Oper} {f : FuncId} {xs : List Operand} {args : List AV} {r : AV} (hfn : Fn C.P f args r) (ho : ops.toList[i]? = some o) (hc : calls? o = some (f, xs))
    (hargs : ArgsLe (xs.map (fun x => bor h (ev env x))) args) (hd : okD C o.dst = true) (hr : ready env ops o = true) (hflat : flat r = true)
    (next : Run C (.inRegion ops rest :: k) (putE env o.dst r) h) : Run C (.inRegion ops (i :: rest) :: k) env h :=
  Run.of_step fun ι a w b cs _ R => by
    have ho' : ops[i]? = some o := by simpa using ho
    have hcalls := hfn.calls (fun b => b < w.heap.size) w (xs.map a.eval).toArray (fun b hb => hb) R.globAll (by rw [hargs.at.1]; simp) (fun i x v hx hv => by
      obtain ⟨x0, hx0, hle0⟩ := hargs.at.2 i x hx
      rw [List.getElem?_map] at hx0
      rw [List.getElem?_toArray, List.getElem?_map] at hv
      cases hq : xs[i]? with
      | none => rw [hq] at hx0; cases hx0
      | some y =>
        rw [hq] at hx0 hv
        cases hx0; cases hv
        exact hle0 _ _ _ _ (fz_ok R (fun b hb => hb.1) (fun id hl g hg => (R.base id hl g hg).2) _ _ (ev_ok R y)))
    obtain ⟨v, w', ⟨v', e, hbel, hv⟩, hst⟩ := step_call (b := b) (k := k) (cs := cs) (rest := rest) ho' (ready_ok hr R) (exec_call hc hfn.there a w) hcalls post_returned
    cases e
    have R' := R.grow hbel
    exact ⟨_, h, ι, _, w', _, hst, R'.put (imm_any hflat hv) hd, next⟩
where
  imm_any {r : AV} {w' : World} {ok ok' : Nat → Prop} {rr : Ref} {v : Value} (hf : flat r = true) (hv : VR w' ok r noref v) : VR w' ok' r rr v :=
    flat_ok _ _ _ hf (VR.mono (fun _ h => h) (fun _ _ => rfl) _ _ _ _ (fun _ _ h => False.elim h) hv)

/-- A call that is handed nothing of the caller's own that may still change. -/
theorem Run.callB {ops : Array Oper} {i : Nat} {rest : List Nat} {k : List Item} {o : Oper} {f : FuncId} {xs : List Operand} {args : List AV} {r : AV} (hfn : Fn C.P f args r) (ho : ops.toList[i]? = some o) (hc : calls? o = some (f, xs))
    (hargs : ArgsLe (xs.map (ev env)) args) (himm : args.all imm = true) (hd : okD C o.dst = true) (hr : ready env ops o = true)
    (next : Run C (.inRegion ops rest :: k) (putE env o.dst r) h) : Run C (.inRegion ops (i :: rest) :: k) env h :=
  Run.of_step fun ι a w b cs _ R => by
    have ho' : ops[i]? = some o := by simpa using ho
    have hcalls := hfn.calls (okB C h ι w) w (xs.map a.eval).toArray (fun b hb => hb.1) R.globOk (by rw [hargs.at.1]; simp) (fun i x v hx hv => by
      have hix : imm x = true := List.all_eq_true.mp himm x (List.mem_of_getElem? hx)
      obtain ⟨x0, hx0, hle0⟩ := hargs.at.2 i x hx
      rw [List.getElem?_map] at hx0
      rw [List.getElem?_toArray, List.getElem?_map] at hv
      cases hq : xs[i]? with
      | none => rw [hq] at hx0; cases hx0
      | some y =>
        rw [hq] at hx0 hv
        cases hx0; cases hv
        exact imm_ok _ _ _ _ hix (hle0 _ _ _ _ (ev_ok R y)))
    obtain ⟨v, w', ⟨v', e, hbel, hv⟩, hst⟩ := step_call (b := b) (k := k) (cs := cs) (rest := rest) ho' (ready_ok hr R) (exec_call hc hfn.there a w) hcalls post_returned
    cases e
    have R' := R.grow hbel
    refine ⟨_, h, ι, _, w', _, hst, R'.put (VR.mono (fun b hb => ?_) (fun _ _ => rfl) _ _ _ _ (fun _ _ h => False.elim h) hv) hd, next⟩
    refine ⟨hb.2, ?_, ?_⟩
    · rcases hb.1 with hb1 | hb1
      · exact hb1.2.1
      · exact .inr (Nat.le_trans R.below.size hb1)
    · intro id hl e
      rcases hb.1 with hb1 | hb1
      · exact hb1.2.2 id hl e
      · have := (R.base id hl b e).2; omega
end

end Go.Proofs.YteklnpgiloebcaaDoor.V

namespace Go.Proofs.YteklnpgiloebcaaDoor.V
set_option linter.unusedVariables false
set_option linter.unusedSimpArgs false
open Go Go.RowKit

theorem AskB.dec {p : Prop} [Decidable p] {X Y : Prop} (t : p → X) (f : ¬ p → Y) : AskB (decide p) X Y := ⟨fun h => t (of_decide_eq_true h), fun h => f (of_decide_eq_false h)⟩
theorem AskB.ndec {p : Prop} [Decidable p] {X Y : Prop} (t : p → Y) (f : ¬ p → X) : AskB (!decide p) X Y :=
  ⟨fun h => f (of_decide_eq_false (by simpa using h)), fun h => t (of_decide_eq_true (by simpa using h))⟩

/-! ### forgetting -/
def MOle : MO → MO → Prop
  | .row e sz n g, .row e' sz' n' g' => e = e' ∧ sz = sz' ∧ n = n' ∧ ∀ i j, i < n → j < sz → Le (g i j) (g' i j)
  | .box t l, .box t' l' => t = t' ∧ l.length = l'.length ∧ ∀ (j : Nat) x y, l[j]? = some x → l'[j]? = some y → Le x y
  | .iter s p, .iter s' p' => s = s' ∧ p = p'
  | .mp m, .mp m' => m = m'
  | .raw w1 lo hi, .raw w1' lo' hi' => w1 = w1' ∧ lo = lo' ∧ hi = hi'
  | .frame vs E, .frame vs' E' => vs = vs' ∧ ∀ i, Le (E i) (E' i)
  | .clo f l, .clo f' l' => f = f' ∧ l.length = l'.length ∧ ∀ (j : Nat) x y, l[j]? = some x → l'[j]? = some y → Le x y
  | .mat e sz n g0 o ei szi len g hole, .mat e' sz' n' g0' o' ei' szi' len' g' hole' => e = e' ∧ sz = sz' ∧ n = n' ∧ o = o' ∧ ei = ei' ∧ szi = szi' ∧ hole = hole' ∧ (∀ i j, i < n → j < sz → j ≠ o → Le (g0 i j) (g0' i j)) ∧
      (∀ i, i < n → hole ≠ some i → len i = len' i ∧ ∀ a b, a < len i → b < szi → Le (g i a b) (g' i a b))
  | _, .dead => True
  | _, _ => False

theorem MOle.refl (m : MO) : MOle m m := by
  cases m with
  | dead => trivial
  | box t l => exact ⟨rfl, rfl, fun j x y hx hy => by rw [hx] at hy; cases hy; exact Le.refl _⟩
  | row e sz n g => exact ⟨rfl, rfl, rfl, fun _ _ _ _ => Le.refl _⟩
  | iter s p => exact ⟨rfl, rfl⟩
  | mp m => rfl
  | raw => exact ⟨rfl, rfl, rfl⟩
  | frame vs E => exact ⟨rfl, fun i => Le.refl _⟩
  | clo f l => exact ⟨rfl, rfl, fun j x y hx hy => by rw [hx] at hy; cases hy; exact Le.refl _⟩
  | mat => exact ⟨rfl, rfl, rfl, rfl, rfl, rfl, rfl, fun _ _ _ _ _ => Le.refl _, fun _ _ _ => ⟨rfl, fun _ _ _ _ => Le.refl _⟩⟩

theorem MOle.kept {C : Ctx} {w : World} {ok ok' : Nat → Prop} {r r' : Ref} {m m' : MO} {v : Nat → Value} (hle : MOle m m') (hok : ∀ b, ok b → ok' b) (hr : ∀ x v, r x v → r' x v) (hm : MR C.B w ok r m v) : MR C.B w ok' r' m' v := by
  cases m' with
  | dead => trivial
  | box t' l' =>
    cases m with
    | box t l =>
      obtain ⟨rfl, hl, hx⟩ := hle
      obtain ⟨g, cs, e, hg, hs, hc⟩ := hm
      refine ⟨g, cs, e, hg, by omega, fun j y hy => ?_⟩
      have hj : j < l.length := by
        rcases Nat.lt_or_ge j l.length with h' | h'
        · exact h'
        · rw [List.getElem?_eq_none (by omega)] at hy; cases hy
      obtain ⟨cv, c1, c2, c3⟩ := hc j l[j] (List.getElem?_eq_getElem hj)
      exact ⟨cv, c1, c2, VR.mono hok (fun _ _ => rfl) _ _ _ _ hr (hx j _ _ (List.getElem?_eq_getElem hj) hy _ _ _ _ c3)⟩
    | _ => exact False.elim hle
  | row e' sz' n' g' =>
    cases m with
    | row e sz n g =>
      obtain ⟨rfl, rfl, rfl, hx⟩ := hle
      obtain ⟨xs, ho, h1, hc⟩ := hm
      refine ⟨xs, ho, h1, fun i j hi hj => ?_⟩
      obtain ⟨cv, c1, c3⟩ := hc i j hi hj
      exact ⟨cv, c1, VR.mono hok (fun _ _ => rfl) _ _ _ _ (fun _ _ h => h) (hx i j hi hj _ _ _ _ c3)⟩
    | _ => exact False.elim hle
  | iter s' p' =>
    cases m with
    | iter s p => obtain ⟨rfl, rfl⟩ := hle; exact hm
    | _ => exact False.elim hle
  | mp m' =>
    cases m with
    | mp m => cases hle; exact hm
    | _ => exact False.elim hle
  | raw w1' lo' hi' =>
    cases m with
    | raw w1 lo hi => obtain ⟨rfl, rfl, rfl⟩ := hle; exact hm
    | _ => exact False.elim hle
  | clo f' l' =>
    cases m with
    | clo f l =>
      obtain ⟨rfl, hl, hx⟩ := hle
      obtain ⟨cs, e, hs, hc⟩ := hm
      refine ⟨cs, e, by omega, fun j y hy => ?_⟩
      have hj : j < l.length := by
        rcases Nat.lt_or_ge j l.length with h' | h'
        · exact h'
        · rw [List.getElem?_eq_none (by omega)] at hy; cases hy
      obtain ⟨cv, c1, c3⟩ := hc j l[j] (List.getElem?_eq_getElem hj)
      exact ⟨cv, c1, VR.mono hok (fun _ _ => rfl) _ _ _ _ hr (hx j _ _ (List.getElem?_eq_getElem hj) hy _ _ _ _ c3)⟩
    | _ => exact False.elim hle
  | frame vs' E' =>
    cases m with
    | frame vs E =>
      obtain ⟨rfl, hE⟩ := hle
      exact fun i => hE i _ _ _ _ (VR.mono hok (fun _ _ => rfl) _ _ _ _ hr (hm i))
    | _ => exact False.elim hle
  | mat e' sz' n' g0' o' ei' szi' len' g' hole' =>
    cases m with
    | mat e sz n g0 o ei szi len g hole =>
      obtain ⟨rfl, rfl, rfl, rfl, rfl, rfl, rfl, hx0, hx⟩ := hle
      obtain ⟨ho, ⟨xs, hxs, h1, hc0, hin⟩, hrows, hap⟩ := hm
      refine ⟨ho, ⟨xs, hxs, h1, fun i j hi hj hne => ?_, hin⟩, fun i hi hh => ?_, hap⟩
      · obtain ⟨cv, c1, c3⟩ := hc0 i j hi hj hne
        exact ⟨cv, c1, VR.mono hok (fun _ _ => rfl) _ _ _ _ (fun _ _ h => h) (hx0 i j hi hj hne _ _ _ _ c3)⟩
      · obtain ⟨h2, ys, hy, hy1, hyc⟩ := hrows i hi hh
        obtain ⟨e1, e2⟩ := hx i hi hh
        refine ⟨h2, ys, by rw [← e1]; exact hy, hy1, fun a b ha hb => ?_⟩
        rw [← e1] at ha
        obtain ⟨u, u1, u3⟩ := hyc a b ha hb
        exact ⟨u, u1, VR.mono hok (fun _ _ => rfl) _ _ _ _ (fun _ _ h => h) (e2 a b ha hb _ _ _ _ u3)⟩
    | _ => exact False.elim hle

theorem MOle.owns {m m' : MO} (hle : MOle m m') {v : Nat → Value} {g : Nat} (hd : m' ≠ .dead) : owns m' v g ↔ owns m v g := by
  cases m' <;> first | exact absurd rfl hd | (cases m <;> first | exact False.elim hle | exact Iff.rfl | (obtain ⟨rfl, rfl, rfl⟩ := hle; exact Iff.rfl) | (obtain ⟨rfl, rfl, rfl, rfl, rfl, rfl, rfl, _⟩ := hle; exact Iff.rfl))

section
variable {C : Ctx} {env env' : Env} {h h' : Heap} {ι : Loc} {a : Act} {w : World}

theorem rf_le (hh : ∀ id, MOle (h id) (h' id)) : ∀ x v, rf h ι x v → rf h' ι x v := by
  intro x v hx
  cases x with
  | radr id sz i j =>
    obtain ⟨g, n, c, h1, h2, h3⟩ := hx
    refine ⟨g, n, c, h1, h2, ?_⟩
    have := hh id
    cases hq : h' id <;> first
      | trivial
      | (cases hp : h id <;> rw [hp, hq] at this <;> rw [hp] at h3 <;> first
          | exact False.elim this
          | (obtain ⟨_, e3, e4, _⟩ := this; exact ⟨e3 ▸ h3.1, e4 ▸ h3.2⟩))
  | mrow id i =>
    obtain ⟨h1, h3⟩ := hx
    refine ⟨h1, ?_⟩
    have := hh id
    cases hq : h' id <;> first
      | trivial
      | (cases hp : h id <;> rw [hp, hq] at this <;> rw [hp] at h3 <;> first
          | exact False.elim this
          | (obtain ⟨rfl, rfl, rfl, rfl, rfl, rfl, rfl, _⟩ := this; exact h3))
  | madr id i sz a b =>
    obtain ⟨g, n, c, h1, h2, h3⟩ := hx
    refine ⟨g, n, c, h1, h2, ?_⟩
    have := hh id
    cases hq : h' id <;> first
      | trivial
      | (cases hp : h id <;> rw [hp, hq] at this <;> rw [hp] at h3 <;> first
          | exact False.elim this
          | (obtain ⟨rfl, rfl, rfl, rfl, rfl, rfl, rfl, _, hx⟩ := this; exact ⟨h3.1, h3.2.1, h3.2.2.1, (hx i h3.2.1 h3.2.2.1).1 ▸ h3.2.2.2⟩))
  | row id => exact hx
  | box id off => exact hx
  | obj id => exact hx
  | _ => exact absurd hx (by simp [rf])

theorem Rel.weaken (R : Rel C env h ι a w) (he : ∀ i, Le (env i) (env' i)) (hh : ∀ id, MOle (h id) (h' id)) : Rel C env' h' ι a w := by
  have hdead : ∀ id, h' id ≠ .dead → h id ≠ .dead := by
    intro id hl e
    have := hh id
    rw [e] at this
    cases hq : h' id with
    | dead => exact hl hq
    | _ => rw [hq] at this; exact False.elim this
  have hr := rf_le (ι := ι) hh
  have hok : ∀ b, okB C h ι w b → okB C h' ι w b := fun b hb => ⟨hb.1, hb.2.1, fun id hl hg => hb.2.2 id (hdead id hl) (((hh id).owns hl).mp hg)⟩
  constructor
  · exact R.below
  · exact R.defers
  · exact R.size
  · exact fun i => VR.mono hok (fun _ _ => rfl) _ _ _ _ hr (he i _ _ _ _ (R.env i))
  · exact fun id => MOle.kept (hh id) hok hr (R.obj id)
  · exact R.one
  · exact fun id hl g hg => R.base id (hdead id hl) g (((hh id).owns hl).mp hg)
  · exact fun id id' hl hl' hne g hg hg' => R.apart id id' (hdead id hl) (hdead id' hl') hne g (((hh id).owns hl).mp hg) (((hh id').owns hl').mp hg')

theorem Run.weaken {k : List Item} (he : ∀ i, Le (env i) (env' i)) (hh : ∀ id, MOle (h id) (h' id)) (hr : Run C k env' h') : Run C k env h :=
  ⟨fun ι a w b cs hb hkd R => hr.run ι a w b cs hb hkd (R.weaken he hh)⟩

/-- Slots, and objects, written out. -/
def lst (l : List (Nat × AV)) : Env := fun i => match l with
  | [] => .u
  | p :: l => cond (Nat.beq i p.1) p.2 (lst l i)
def lstH (l : List (Nat × MO)) : Heap := fun i => match l with
  | [] => .dead
  | p :: l => cond (Nat.beq i p.1) p.2 (lstH l i)

def fits (env : Env) : List (Nat × AV) → Prop
  | [] => True
  | p :: l => fv (env p.1) (fun x => Le x p.2) ∧ fits env l
def fitsH (h : Heap) : List (Nat × MO) → Prop
  | [] => True
  | p :: l => MOle (h p.1) p.2 ∧ fitsH h l

theorem fits_le : ∀ {l : List (Nat × AV)}, fits env l → ∀ i, Le (env i) (lst l i)
  | [], _, i => Le.u _
  | p :: l, hf, i => by
    obtain ⟨h1, h2⟩ := hf
    rw [fv_eq] at h1
    unfold lst
    cases hb : Nat.beq i p.1 with
    | true => have := Nat.eq_of_beq_eq_true hb; subst this; exact h1
    | false => exact fits_le h2 i
theorem fitsH_le : ∀ {l : List (Nat × MO)}, fitsH h l → ∀ i, MOle (h i) (lstH l i)
  | [], _, i => by cases h i <;> trivial
  | p :: l, hf, i => by
    obtain ⟨h1, h2⟩ := hf
    unfold lstH
    cases hb : Nat.beq i p.1 with
    | true => have := Nat.eq_of_beq_eq_true hb; subst this; exact h1
    | false => exact fitsH_le h2 i

theorem Run.to {k : List Item} (l : List (Nat × AV)) (lh : List (Nat × MO)) (he : fits env l) (hh : fitsH h lh) (hr : Run C k (lst l) (lstH lh)) : Run C k env h :=
  Run.weaken (fits_le he) (fitsH_le hh) hr

/-- The slots that stay through a loop, each looked at, and the ones that it turns. -/
def aforce (env : Env) : List Nat → (List (Nat × AV) → Prop) → Prop
  | [], K => K []
  | i :: r, K => fv (env i) fun x => aforce env r fun l => K ((i, x) :: l)
theorem aforce_ok : ∀ (ks : List Nat) {K : List (Nat × AV) → Prop}, aforce env ks K → ∃ l, fits env l ∧ K l
  | [], K, h => ⟨[], trivial, h⟩
  | i :: r, K, h => by
    unfold aforce at h
    rw [fv_eq] at h
    obtain ⟨l, h1, h2⟩ := aforce_ok r h
    exact ⟨(i, env i) :: l, ⟨by rw [fv_eq]; exact Le.refl _, h1⟩, h2⟩
theorem fits_append : ∀ {l1 l2 : List (Nat × AV)}, fits env l1 → fits env l2 → fits env (l1 ++ l2)
  | [], _, _, h => h
  | _ :: _, _, h1, h2 => ⟨h1.1, fits_append h1.2 h2⟩

/-- A loop: what holds at its head, for each state of its own; a measure goes down. -/
theorem Run.loop {α : Type} {k : List Item} (ks : List Nat) (E : α → List (Nat × AV)) (H : α → List (Nat × MO)) (I : α → Prop) (μ : α → Nat) (a0 : α) (h0 : I a0)
    (he : fits env (E a0)) (hh : fitsH h (H a0))
    (round : aforce env ks fun l => ∀ a, I a → (∀ a', μ a' < μ a → I a' → Run C k (lst (l ++ E a')) (lstH (H a'))) → Run C k (lst (l ++ E a)) (lstH (H a))) : Run C k env h := by
  obtain ⟨l, hl, round⟩ := aforce_ok ks round
  have key : ∀ (n : Nat) (a : α), μ a = n → I a → Run C k (lst (l ++ E a)) (lstH (H a)) := by
    intro n
    induction n using Nat.strongRecOn with
    | _ n ih =>
      intro a hn hI
      exact round a hI fun a' hlt hI' => ih (μ a') (hn ▸ hlt) a' rfl hI'
  exact Run.to _ _ (fits_append hl he) hh (key _ a0 rfl h0)

end

/-! ### numbers -/
theorem wrap64 {x : Int} (h1 : -9223372036854775808 ≤ x) (h2 : x ≤ 9223372036854775807) : IntKind.i64.wrap x = x := IntWalk.i64_in x ⟨h1, h2⟩
theorem Le.int {k : IntKind} {x y : Int} (h : x = y) : Le (.int k x) (.int k y) := h ▸ Le.refl _
theorem Le.wrap64 {x y : Int} (h1 : -9223372036854775808 ≤ x) (h2 : x ≤ 9223372036854775807) (h : x = y) : Le (.int .i64 (IntKind.i64.wrap x)) (.int .i64 y) := by
  rw [V.wrap64 h1 h2, h]; exact Le.refl _
theorem Le.bool {x y : Bool} (h : x = y) : Le (.bool x) (.bool y) := h ▸ Le.refl _
theorem Le.str {x y : ByteArray} (h : x = y) : Le (.str x) (.str y) := h ▸ Le.refl _

theorem bytes_le {n b : Nat} (hb : Nat.ble b 4096 = true) (hn : n ≤ 34359738368) : n * b ≤ 140737488355328 := by
  have h1 : b ≤ 4096 := Nat.ble_eq ▸ hb
  exact Nat.le_trans (Nat.mul_le_mul hn h1) (by decide)

theorem nd {p : Prop} (h : p := by first | omega | (dsimp only; omega) | decide | exact bytes_le (by rfl) (by omega) | exact ⟨rfl, by omega, bytes_le (by rfl) (by omega), by omega⟩ | (refine ⟨?_, ?_⟩ <;> (rw [wrap64 (by omega) (by omega)]; omega))) : p := h
/-! ### lists -/
structure Ty (α : Type) where
  sz : Nat
  enc : α → Nat → AV
  z : α
def Ty.G {α : Type} (T : Ty α) (l : List α) : Nat → Nat → AV := fun i j => T.enc (l.getD i T.z) j
def Ty.L {α : Type} (T : Ty α) (l : List α) : AV := .sl l.length T.sz (T.G l)
def Ty.R {α : Type} (T : Ty α) (e : Nat) (l : List α) : MO := .row e T.sz l.length (T.G l)

theorem Ty.nil {α : Type} (T : Ty α) : Le .nils (T.L []) := Le.nils _ _
theorem Ty.join {α : Type} (T : Ty α) (e : Nat) (l x : List α) (n m : Nat) (c g : Nat → Nat → AV) (hn : n = l.length) (hm : m = x.length) (hg : ∀ i j, i < n → j < T.sz → Le (g i j) (T.G l i j)) (hc : ∀ i j, i < m → j < T.sz → Le (c i j) (T.G x i j)) :
    MOle (.row e T.sz (n + m) (joinRow n g c)) (T.R e (l ++ x)) := by
  subst hn; subst hm
  refine ⟨rfl, rfl, by simp, fun i j hi hj => ?_⟩
  unfold joinRow Ty.G
  by_cases hil : i < l.length
  · rw [if_pos hil]
    have : (l ++ x).getD i T.z = l.getD i T.z := by simp [List.getD, List.getElem?_append_left hil]
    rw [this]; exact hg i j hil hj
  · rw [if_neg hil]
    have : (l ++ x).getD i T.z = x.getD (i - l.length) T.z := by simp [List.getD, List.getElem?_append_right (Nat.le_of_not_lt hil)]
    rw [this]; exact hc _ j (by omega) hj
theorem Ty.push {α : Type} (T : Ty α) (e : Nat) (l : List α) (x : α) (c : Nat → Nat → AV) (hc : ∀ j, j < T.sz → Le (c 0 j) (T.enc x j)) : MOle (.row e T.sz (l.length + 1) (joinRow l.length (T.G l) c)) (T.R e (l ++ [x])) :=
  T.join e l [x] _ _ _ _ rfl rfl (fun _ _ _ _ => Le.refl _) (fun i j hi hj => by
    have : i = 0 := by simp at hi; omega
    subst this; exact hc j hj)
theorem Ty.set {α : Type} (T : Ty α) (e : Nat) (l : List α) (i : Nat) (x : α) (hi : i < l.length) (cs : List AV) (hcs : cs.length = T.sz) (hc : ∀ (j : Nat) y, cs[j]? = some y → Le y (T.enc x j)) :
    MOle (.row e T.sz l.length (updRow (T.G l) i 0 cs)) (T.R e (l.set i x)) := by
  refine ⟨rfl, rfl, by simp, fun i' j hi' hj => ?_⟩
  unfold updRow Ty.G
  by_cases hii : i' = i
  · subst hii
    rw [if_pos ⟨rfl, Nat.zero_le _, by omega⟩]
    have : (l.set i' x).getD i' T.z = x := by simp [List.getD, hi]
    rw [this, Nat.sub_zero]
    have hj2 : j < cs.length := by omega
    rw [List.getD, List.getElem?_eq_getElem hj2]
    exact hc j _ (List.getElem?_eq_getElem hj2)
  · rw [if_neg (fun h => hii h.1)]
    have : (l.set i x).getD i' T.z = l.getD i' T.z := by simp [List.getD, List.getElem?_set_ne (Ne.symm hii)]
    rw [this]; exact Le.refl _

def tI : Ty Int := ⟨1, fun x _ => .int .i64 x, 0⟩
def tB : Ty Bool := ⟨1, fun x _ => .bool x, false⟩
def tS : Ty ByteArray := ⟨1, fun x _ => .str x, ByteArray.empty⟩

/-! ### rows under a name of their own -/
section
variable {C : Ctx} {env : Env} {h : Heap}
theorem Run.hold {k : List Item} (s q : Nat) {z e sz n : Nat} {get : Nat → Nat → AV} (hs : env s = .row z) (hz : h z = .row e sz n get) (hne : Nat.beq z q = false)
    (hr : Run C k (upd (scrubE q env) s (.row q)) (upd (upd (scrubH q h) z .dead) q (.row e sz n get))) : Run C k env h :=
  ⟨fun ι a w b cs hb hkd R => by
    have ho := R.obj z
    rw [hz] at ho
    have hlz : h z ≠ .dead := by rw [hz]; simp
    obtain ⟨xs, hown, h1, hc⟩ := ho
    have R' := (R.make q z (.row e sz n get) (ι z 0) w (Below.refl _ _) (fun _ _ => rfl) (fun _ _ _ _ _ _ => rfl) (R.one z 0) (fun g hg => R.base z hlz g (owns_zero hg))
      (fun g hg hok => hok.2.2 z hlz (owns_zero hg)) (fun id _ hid hl g hg e' => R.apart id z hl hlz hid g hg (owns_zero e'))
      (fun ok r hok hS hrr => ⟨xs, hown, h1, fun i j hi hj => by
        obtain ⟨cv, c1, c3⟩ := hc i j hi hj
        exact ⟨cv, c1, VR.mono hok (fun _ _ => rfl) _ _ _ _ (fun _ _ h => h) c3⟩⟩)).1
    refine hr.run (upd ι q (fun _ => ι z 0)) a w b cs hb hkd (R'.env_ (fun i => ?_))
    by_cases hi : i = s
    · subst hi
      rw [upd_same]
      have hv := R.env i
      rw [hs] at hv
      show _ = upd ι q (fun _ => ι z 0) q 0
      rw [upd_same]; exact hv
    · rw [upd_other _ _ hi]; exact R'.env i⟩

theorem Run.holdNil {k : List Item} (s q e sz : Nat) (get : Nat → Nat → AV) (hs : env s = .nils)
    (hr : Run C k (upd (scrubE q env) s (.row q)) (upd (upd (scrubH q h) q .dead) q (.row e sz 0 get))) : Run C k env h :=
  ⟨fun ι a w b cs hb hkd R => by
    have R' := (R.make q q (.row e sz 0 get) (.slice none 0 0) w (Below.refl _ _) (fun _ _ => rfl) (fun _ _ _ _ _ _ => rfl) rfl (fun g hg => by cases hg)
      (fun g hg => by cases hg) (fun id _ _ _ g hg e' => by cases e')
      (fun ok r hok hS hrr => ⟨[], ownsX_nil w C.B e sz, by simp, fun i j hi => by omega⟩)).1
    refine hr.run (upd ι q (fun _ => .slice none 0 0)) a w b cs hb hkd (R'.env_ (fun i => ?_))
    by_cases hi : i = s
    · subst hi
      rw [upd_same]
      have hv := R.env i
      rw [hs] at hv
      show _ = upd ι q (fun _ => .slice none 0 0) q 0
      rw [upd_same]; exact hv
    · rw [upd_other _ _ hi]; exact R'.env i⟩
end

end Go.Proofs.YteklnpgiloebcaaDoor.V


namespace Go.Proofs.YteklnpgiloebcaaDoor.V
set_option linter.unusedVariables false
set_option linter.unusedSimpArgs false
open Go Go.RowKit

/-- What an evaluation says, it says to whoever asks. -/
def Par (F : (AV → Prop) → Prop → Prop) (K : AV → Prop) (stop : Prop) : Prop := stop ∨ ∃ y, K y ∧ ∀ K' : AV → Prop, K' y → F K' False

section
variable {P : TT} {h : Heap} {K : AV → Prop} {stop : Prop}
theorem force_par {s : Nat} {K : Nat → Prop} {stop : Prop} (hk : force s K stop) : stop ∨ (K s ∧ ∀ (K' : Nat → Prop) (stop' : Prop), K' s → force s K' stop') := by
  unfold force at hk
  split at hk <;> first | exact .inr ⟨hk, fun K' stop' hK => hK⟩ | exact .inl hk

theorem abin_par {op : BinOp} {x y : AV} (hk : abin op x y K stop) : Par (abin op x y) K stop := by
  unfold abin at hk
  split at hk
  · rename_i k a k' b
    split at hk
    · exact .inr ⟨_, hk.r, fun K' hK => ⟨hk.l, hK⟩⟩
    · exact .inr ⟨_, hk.r, fun K' hK => ⟨hk.l, hK⟩⟩
    · split at hk
      · rename_i h1 h2 he
        subst he
        split at hk <;> first
          | exact .inl hk
          | exact .inr ⟨_, hk, fun K' hK => by simp only [abin, if_true]; exact hK⟩
          | exact .inr ⟨_, hk.r, fun K' hK => by simp only [abin, if_true]; exact ⟨hk.l, hK⟩⟩
      · exact .inl hk
  · split at hk <;> first
      | exact .inl hk
      | exact .inr ⟨_, hk, fun K' hK => by simp only [abin]; exact hK⟩
      | exact .inr ⟨_, hk.r, fun K' hK => by simp only [abin]; exact ⟨hk.l, hK⟩⟩
  · rename_i h1 h2
    split at hk
    · rename_i a b e1 e2
      refine .inr ⟨_, hk, fun K' hK => ?_⟩
      unfold abin
      split
      · exact absurd rfl (h1 _ _ _ _ rfl)
      · exact absurd rfl (h2 _ _ rfl)
      · simp only [e1, e2]; exact hK
    · rename_i a b e1 e2
      refine .inr ⟨_, hk, fun K' hK => ?_⟩
      unfold abin
      split
      · exact absurd rfl (h1 _ _ _ _ rfl)
      · exact absurd rfl (h2 _ _ rfl)
      · simp only [e1, e2]; exact hK
    · exact .inl hk

theorem aun_par {op : UnOp} {x : AV} (hk : aun op x K stop) : Par (aun op x) K stop := by
  unfold aun at hk
  split at hk <;> first | exact .inl hk | exact .inr ⟨_, hk, fun K' hK => hK⟩

theorem aload_par {t : TypeId} {x : AV} (hk : aload P h t x K stop) : Par (aload P h t x) K stop := by
  unfold aload at hk
  split at hk
  · rename_i m get hp ht
    rcases force_par hk with hk | ⟨hk, hf⟩
    · exact .inl hk
    · cases hb : Nat.ble (P.cellsOf t) m with
      | false => rw [hb] at hk; exact .inl hk
      | true =>
        rw [hb] at hk
        exact .inr ⟨_, hk, fun K' hK => by unfold aload; rw [hp, ht]; exact hf _ _ (by rw [hb]; exact hK)⟩
  · rename_i m get hp ht
    cases hb : Nat.blt 0 m with
    | false => rw [hb] at hk; exact .inl hk
    | true =>
      rw [hb] at hk
      exact .inr ⟨_, hk, fun K' hK => by unfold aload; rw [hp, ht]; simp only [hb]; exact hK⟩
  · exact .inl hk

theorem afieldAddr_par {s : TypeId} {x : AV} {f : Nat} (hk : afieldAddr P s x f K stop) : Par (afieldAddr P s x f) K stop := by
  unfold afieldAddr at hk
  split at hk
  · rename_i o t hf
    split at hk
    · rename_i d hd
      cases hb : Nat.blt 0 (P.cellsOf t) with
      | false => rw [hb] at hk; exact .inl hk
      | true =>
        rw [hb, cond_true] at hk
        rcases force_par hk with hk | ⟨hk, hfo⟩
        · exact .inl hk
        · split at hk
          · rename_i y hm
            exact .inr ⟨_, hk, fun K' hK => by unfold afieldAddr; rw [hf]; simp only [hd, hb, cond_true]; exact hfo _ _ (by simp only [hm]; exact hK)⟩
          · exact .inl hk
    · exact .inl hk
  · exact .inl hk

theorem aindexAddr_par {t : TypeId} {x ix : AV} (hk : aindexAddr P h t x ix K stop) : Par (aindexAddr P h t x ix) K stop := by
  unfold aindexAddr at hk
  split at hk
  · rename_i e k i hu
    split at hk
    · rename_i d hd
      split at hk
      · rename_i n sz get
        cases hb : Nat.beq (P.cellsOf e) sz with
        | false => rw [hb] at hk; exact .inl hk
        | true =>
          rw [hb, cond_true] at hk
          exact .inr ⟨_, hk.r, fun K' hK => by unfold aindexAddr; rw [hu]; simp only [hd, hb, cond_true]; exact ⟨hk.l, hK⟩⟩
      · rename_i id
        split at hk
        · rename_i e' sz n get hh
          cases hb : Nat.beq (P.cellsOf e) sz with
          | false => rw [hb] at hk; exact .inl hk
          | true =>
            rw [hb, cond_true] at hk
            exact .inr ⟨_, hk.r, fun K' hK => by unfold aindexAddr; rw [hu]; simp only [hd, hh, hb, cond_true]; exact ⟨hk.l, hK⟩⟩
        · rename_i e' sz n get0 o ei szi len get hole hh
          cases hb : Nat.beq (P.cellsOf e) sz with
          | false => rw [hb] at hk; exact .inl hk
          | true =>
            rw [hb, cond_true] at hk
            exact .inr ⟨_, hk.r, fun K' hK => by unfold aindexAddr; rw [hu]; simp only [hd, hh, hb, cond_true]; exact ⟨hk.l, hK⟩⟩
        · exact .inl hk
      · rename_i id k0
        split at hk
        · rename_i e' sz0 n get0 o ei sz len get hole hh
          cases hb : Nat.beq (P.cellsOf e) sz with
          | false => rw [hb] at hk; exact .inl hk
          | true =>
            rw [hb, cond_true] at hk
            exact .inr ⟨_, hk.r, fun K' hK => by unfold aindexAddr; rw [hu]; simp only [hd, hh, hb, cond_true]; exact ⟨hk.l, hK⟩⟩
        · exact .inl hk
      · exact .inl hk
    · exact .inl hk
  · rename_i len e k i hu
    split at hk
    · rename_i d hd
      split at hk
      · rename_i m get
        cases hb : Nat.beq m (len * P.cellsOf e) with
        | false => rw [hb] at hk; exact .inl hk
        | true =>
          rw [hb, cond_true] at hk
          rcases force_par hk.r with hk2 | ⟨hk2, hf⟩
          · exact .inl hk2
          exact .inr ⟨_, hk2, fun K' hK => by unfold aindexAddr; rw [hu]; simp only [hd, hb, cond_true]; exact ⟨hk.l, hf _ _ hK⟩⟩
      · rcases force_par hk.r with hk2 | ⟨hk2, hf⟩
        · exact .inl hk2
        exact .inr ⟨_, hk2, fun K' hK => by unfold aindexAddr; rw [hu]; simp only [hd]; exact ⟨hk.l, hf _ _ hK⟩⟩
      · exact .inl hk
    · exact .inl hk
  · exact .inl hk

theorem apart_par {t : TypeId} {n : Nat} {get : Nat → AV} {o : Nat} (hk : apart P t n get o K stop) : Par (apart P t n get o) K stop := by
  unfold apart at hk
  split at hk
  · rename_i ht
    rcases force_par hk with hk | ⟨hk, hf⟩
    · exact .inl hk
    · cases hb : Nat.ble (o + P.cellsOf t) n with
      | false => rw [hb] at hk; exact .inl hk
      | true =>
        rw [hb] at hk
        exact .inr ⟨_, hk, fun K' hK => by unfold apart; rw [ht]; exact hf _ _ (by rw [hb]; exact hK)⟩
  · rename_i ht
    cases hb : Nat.blt o n with
    | false => rw [hb] at hk; exact .inl hk
    | true =>
      rw [hb] at hk
      exact .inr ⟨_, hk, fun K' hK => by unfold apart; rw [ht]; simp only [hb]; exact hK⟩
  · exact .inl hk

theorem afield_par {s : TypeId} {x : AV} {f : Nat} (hk : afield P s x f K stop) : Par (afield P s x f) K stop := by
  unfold afield at hk
  split at hk
  · rename_i o t n get hf
    rcases force_par hk with hk | ⟨hk, hfo⟩
    · exact .inl hk
    · rcases apart_par hk with hk | ⟨y, hk, hp⟩
      · exact .inl hk
      · exact .inr ⟨y, hk, fun K' hK => by unfold afield; rw [hf]; exact hfo _ _ (hp _ hK)⟩
  · exact .inl hk

theorem aextract_par {x : AV} {i : Nat} (hk : aextract x i K stop) : Par (aextract x i) K stop := by
  unfold aextract at hk
  split at hk
  · rename_i n get
    cases hb : Nat.blt i n with
    | false => rw [hb] at hk; exact .inl hk
    | true =>
      rw [hb] at hk
      exact .inr ⟨_, hk, fun K' hK => by unfold aextract; simp only [hb]; exact hK⟩
  · exact .inl hk

theorem aindex_par {t : TypeId} {x ix : AV} (hk : aindex P t x ix K stop) : Par (aindex P t x ix) K stop := by
  unfold aindex at hk
  split at hk
  · rename_i s k i hu
    exact .inr ⟨_, hk.r, fun K' hK => by unfold aindex; rw [hu]; exact ⟨hk.l, hK⟩⟩
  · rename_i len e n get k i hu
    split at hk
    · rename_i d hd
      cases hb : Nat.beq n (len * P.cellsOf e) with
      | false => rw [hb] at hk; exact .inl hk
      | true =>
        rw [hb, cond_true] at hk
        rcases apart_par hk.r with hk2 | ⟨y, hk2, hp⟩
        · exact .inl hk2
        · exact .inr ⟨y, hk2, fun K' hK => by unfold aindex; rw [hu]; simp only [hd, hb, cond_true]; exact ⟨hk.l, hp _ hK⟩⟩
    · exact .inl hk
  · exact .inl hk

theorem aconvert_par {s d : TypeId} {x : AV} (hk : aconvert P s d x K stop) : Par (aconvert P s d x) K stop := by
  unfold aconvert at hk
  split at hk
  · rename_i h1 h2; exact .inr ⟨_, hk, fun K' hK => by unfold aconvert; rw [h1, h2]; exact hK⟩
  · rename_i h1 h2; exact .inr ⟨_, hk, fun K' hK => by unfold aconvert; rw [h1, h2]; exact hK⟩
  · rename_i h1 h2; exact .inr ⟨_, hk, fun K' hK => by unfold aconvert; rw [h1, h2]; exact hK⟩
  · exact .inl hk

theorem aslice_par {t : TypeId} {x : AV} {lo hi : Option AV} (hk : aslice P t x lo hi K stop) : Par (aslice P t x lo hi) K stop := by
  unfold aslice at hk
  split at hk
  · rename_i s hu
    split at hk <;> first
      | exact .inl hk
      | exact .inr ⟨_, hk.r, fun K' hK => by unfold aslice; rw [hu]; exact ⟨hk.l, hK⟩⟩
      | exact .inr ⟨_, hk, fun K' hK => by unfold aslice; rw [hu]; exact hK⟩
  · rename_i e n sz get hu
    split at hk
    · rename_i d hd
      cases hb : Nat.beq (P.cellsOf e) sz with
      | false => rw [hb] at hk; exact .inl hk
      | true =>
        rw [hb, cond_true] at hk
        split at hk <;> first
          | exact .inl hk
          | exact .inr ⟨_, hk.r, fun K' hK => by unfold aslice; rw [hu]; simp only [hd, hb, cond_true]; exact ⟨hk.l, hK⟩⟩
    · exact .inl hk
  · exact .inl hk

theorem abuild_par {t : TypeId} {ps : List (Nat × AV)} (hk : abuild P t ps K stop) : Par (abuild P t ps) K stop := by
  unfold abuild at hk
  split at hk
  · rename_i fs l0 hu hz
    split at hk
    · rename_i l h1 h2
      rcases force_par hk with hk | ⟨hk, hf⟩
      · exact .inl hk
      · exact .inr ⟨_, hk, fun K' hK => by unfold abuild; rw [hu, hz]; simp only [h1, h2]; exact hf _ _ hK⟩
    · exact .inl hk
  · exact .inl hk
end

section
variable {C : Ctx} {env : Env} {h : Heap} {ι : Loc} {a : Act} {w : World}

theorem alen_par (R : Rel C env h ι a w) {t : TypeId} {x : AV} {v : Value} {K : AV → Prop} {stop : Prop} (hx : VR w (okB C h ι w) x (rf h ι) v) (hk : alen C.T h t x K stop) : Par (alen C.T h t x) K stop := by
  unfold alen at hk
  split at hk
  · rename_i s hu
    obtain ⟨rfl, hs⟩ : v = .string s ∧ s.size ≤ maxLen := hx
    exact .inr ⟨_, hk.h hs, fun K' hK => by unfold alen; rw [hu]; exact ⟨fun _ => hK⟩⟩
  · rename_i e n sz get hu
    obtain ⟨A, c, rfl, hnc, hc, _⟩ := hx
    exact .inr ⟨_, hk.h (by simp only [maxLen] at hc; omega), fun K' hK => by unfold alen; rw [hu]; exact ⟨fun _ => hK⟩⟩
  · rename_i e hu
    exact .inr ⟨_, hk, fun K' hK => by unfold alen; rw [hu]; exact hK⟩
  · rename_i e id hu
    split at hk
    · rename_i e' sz n get hh
      have ho := R.obj id
      rw [hh] at ho
      obtain ⟨xs, hown, _⟩ := ho
      have hn : n ≤ maxLen := by
        rcases hown.2 with ⟨_, hn0⟩ | ⟨g, cap, cur, hv, hB, hg, hnc, hcap, _⟩
        · subst hn0; simp [maxLen]
        · omega
      exact .inr ⟨_, hk.h hn, fun K' hK => by unfold alen; rw [hu]; simp only [hh]; exact ⟨fun _ => hK⟩⟩
    · rename_i e' sz n get0 o ei szi len get hole hh
      have ho := R.obj id
      rw [hh] at ho
      obtain ⟨_, ⟨xs, hown, _⟩, _⟩ := ho
      have hn : n ≤ maxLen := by
        rcases hown.2 with ⟨_, hn0⟩ | ⟨g, cap, cur, hv, hB, hg, hnc, hcap, _⟩
        · subst hn0; simp [maxLen]
        · omega
      exact .inr ⟨_, hk.h hn, fun K' hK => by unfold alen; rw [hu]; simp only [hh]; exact ⟨fun _ => hK⟩⟩
    · exact .inl hk
  · rename_i e id k0 hu
    split at hk
    · rename_i e' sz n get0 o ei szi len get hole hh
      have ho := R.obj id
      obtain ⟨hvv, h3⟩ := hx
      rw [hh] at ho h3
      obtain ⟨_, _, hrows, _⟩ := ho
      obtain ⟨_, ys, hy, _⟩ := hrows k0 h3.1 h3.2
      have hn : len k0 ≤ maxLen := by
        rcases hy.2 with ⟨_, hn0⟩ | ⟨g, cap, cur, hv, hB, hg, hnc, hcap, _⟩
        · rw [hn0]; simp [maxLen]
        · omega
      exact .inr ⟨_, hk.h hn, fun K' hK => by unfold alen; rw [hu]; simp only [hh]; exact ⟨fun _ => hK⟩⟩
    · exact .inl hk
  · rename_i kt vt id hu
    split at hk
    · rename_i m hh
      exact .inr ⟨_, hk, fun K' hK => by unfold alen; rw [hu]; simp only [hh]; exact hK⟩
    · exact .inl hk
  · exact .inl hk

theorem alookup_par {t : TypeId} {x k : AV} {c : Bool} {K : AV → Prop} {stop : Prop} {T : TT} (hk : alookup T h t x k c K stop) : Par (alookup T h t x k c) K stop := by
  unfold alookup at hk
  split at hk
  · rename_i id
    split at hk
    all_goals first
      | exact .inl hk
      | (rename_i l kt vt n hh ht
         split at hk
         · rename_i hkt hz
           cases h1 : T.one vt with
           | false => rw [h1] at hk; exact .inl hk
           | true =>
             rw [h1, cond_true] at hk
             cases c with
             | true => exact .inr ⟨_, hk, fun K' hK => by unfold alookup; simp only [hh, ht, hkt, hz, h1, cond_true]; exact hK⟩
             | false => exact .inr ⟨_, hk, fun K' hK => by unfold alookup; simp only [hh, ht, hkt, hz, h1, cond_true, cond_false]; exact hK⟩
         · exact .inl hk)
  · exact .inl hk

/-- One operation that only looks. -/
def qop (C : Ctx) (o : Oper) (ρ : Operand → AV) (h : Heap) (K : AV → Prop) (stop : Prop) : Prop :=
  match o.op with
  | .move x => K (ρ x)
  | .assign x => K (ρ x)
  | .pick c x y => match ρ c with
    | .tt => K (ρ x)
    | .ff => K (ρ y)
    | .bool b => AskB b (K (ρ x)) (K (ρ y))
    | _ => stop
  | .build t ps => abuild C.T t (ps.toList.map fun p => (p.1, ρ p.2)) K stop
  | .load t x => aload C.T h t (ρ x) K stop
  | .nilCheck x => match ρ x with
    | .iadr m g => K (.iadr m g)
    | .radr a b c d => K (.radr a b c d)
    | .box a b => K (.box a b)
    | _ => stop
  | .binOp op t x y _ => match aeqT C.T t op (ρ x) (ρ y) with
    | some z => K z
    | none => match avB (ρ x) with
      | some _ => cond (boolTy C.T t) (abin op (ρ x) (ρ y) K stop) stop
      | none => abin op (ρ x) (ρ y) K stop
  | .unOp op _ x => aun op (ρ x) K stop
  | .convert s d x => aconvert C.T s d (ρ x) K stop
  | .slice t x lo hi none => aslice C.T t (ρ x) (lo.map ρ) (hi.map ρ) K stop
  | .fieldAddr s x f => afieldAddr C.T s (ρ x) f K stop
  | .field s x f => afield C.T s (ρ x) f K stop
  | .indexAddr t x i => aindexAddr C.T h t (ρ x) (ρ i) K stop
  | .index t x i => aindex C.T t (ρ x) (ρ i) K stop
  | .extract x i => aextract (ρ x) i K stop
  | .lookup t x k c => alookup C.T h t (ρ x) (ρ k) c K stop
  | .call c => match c.callee, c.args.toList, c.argTypes.toList with
    | .builtin .len, [x], [t] => alen C.T h t (ρ x) K stop
    | .builtin .unsafeSliceData, [x], [t] => asliceData C.T h o.type (ρ x) K stop
    | _, _, _ => stop
  | _ => stop

def Quiet (C : Ctx) (h : Heap) (o : Oper) (ρ : Operand → AV) (x : AV) : Prop :=
  ∀ env ι a w, Rel C env h ι a w → (∀ y ∈ o.op.operands, VR w (okB C h ι w) (ρ y) (rf h ι) (a.eval y)) →
    ∀ (b : Frame) (k : List Item) cs (ops : Array Oper) i rest, ops[i]? = some o → Region.wanted o (yielded ops a.tmps) = true →
      ∃ v w' ι', Steps C.P (lone (b.at a (.inRegion ops (i :: rest) :: k)) cs w) (lone (b.at (a.put o.dst v) (.inRegion ops rest :: k)) cs w') ∧ Rel C env h ι' a w' ∧ VR w' (okB C h ι' w') x (rf h ι') v

def Is (env : Env) (h : Heap) (x : AV) (env' : Env) (h' : Heap) (x' : AV) : Prop := env' = env ∧ h' = h ∧ x' = x

theorem Quiet.of {o : Oper} {ρ : Operand → AV} {x : AV}
    (hq : ∀ env ι a w, Rel C env h ι a w → (∀ y ∈ o.op.operands, VR w (okB C h ι w) (ρ y) (rf h ι) (a.eval y)) → False ∨ OpOut C a w o (Is env h x)) : Quiet C h o ρ x := by
  intro env ι a w R hρ b k cs ops i rest ho hw
  rcases hq env ι a w R hρ with hf | ⟨nx, v, w', ι', env', h', x', hr, hv, R', hx, e1, e2, e3⟩
  · exact hf.elim
  · subst e1; subst e2; subst e3
    exact ⟨v, w', ι', .one (step_op_ok ho hw hr hv), R', hx⟩

theorem Quiet.of_out {o : Oper} {ρ : Operand → AV} {x : AV} {s : (Operand → Value) → Sem Value} (he : ∀ a : Act, execOp a.eval o = (do pure (.value (← s a.eval)) : Sem Next))
    (hq : ∀ env ι a w, Rel C env h ι a w → (∀ y ∈ o.op.operands, VR w (okB C h ι w) (ρ y) (rf h ι) (a.eval y)) → False ∨ Out C a w (s a.eval) (Is env h x)) : Quiet C h o ρ x :=
  Quiet.of fun env ι a w R hρ => (hq env ι a w R hρ).imp id (OpOut.of (he a))

/-- Which objects a value leads to. -/
def idOf : AV → List Nat
  | .row id => [id]
  | .radr id _ _ _ => [id]
  | .box id _ => [id]
  | .obj id => [id]
  | .mrow id _ => [id]
  | .madr id _ _ _ _ => [id]
  | _ => []
theorem placeAt_congr {h h' : Heap} {x : AV} (hag : ∀ id ∈ idOf x, h' id = h id) : placeAt h' x = placeAt h x := by
  cases x <;> simp only [placeAt] <;> (first | rfl | (rw [hag _ (by simp [idOf])]))
theorem aload_congr {T : TT} {h h' : Heap} {t : TypeId} {x : AV} {K : AV → Prop} {stop : Prop} (hag : ∀ id ∈ idOf x, h' id = h id) : aload T h' t x K stop = aload T h t x K stop := by
  unfold aload; rw [placeAt_congr hag]
theorem aindexAddr_congr {T : TT} {h h' : Heap} {t : TypeId} {x ix : AV} {K : AV → Prop} {stop : Prop} (hag : ∀ id ∈ idOf x, h' id = h id) : aindexAddr T h' t x ix K stop = aindexAddr T h t x ix K stop := by
  unfold aindexAddr
  split
  · split
    · cases x <;> first | rfl | (simp only []; rw [hag _ (by simp [idOf])])
    · rfl
  · rfl
  · rfl
theorem alookup_congr {T : TT} {h h' : Heap} {t : TypeId} {x k : AV} {c : Bool} {K : AV → Prop} {stop : Prop} (hag : ∀ id ∈ idOf x, h' id = h id) : alookup T h' t x k c K stop = alookup T h t x k c K stop := by
  unfold alookup
  cases x <;> first | rfl | (simp only []; rw [hag _ (by simp [idOf])])
theorem alen_congr {T : TT} {h h' : Heap} {t : TypeId} {x : AV} {K : AV → Prop} {stop : Prop} (hag : ∀ id ∈ idOf x, h' id = h id) : alen T h' t x K stop = alen T h t x K stop := by
  unfold alen
  cases T.underlying t with
  | none => rfl
  | some d => cases d <;> cases x <;> first | rfl | (simp only []; rw [hag _ (by simp [idOf])])

theorem asliceData_congr {T : TT} {h h' : Heap} {t : TypeId} {x : AV} {K : AV → Prop} {stop : Prop} (hag : ∀ id ∈ idOf x, h' id = h id) : asliceData T h' t x K stop = asliceData T h t x K stop := by
  unfold asliceData
  cases T.underlying t with
  | none => rfl
  | some d => cases d <;> cases x <;> first | rfl | (simp only []; rw [hag _ (by simp [idOf])])
theorem asliceData_par {T : TT} {h : Heap} {t : TypeId} {x : AV} {K : AV → Prop} {stop : Prop} (hk : asliceData T h t x K stop) : Par (asliceData T h t x) K stop := by
  unfold asliceData at hk
  split at hk
  · rename_i hu
    exact .inr ⟨_, hk, fun K' hK => by unfold asliceData; rw [hu]; exact hK⟩
  · rename_i q hu
    split at hk
    · rename_i e sz n get hh
      by_cases hn : n = 0
      · exact .inr ⟨_, hk.t (decide_eq_true hn), fun K' hK => by unfold asliceData; rw [hu]; simp only [hh]; exact ⟨fun _ => hK, fun hf => absurd hn (of_decide_eq_false hf)⟩⟩
      · exact .inr ⟨_, hk.f (decide_eq_false hn), fun K' hK => by unfold asliceData; rw [hu]; simp only [hh]; exact ⟨fun hf => absurd (of_decide_eq_true hf) hn, fun _ => hK⟩⟩
    · exact .inl hk
  · exact .inl hk
theorem qop_quietR (R : Rel C env h ι a w) {o : Oper} {ρ : Operand → AV} (hρ : ∀ y ∈ o.op.operands, VR w (okB C h ι w) (ρ y) (rf h ι) (a.eval y)) {K : AV → Prop} {stop : Prop} (hk : qop C o ρ h K stop) :
    stop ∨ ∃ x, K x ∧ ∀ h', (∀ y ∈ o.op.operands, ∀ id ∈ idOf (ρ y), h' id = h id) → Quiet C h' o ρ x := by
  unfold qop at hk
  split at hk
  · rename_i x ho
    exact .inr ⟨_, hk, fun h' hag => Quiet.of fun env ι a w R hρ => .inr (OpOut.same R ⟨rfl, rfl, rfl⟩ (by simp [execOp, ho]) (hρ x (by rw [ho]; simp [Op.operands])))⟩
  · rename_i x ho
    exact .inr ⟨_, hk, fun h' hag => Quiet.of fun env ι a w R hρ => .inr (OpOut.same R ⟨rfl, rfl, rfl⟩ (by simp [execOp, ho]) (hρ x (by rw [ho]; simp [Op.operands])))⟩
  · rename_i c x y ho
    have m1 : c ∈ o.op.operands := by rw [ho]; simp [Op.operands]
    have m2 : x ∈ o.op.operands := by rw [ho]; simp [Op.operands]
    have m3 : y ∈ o.op.operands := by rw [ho]; simp [Op.operands]
    have yes : ρ c = .tt ∨ ρ c = .bool true → ∀ h', (∀ y ∈ o.op.operands, ∀ id ∈ idOf (ρ y), h' id = h id) → Quiet C h' o ρ (ρ x) := fun e h' hag => Quiet.of fun env ι a w R hρ => .inr (by
      have e2 : a.eval c = .bool true := by have := hρ c m1; rcases e with e | e <;> (rw [e] at this; exact this)
      exact OpOut.same R ⟨rfl, rfl, rfl⟩ (by simp [execOp, ho, e2, asBool]) (hρ x m2))
    have no : ρ c = .ff ∨ ρ c = .bool false → ∀ h', (∀ y ∈ o.op.operands, ∀ id ∈ idOf (ρ y), h' id = h id) → Quiet C h' o ρ (ρ y) := fun e h' hag => Quiet.of fun env ι a w R hρ => .inr (by
      have e2 : a.eval c = .bool false := by have := hρ c m1; rcases e with e | e <;> (rw [e] at this; exact this)
      exact OpOut.same R ⟨rfl, rfl, rfl⟩ (by simp [execOp, ho, e2, asBool]) (hρ y m3))
    split at hk
    · rename_i e; exact .inr ⟨_, hk, yes (.inl e)⟩
    · rename_i e; exact .inr ⟨_, hk, no (.inl e)⟩
    · rename_i b e
      cases b with
      | true => exact .inr ⟨_, hk.t rfl, yes (.inr e)⟩
      | false => exact .inr ⟨_, hk.f rfl, no (.inr e)⟩
    · exact .inl hk
  · rename_i t ps ho
    rcases abuild_par hk with hk | ⟨y, hk, hp⟩
    · exact .inl hk
    · refine .inr ⟨y, hk, fun h' hag => Quiet.of_out (s := fun ev => Instr.build t (ps.map fun (i, x) => (i, ev x))) (fun a => by simp [execOp, ho]) fun env ι a w R hρ => abuild_ok R (by simp) (fun k p q hp hq => ?_) (hp (Is env h' y env h') ⟨rfl, rfl, rfl⟩)⟩
      simp only [List.getElem?_map, Array.getElem?_toList] at hp
      rw [Array.getElem?_map] at hq
      cases hkk : ps[k]? with
      | none => rw [hkk] at hp; cases hp
      | some r =>
        rw [hkk] at hp hq
        cases hp; cases hq
        refine ⟨rfl, hρ _ ?_⟩
        rw [ho]
        simp only [Op.operands, List.mem_toArray, List.mem_map]
        exact ⟨r, Array.mem_toList_iff.mpr (Array.mem_of_getElem? hkk), rfl⟩
  · rename_i t x ho
    rcases aload_par hk with hk | ⟨y, hk, hp⟩
    · exact .inl hk
    · exact .inr ⟨y, hk, fun h' hag => Quiet.of_out (s := fun ev => Instr.loadAt t (ev x)) (fun a => by simp [execOp, ho]) fun env ι a w R hρ => aload_ok R (hρ x (by rw [ho]; simp [Op.operands])) (by rw [aload_congr (fun id hid => hag x (by rw [ho]; simp [Op.operands]) id hid)]; exact hp (Is env h' y env h') ⟨rfl, rfl, rfl⟩)⟩
  · rename_i x ho
    have m1 : x ∈ o.op.operands := by rw [ho]; simp [Op.operands]
    split at hk
    · rename_i m g e
      refine .inr ⟨_, hk, fun h' hag => Quiet.of fun env ι a w R hρ => .inr ?_⟩
      have hx := hρ x m1
      rw [e] at hx
      obtain ⟨ad, e2, hx2⟩ := hx
      exact OpOut.same R ⟨rfl, rfl, rfl⟩ (by simp [execOp, ho, e2]) ⟨ad, rfl, hx2⟩
    · rename_i b1 b2 b3 b4 e
      refine .inr ⟨_, hk, fun h' hag => Quiet.of fun env ι a w R hρ => .inr ?_⟩
      have hx := hρ x m1
      rw [e] at hx
      obtain ⟨g, n, c, h1, e2, hx2⟩ := hx
      exact OpOut.same R ⟨rfl, rfl, rfl⟩ (by simp [execOp, ho, e2]) ⟨g, n, c, h1, rfl, hx2⟩
    · rename_i b1 b2 e
      refine .inr ⟨_, hk, fun h' hag => Quiet.of fun env ι a w R hρ => .inr ?_⟩
      have hx := hρ x m1
      rw [e] at hx
      obtain ⟨g, h1, e2⟩ := hx
      exact OpOut.same R ⟨rfl, rfl, rfl⟩ (by simp [execOp, ho, e2]) ⟨g, h1, rfl⟩
    · exact .inl hk
  · rename_i op t x y ty ho
    have m1 : x ∈ o.op.operands := by rw [ho]; simp [Op.operands]
    have m2 : y ∈ o.op.operands := by rw [ho]; simp [Op.operands]
    have main : abin op (ρ x) (ρ y) K stop → (C.P.underlying t = some .bool ∨ avB (ρ x) = none) → stop ∨ ∃ x, K x ∧ ∀ h', (∀ y ∈ o.op.operands, ∀ id ∈ idOf (ρ y), h' id = h id) → Quiet C h' o ρ x := by
      intro hk hb
      rcases abin_par hk with hk | ⟨z, hk, hp⟩
      · exact .inl hk
      · refine .inr ⟨z, hk, fun h' hag => Quiet.of_out (s := fun ev => do eqGuard op t x y (ev x) (ev y); binOp op t (ev x) (ev y)) (fun a => by simp [execOp, ho]) fun env ι a w R hρ => ?_⟩
        rcases abin_ok (K := fun z' => z' = z) t hb (hp _ rfl) (hρ x m1) (hρ y m2) x y with hf | ⟨z', m, hr, hz, e⟩
        · exact .inl hf
        · subst e; exact .inr (Out.same R ⟨rfl, rfl, rfl⟩ hr hz)
    split at hk
    · rename_i z hz
      refine .inr ⟨z, hk, fun h' hag => Quiet.of_out (s := fun ev => do eqGuard op t x y (ev x) (ev y); binOp op t (ev x) (ev y)) (fun a => by simp [execOp, ho]) fun env ι a w R hρ => ?_⟩
      obtain ⟨m, hr, hv⟩ := aeqT_ok hz (hρ x m1) (hρ y m2) x y
      exact .inr (Out.same R ⟨rfl, rfl, rfl⟩ hr hv)
    split at hk
    · cases hb : boolTy C.T t with
      | false => rw [hb] at hk; exact .inl hk
      | true => rw [hb] at hk; exact main hk (.inl (boolTy_ok hb))
    · rename_i e; exact main hk (.inr e)
  · rename_i op t x ho
    rcases aun_par hk with hk | ⟨y, hk, hp⟩
    · exact .inl hk
    · refine .inr ⟨y, hk, fun h' hag => Quiet.of_out (s := fun ev => Op.unary op (ev x)) (fun a => by simp [execOp, ho]) fun env ι a w R hρ => ?_⟩
      rcases aun_ok R (K := fun z => z = y) (hρ x (by rw [ho]; simp [Op.operands])) (hp _ rfl) with hf | ⟨z, m, hr, hz, e⟩
      · exact .inl hf
      · subst e; exact .inr (Out.same R ⟨rfl, rfl, rfl⟩ hr hz)
  · rename_i s d x ho
    rcases aconvert_par hk with hk | ⟨y, hk, hp⟩
    · exact .inl hk
    · exact .inr ⟨y, hk, fun h' hag => Quiet.of_out (s := fun ev => convert s d (ev x)) (fun a => by simp [execOp, ho]) fun env ι a w R hρ => aconvert_ok R (hρ x (by rw [ho]; simp [Op.operands])) (hp (Is env h' y env h') ⟨rfl, rfl, rfl⟩)⟩
  · rename_i t x lo hi ho
    rcases aslice_par hk with hk | ⟨y, hk, hp⟩
    · exact .inl hk
    · refine .inr ⟨y, hk, fun h' hag => Quiet.of_out (s := fun ev => Instr.sliceAt t (ev x) (lo.map ev) (hi.map ev) none) (fun a => by simp [execOp, ho]) fun env ι a w R hρ =>
        aslice_ok R (hρ x (by rw [ho]; simp [Op.operands])) ⟨by simp, ?_⟩ ⟨by simp, ?_⟩ (hp (Is env h' y env h') ⟨rfl, rfl, rfl⟩)⟩
      · intro y u hy hu
        cases lo with
        | none => cases hy
        | some z => cases hy; cases hu; exact hρ z (by rw [ho]; simp [Op.operands])
      · intro y u hy hu
        cases hi with
        | none => cases hy
        | some z => cases hy; cases hu; exact hρ z (by rw [ho]; simp [Op.operands])
  · rename_i s x f ho
    rcases afieldAddr_par hk with hk | ⟨y, hk, hp⟩
    · exact .inl hk
    · exact .inr ⟨y, hk, fun h' hag => Quiet.of_out (s := fun ev => Instr.fieldAt s (ev x) f) (fun a => by simp [execOp, ho]) fun env ι a w R hρ => afieldAddr_ok R (hρ x (by rw [ho]; simp [Op.operands])) (hp (Is env h' y env h') ⟨rfl, rfl, rfl⟩)⟩
  · rename_i s x f ho
    rcases afield_par hk with hk | ⟨y, hk, hp⟩
    · exact .inl hk
    · exact .inr ⟨y, hk, fun h' hag => Quiet.of_out (s := fun ev => Instr.field s (ev x) f) (fun a => by simp [execOp, ho]) fun env ι a w R hρ => afield_ok R (hρ x (by rw [ho]; simp [Op.operands])) (hp (Is env h' y env h') ⟨rfl, rfl, rfl⟩)⟩
  · rename_i t x i ho
    rcases aindexAddr_par hk with hk | ⟨y, hk, hp⟩
    · exact .inl hk
    · exact .inr ⟨y, hk, fun h' hag => Quiet.of_out (s := fun ev => Instr.indexAt t (ev x) (ev i)) (fun a => by simp [execOp, ho]) fun env ι a w R hρ =>
        aindexAddr_ok R (hρ x (by rw [ho]; simp [Op.operands])) (hρ i (by rw [ho]; simp [Op.operands])) (by rw [aindexAddr_congr (fun id hid => hag x (by rw [ho]; simp [Op.operands]) id hid)]; exact hp (Is env h' y env h') ⟨rfl, rfl, rfl⟩)⟩
  · rename_i t x i ho
    rcases aindex_par hk with hk | ⟨y, hk, hp⟩
    · exact .inl hk
    · exact .inr ⟨y, hk, fun h' hag => Quiet.of_out (s := fun ev => Instr.index t (ev x) (ev i)) (fun a => by simp [execOp, ho]) fun env ι a w R hρ =>
        aindex_ok R (hρ x (by rw [ho]; simp [Op.operands])) (hρ i (by rw [ho]; simp [Op.operands])) (hp (Is env h' y env h') ⟨rfl, rfl, rfl⟩)⟩
  · rename_i x i ho
    rcases aextract_par hk with hk | ⟨y, hk, hp⟩
    · exact .inl hk
    · exact .inr ⟨y, hk, fun h' hag => Quiet.of_out (s := fun ev => Instr.extract (ev x) i) (fun a => by simp [execOp, ho]) fun env ι a w R hρ => aextract_ok R (hρ x (by rw [ho]; simp [Op.operands])) (hp (Is env h' y env h') ⟨rfl, rfl, rfl⟩)⟩
  · rename_i t x k c ho
    rcases alookup_par hk with hk | ⟨y, hk, hp⟩
    · exact .inl hk
    · refine .inr ⟨y, hk, fun h' hag => Quiet.of_out (s := fun ev => Instr.lookup t (ev x) (ev k) c) (fun a => by simp [execOp, ho]) fun env ι a w R hρ => ?_⟩
      rcases alookup_ok R (K := fun z => z = y) (hρ x (by rw [ho]; simp [Op.operands])) (hρ k (by rw [ho]; simp [Op.operands])) (by rw [alookup_congr (fun id hid => hag x (by rw [ho]; simp [Op.operands]) id hid)]; exact hp _ rfl) with hf | ⟨z, m, hr, hz, e⟩
      · exact .inl hf
      · subst e; exact .inr (Out.same R ⟨rfl, rfl, rfl⟩ hr hz)
  · rename_i c ho
    split at hk
    · rename_i x t e1 e2 e3
      have e2' := toList_two e2
      have e3' := toList_two e3
      have m1 : x ∈ o.op.operands := by rw [ho]; simp [Op.operands, Call.operands, e1, e2']
      rcases alen_par R (hρ x m1) hk with hk | ⟨y, hk, hp⟩
      · exact .inl hk
      · exact .inr ⟨y, hk, fun h' hag => Quiet.of_out (s := fun ev => Builtin.len_ #[t] o.type #[ev x]) (fun a => by simp [execOp, ho, resolve, e1, e2', e3', invoke, builtin]) fun env ι a w R hρ => alen_ok R o.type (hρ x m1) (by rw [alen_congr (fun id hid => hag x m1 id hid)]; exact hp (Is env h' y env h') ⟨rfl, rfl, rfl⟩)⟩
    · rename_i x t e1 e2 e3
      have e2' := toList_two e2
      have e3' := toList_two e3
      have m1 : x ∈ o.op.operands := by rw [ho]; simp [Op.operands, Call.operands, e1, e2']
      rcases asliceData_par hk with hk | ⟨y, hk, hp⟩
      · exact .inl hk
      · exact .inr ⟨y, hk, fun h' hag => Quiet.of_out (s := fun ev => Builtin.unsafeSliceData_ #[t] o.type #[ev x]) (fun a => by simp [execOp, ho, resolve, e1, e2', e3', invoke, builtin]) fun env ι a w R hρ => asliceData_ok R (hρ x m1) (by rw [asliceData_congr (fun id hid => hag x m1 id hid)]; exact hp (Is env h' y env h') ⟨rfl, rfl, rfl⟩)⟩
    · exact .inl hk
  · exact .inl hk
theorem qop_quiet (R : Rel C env h ι a w) {o : Oper} {ρ : Operand → AV} (hρ : ∀ y ∈ o.op.operands, VR w (okB C h ι w) (ρ y) (rf h ι) (a.eval y)) {K : AV → Prop} {stop : Prop} (hk : qop C o ρ h K stop) :
    stop ∨ ∃ x, K x ∧ Quiet C h o ρ x := (qop_quietR R hρ hk).imp id fun ⟨x, hx, hq⟩ => ⟨x, hx, hq h fun _ _ _ _ => rfl⟩
end

end Go.Proofs.YteklnpgiloebcaaDoor.V

namespace Go.Proofs.YteklnpgiloebcaaDoor.V
set_option linter.unusedVariables false
set_option linter.unusedSimpArgs false
open Go Go.RowKit

def tmpOf : Operand → Option Nat
  | .tmp t => some t
  | _ => none
def looks (ops : Array Oper) (o : Oper) : List Nat :=
  o.op.operands.toList.filterMap tmpOf ++ (match o.guard with | some (j, _) => (dstOf ops j).toList | none => [])

/-- Does this statement wait for all that stand ahead of it? -/
def tailOp (i : Nat) (o : Oper) : Bool := cond (Nat.beq i 0) false (cond (Nat.ble i o.after.toList.length) ((List.range i).all fun j => o.after.toList.any fun e => Region.binds .any e && Nat.beq e.on j) false)
def allTail : List Oper → Nat → Bool
  | [], _ => true
  | o :: rest, i => cond (tailOp i o) (allTail rest (i + 1)) false
def pfxOf : List Oper → Nat → Nat
  | [], i => i
  | o :: rest, i => cond (allTail (o :: rest) i) i (pfxOf rest (i + 1))

def drawStat (ops : Array Oper) : Bool := (fun p => Nat.ble p ops.size && (List.range ops.size).all fun i => match ops.toList[i]? with
  | none => false
  | some o => (o.after.toList.all fun e => !Region.binds .any e || Nat.blt e.on i) &&
    cond (Nat.blt i p) (((looks ops o).all fun s => (List.range p).all fun j => match dstOf ops j with
      | some d => !(Nat.beq d s) || (o.after.toList.any fun e => Region.binds .any e && Nat.beq e.on j)
      | none => true) &&
    ((List.range p).all fun j => Nat.beq j i || match dstOf ops j, o.dst with
      | some d, some d' => !(Nat.beq d d')
      | _, _ => true)) (tailOp i o)) (pfxOf ops.toList 0)

/-! ### schedules -/
/-- A list of what is left to do that keeps the order that is asked for. -/
def Sched (ops : Array Oper) : Array Bool → List Nat → Prop
  | listed, [] => ∀ j, j < ops.size → listed.getD j true = true
  | listed, i :: rest => i < ops.size ∧ listed.getD i true = false ∧ (∀ o, ops[i]? = some o → ∀ e ∈ o.after, Region.binds .any e = true → listed.getD e.on false = true) ∧ Sched ops (listed.setIfInBounds i true) rest

theorem go_sched {ops : Array Oper} (hlt : ∀ (i : Nat) o, ops[i]? = some o → ∀ e ∈ o.after, Region.binds .any e = true → e.on < i) :
    ∀ (fuel t : Nat) (listed : Array Bool) (acc : List Nat), listed.size = ops.size → listed.toList.countP (· == false) = fuel →
      ∃ rest, Region.linearise.go .any ops fuel t listed acc = acc.reverse ++ rest ∧ Sched ops listed rest := by
  intro fuel
  induction fuel with
  | zero =>
    intro t listed acc hs hc
    refine ⟨[], by simp [Region.linearise.go], fun j hj => ?_⟩
    have hj' : j < listed.size := by omega
    have hmem : listed[j] ∈ listed.toList := by simp
    have := List.countP_eq_zero.mp hc _ hmem
    rw [Array.getD_eq_getD_getElem?, Array.getElem?_eq_getElem hj']
    simpa using this
  | succ fuel ih =>
    intro t listed acc hs hc
    have hready : ∃ i, i ∈ (List.range ops.size).filter (fun i => !listed.getD i true && ((ops[i]?).map (·.after.all fun e => !Region.binds .any e || listed.getD e.on false)).getD false) := by
      have hex : ∃ j, j < ops.size ∧ listed.getD j true = false := by
        have hpos : 0 < listed.toList.countP (· == false) := by omega
        obtain ⟨b, hb, hbf⟩ := List.countP_pos_iff.mp hpos
        obtain ⟨j, hj, rfl⟩ := List.getElem_of_mem hb
        have hj' : j < listed.size := by simpa using hj
        refine ⟨j, by omega, ?_⟩
        rw [Array.getD_eq_getD_getElem?, Array.getElem?_eq_getElem hj']
        simpa using hbf
      have hmin : ∃ j, (j < ops.size ∧ listed.getD j true = false) ∧ ∀ m, m < j → ¬ (m < ops.size ∧ listed.getD m true = false) := by
        obtain ⟨j, hj⟩ := hex
        induction j using Nat.strongRecOn with
        | _ j ihj =>
          by_cases hm : ∃ m, m < j ∧ (m < ops.size ∧ listed.getD m true = false)
          · obtain ⟨m, h1, h2⟩ := hm
            exact ihj m h1 h2
          · exact ⟨j, hj, fun m h1 h2 => hm ⟨m, h1, h2⟩⟩
      obtain ⟨j, ⟨h1, h2⟩, h3⟩ := hmin
      refine ⟨j, ?_⟩
      rw [List.mem_filter]
      refine ⟨List.mem_range.mpr h1, ?_⟩
      rw [h2, Array.getElem?_eq_getElem h1]
      simp only [Bool.not_false, Option.map_some, Option.getD_some, Bool.true_and, Array.all_eq_true', Bool.or_eq_true, Bool.not_eq_true']
      intro e he
      cases hb : Region.binds .any e with
      | false => exact .inl rfl
      | true =>
        have hlt' := hlt j _ (Array.getElem?_eq_getElem h1) e he hb
        have := h3 e.on hlt'
        refine .inr ?_
        have hsz : e.on < listed.size := by omega
        rw [Array.getD_eq_getD_getElem?, Array.getElem?_eq_getElem hsz]
        cases hq : listed[e.on] with
        | true => rfl
        | false => exact absurd ⟨by omega, by rw [Array.getD_eq_getD_getElem?, Array.getElem?_eq_getElem hsz]; simpa using hq⟩ this
    generalize hrs : (List.range ops.size).filter (fun i => !listed.getD i true && ((ops[i]?).map (·.after.all fun e => !Region.binds .any e || listed.getD e.on false)).getD false) = rs at hready
    have hlen : 0 < rs.length := by
      obtain ⟨i, hi⟩ := hready
      exact List.length_pos_of_mem hi
    have hlt2 := Nat.mod_lt t hlen
    have hgo : Region.linearise.go .any ops (fuel + 1) t listed acc = Region.linearise.go .any ops fuel (t / rs.length) (listed.setIfInBounds rs[t % rs.length] true) (rs[t % rs.length] :: acc) := by
      simp only [Region.linearise.go]
      rw [hrs, List.getElem?_eq_getElem hlt2]
    have hin : rs[t % rs.length] ∈ rs := List.getElem_mem hlt2
    generalize rs[t % rs.length] = i at hgo hin
    rw [← hrs, List.mem_filter] at hin
    obtain ⟨hi1, hi2⟩ := hin
    have hi1 := List.mem_range.mp hi1
    rw [Bool.and_eq_true] at hi2
    have hif : listed.getD i true = false := by simpa using hi2.1
    have hil : i < listed.size := by omega
    have hif' : listed[i] = false := by
      rw [Array.getD_eq_getD_getElem?, Array.getElem?_eq_getElem hil] at hif
      simpa using hif
    obtain ⟨rest, hr1, hr2⟩ := ih (t / rs.length) (listed.setIfInBounds i true) (i :: acc) (by simpa using hs) (by
      rw [Array.toList_setIfInBounds]
      have hl : i < listed.toList.length := by simpa using hil
      have h7 := List.countP_set (p := (· == false)) (l := listed.toList) (i := i) (a := true) hl
      have e1 : listed.toList[i] = false := by simpa using hif'
      have e2 : ((true == false) = true) = False := by simp
      have e3 : ((listed.toList[i] == false) = true) = True := by rw [e1]; simp
      simp only [e2, e3, if_true, if_false] at h7
      rw [h7, hc]; rfl)
    refine ⟨i :: rest, by rw [hgo, hr1]; simp, hi1, hif, fun o ho e he hb => ?_, hr2⟩
    have h3 := hi2.2
    rw [ho] at h3
    simp only [Option.map_some, Option.getD_some, Array.all_eq_true', Bool.or_eq_true, Bool.not_eq_true'] at h3
    rcases h3 e he with h4 | h4
    · rw [hb] at h4; cases h4
    · exact h4

theorem sched_of {P : Program} {ops : Array Oper} (hm : P.follows .mixedOrders = true) (hlt : ∀ (i : Nat) o, ops[i]? = some o → ∀ e ∈ o.after, Region.binds .any e = true → e.on < i) (t : Nat) :
    Sched ops (Array.replicate ops.size false) (Region.schedule (P.follows .mixedOrders) ops t) := by
  obtain ⟨rest, h1, h2⟩ := go_sched hlt ops.size t (Array.replicate ops.size false) [] (by simp) (by
    rw [Array.toList_replicate]
    exact (List.countP_eq_length.mpr (fun b hb => by rw [List.eq_of_mem_replicate hb]; rfl)).trans (by simp))
  rw [hm]
  simp only [Region.schedule, Bool.true_or, if_true, Region.linearise]
  rw [h1]; simpa using h2

/-! ### in the text's order -/
structure CallQ (C : Ctx) (h : Heap) (o : Oper) (env : Env) (K : AV → Prop) : Prop where
  out : ∃ x, K x ∧ Quiet C h o (ev env) x

def withDst (o : Oper) (F : Option Nat → Prop) : Prop := match o.dst with | none => F none | some d => F (some d)
theorem withDst_eq (o : Oper) (F : Option Nat → Prop) : withDst o F = F o.dst := by unfold withDst; cases o.dst <;> rfl

def aqStep (C : Ctx) (h : Heap) (o : Oper) (dst : Option Nat) (env : Env) (K : Env → Prop) : Prop :=
  match calls? o with
  | some _ => CallQ C h o env (fun x => K (putE env dst x))
  | none => qop C o (ev env) h (fun x => fv x fun x => K (putE env dst x)) False

def aq (C : Ctx) (h : Heap) (ops : Array Oper) : List Oper → Env → (Env → Prop) → Prop
  | [], env, K => K env
  | o :: rest, env, K => withDst o fun dst => cond (okD C dst) (match o.guard with
      | none => aqStep C h o dst env (fun env' => aq C h ops rest env' K)
      | some (j, want) => match dstOf ops j with
        | some d => match env d with
          | .tt => cond want (aqStep C h o dst env (fun env' => aq C h ops rest env' K)) (aq C h ops rest (putE env dst .sk) K)
          | .ff => cond want (aq C h ops rest (putE env dst .sk) K) (aqStep C h o dst env (fun env' => aq C h ops rest env' K))
          | .bool b => AskB b (cond want (aqStep C h o dst (upd env d .tt) (fun env' => aq C h ops rest env' K)) (aq C h ops rest (putE (upd env d .tt) dst .sk) K))
              (cond want (aq C h ops rest (putE (upd env d .ff) dst .sk) K) (aqStep C h o dst (upd env d .ff) (fun env' => aq C h ops rest env' K)))
          | .sk => aq C h ops rest (putE env dst .sk) K
          | _ => False
        | none => False) False

def Eqv (x y : AV) : Prop := Le x y ∧ Le y x
theorem Eqv.refl (x : AV) : Eqv x x := ⟨Le.refl _, Le.refl _⟩
theorem Eqv.trans {x y z : AV} (h : Eqv x y) (k : Eqv y z) : Eqv x z := ⟨h.1.trans k.1, k.2.trans h.2⟩

def GuardSem (ops : Array Oper) (E : Env) (o : Oper) (want' : Bool) : Prop :=
  match o.guard with
  | none => want' = true
  | some (j, want) => ∃ d, dstOf ops j = some d ∧ ((∃ b, (∀ w ok r v, VR w ok (E d) r v → v = .bool b) ∧ want' = (b == want)) ∨ ((∀ w ok r v, VR w ok (E d) r v → v = undef) ∧ want' = false))

def OpSem (C : Ctx) (h : Heap) (ops : Array Oper) (E : Env) (j : Nat) : Prop :=
  ∃ o, ops[j]? = some o ∧ okD C o.dst = true ∧
    ((GuardSem ops E o true ∧ ∃ x, Quiet C h o (ev E) x ∧ ∀ d, o.dst = some d → Le x (E d)) ∨ (GuardSem ops E o false ∧ ∀ d, o.dst = some d → Le .sk (E d)))

theorem Quiet.congr {C : Ctx} {h : Heap} {o : Oper} {env env' : Env} {x : AV} (hq : Quiet C h o (ev env) x) (he : ∀ s, Operand.tmp s ∈ o.op.operands → Le (env' s) (env s)) : Quiet C h o (ev env') x := by
  intro e ι a w R hρ
  refine hq e ι a w R fun y hy => ?_
  have := hρ y hy
  cases y with
  | tmp s => exact he s hy _ _ _ _ this
  | const v => exact this
  | global g => exact this
  | func f => exact this

theorem looks_tmp {ops : Array Oper} {o : Oper} {s : Nat} (hs : Operand.tmp s ∈ o.op.operands) : s ∈ looks ops o := by
  unfold looks
  rw [List.mem_append]
  exact .inl (List.mem_filterMap.mpr ⟨.tmp s, by simpa using hs, rfl⟩)
theorem looks_guard {ops : Array Oper} {o : Oper} {j d : Nat} {want : Bool} (hg : o.guard = some (j, want)) (hd : dstOf ops j = some d) : d ∈ looks ops o := by
  unfold looks
  rw [List.mem_append, hg]
  exact .inr (by simp [hd])

structure Stat (ops : Array Oper) (p : Nat) : Prop where
  le : p ≤ ops.size
  edge : ∀ (i : Nat) o, ops[i]? = some o → ∀ e ∈ o.after, Region.binds .any e = true → e.on < i
  look : ∀ (i : Nat) o, i < p → ops[i]? = some o → ∀ s ∈ looks ops o, ∀ j, j < p → dstOf ops j = some s → ∃ e ∈ o.after, Region.binds .any e = true ∧ e.on = j
  one : ∀ i j d, i < p → j < p → dstOf ops i = some d → dstOf ops j = some d → i = j
  tail : ∀ (i : Nat) o, p ≤ i → ops[i]? = some o → ∀ j, j < i → ∃ e ∈ o.after, Region.binds .any e = true ∧ e.on = j

/-- What the free ones need. -/
structure Stat0 (ops : Array Oper) (p : Nat) : Prop where
  le : p ≤ ops.size
  edge : ∀ (i : Nat) o, ops[i]? = some o → ∀ e ∈ o.after, Region.binds .any e = true → e.on < i
  look : ∀ (i : Nat) o, i < p → ops[i]? = some o → ∀ s ∈ looks ops o, ∀ j, j < p → dstOf ops j = some s → ∃ e ∈ o.after, Region.binds .any e = true ∧ e.on = j
  one : ∀ i j d, i < p → j < p → dstOf ops i = some d → dstOf ops j = some d → i = j
theorem Stat.to0 {ops : Array Oper} {p : Nat} (S : Stat ops p) : Stat0 ops p := ⟨S.le, S.edge, S.look, S.one⟩

theorem dstOf_lt {ops : Array Oper} {j d : Nat} (h : dstOf ops j = some d) : j < ops.size := by
  unfold dstOf at h
  rcases Nat.lt_or_ge j ops.size with h' | h'
  · exact h'
  · rw [List.getElem?_eq_none (by simpa using h')] at h; cases h

theorem tailOp_ok {i : Nat} {o : Oper} (h : tailOp i o = true) : ∀ j, j < i → ∃ e ∈ o.after, Region.binds .any e = true ∧ e.on = j := by
  intro j hj
  unfold tailOp at h
  cases h0 : Nat.beq i 0 with
  | true => rw [h0] at h; cases h
  | false =>
    rw [h0, cond_false] at h
    cases h1 : Nat.ble i o.after.toList.length with
    | false => rw [h1] at h; cases h
    | true =>
      rw [h1, cond_true] at h
      obtain ⟨e, he, h3⟩ := List.any_eq_true.mp (List.all_eq_true.mp h j (List.mem_range.mpr hj))
      rw [Bool.and_eq_true] at h3
      exact ⟨e, by simpa using he, h3.1, Nat.eq_of_beq_eq_true h3.2⟩

theorem Stat.of {ops : Array Oper} (hs : drawStat ops = true) : Stat ops (pfxOf ops.toList 0) := by
  unfold drawStat at hs
  generalize pfxOf ops.toList 0 = p at hs
  rw [Bool.and_eq_true] at hs
  obtain ⟨hle, hs⟩ := hs
  have key : ∀ (i : Nat) o, ops[i]? = some o → (o.after.toList.all fun e => !Region.binds .any e || Nat.blt e.on i) = true ∧
    cond (Nat.blt i p) (((looks ops o).all fun s => (List.range p).all fun j => match dstOf ops j with
      | some d => !(Nat.beq d s) || (o.after.toList.any fun e => Region.binds .any e && Nat.beq e.on j)
      | none => true) &&
    ((List.range p).all fun j => Nat.beq j i || match dstOf ops j, o.dst with
      | some d, some d' => !(Nat.beq d d')
      | _, _ => true)) (tailOp i o) = true := by
    intro i o ho
    have hi : i < ops.size := (Array.getElem?_eq_some_iff.1 ho).1
    have := List.all_eq_true.mp hs i (List.mem_range.mpr hi)
    have ho' : ops.toList[i]? = some o := by simpa using ho
    rw [ho'] at this
    simpa only [Bool.and_eq_true] using this
  have hlt : ∀ i, i < p → Nat.blt i p = true := fun i hi => by rw [Nat.blt_eq]; exact hi
  refine ⟨Nat.ble_eq ▸ hle, ?_, ?_, ?_, ?_⟩
  · intro i o ho e he hb
    have := List.all_eq_true.mp (key i o ho).1 e (by simpa using he)
    rw [hb] at this
    simpa [Nat.blt_eq] using this
  · intro i o hip ho s hs' j hjp hj
    have h0 := (key i o ho).2
    rw [hlt i hip, cond_true, Bool.and_eq_true] at h0
    have h1 := List.all_eq_true.mp h0.1 s hs'
    have h2 := List.all_eq_true.mp h1 j (List.mem_range.mpr hjp)
    rw [hj] at h2
    simp only [Nat.beq_refl, Bool.not_true, Bool.false_or] at h2
    obtain ⟨e, he, h3⟩ := List.any_eq_true.mp h2
    rw [Bool.and_eq_true] at h3
    exact ⟨e, by simpa using he, h3.1, Nat.eq_of_beq_eq_true h3.2⟩
  · intro i j d hip hjp hi hj
    have hi' := hi
    unfold dstOf at hi'
    cases ho : ops.toList[i]? with
    | none => rw [ho] at hi'; cases hi'
    | some o =>
      rw [ho] at hi'
      have hd : o.dst = some d := hi'
      have h0 := (key i o (by simpa using ho)).2
      rw [hlt i hip, cond_true, Bool.and_eq_true] at h0
      have h1 := List.all_eq_true.mp h0.2 j (List.mem_range.mpr hjp)
      rw [hj, hd] at h1
      simp only [Nat.beq_refl, Bool.not_true, Bool.or_false] at h1
      exact (Nat.eq_of_beq_eq_true h1).symm
  · intro i o hip ho
    have h0 := (key i o ho).2
    have : Nat.blt i p = false := by rw [Bool.eq_false_iff]; intro e; rw [Nat.blt_eq] at e; omega
    rw [this, cond_false] at h0
    exact tailOp_ok h0

section
variable {C : Ctx} {h : Heap} {ops : Array Oper}

theorem aq_ok {p : Nat} (S : Stat0 ops p) : ∀ (idxs : List Oper) (lo : Nat), idxs = (ops.toList.take p).drop lo → ∀ (env : Env) (ι : Loc) (a : Act) (w : World) (K : Env → Prop), Rel C env h ι a w → aq C h ops idxs env K →
    ∃ E, K E ∧ (∀ s, (∀ j, lo ≤ j → j < p → dstOf ops j ≠ some s) → Eqv (env s) (E s)) ∧ ∀ j, lo ≤ j → j < p → OpSem C h ops E j := by
  intro idxs
  have h4 : ops.toList.length = ops.size := Array.length_toList
  have h5 : (ops.toList.take p).length = p := by rw [List.length_take, h4]; have := S.le; omega
  induction idxs with
  | nil =>
    intro lo hl env ι a w K R hq
    refine ⟨env, hq, fun s _ => Eqv.refl _, fun j h1 h2 => ?_⟩
    have h3 : ((ops.toList.take p).drop lo).length = 0 := by rw [← hl]; rfl
    rw [List.length_drop, h5] at h3; omega
  | cons o rest ih =>
    intro i hl env ι a w K R hq
    have hilt : i < (ops.toList.take p).length := by
      rcases Nat.lt_or_ge i (ops.toList.take p).length with h' | h'
      · exact h'
      · rw [List.drop_eq_nil_of_le h'] at hl; cases hl
    rw [List.drop_eq_getElem_cons hilt] at hl
    injection hl with e1 e2
    have hip : i < p := by omega
    have ho : ops.toList[i]? = some o := by
      have : (ops.toList.take p)[i]? = some o := by rw [List.getElem?_eq_getElem hilt, ← e1]
      rwa [List.getElem?_take_of_lt hip] at this
    have hrest : rest = (ops.toList.take p).drop (i + 1) := e2
    unfold aq at hq
    rw [withDst_eq] at hq
    · have ho' : ops[i]? = some o := by simpa using ho
      have hdsti : dstOf ops i = o.dst := by unfold dstOf; rw [ho]; rfl
      cases hd : okD C o.dst with
      | false => rw [hd] at hq; exact hq.elim
      | true =>
        rw [hd, cond_true] at hq
        -- a looked-at slot is written by nothing from here on
        have hfree : ∀ s ∈ looks ops o, ∀ j, i ≤ j → j < p → dstOf ops j ≠ some s := by
          intro s hs j hij hjp e
          obtain ⟨ed, h1, h2, h3⟩ := S.look i o hip ho' s hs j hjp e
          have := S.edge i o ho' ed h1 h2
          omega
        have step : ∀ (env1 : Env) (ι1 : Loc) (a1 : Act) (w1 : World), Rel C env1 h ι1 a1 w1 → (∀ s, Eqv (env s) (env1 s)) → (∀ E, (∀ s, s ∈ looks ops o → Eqv (env1 s) (E s)) → GuardSem ops E o true) →
            (Region.wanted o (yielded ops a1.tmps) = true) → aqStep C h o o.dst env1 (fun env' => aq C h ops rest env' K) →
            ∃ E, K E ∧ (∀ s, (∀ j, i ≤ j → j < p → dstOf ops j ≠ some s) → Eqv (env s) (E s)) ∧ ∀ j, i ≤ j → j < p → OpSem C h ops E j := by
          intro env1 ι1 a1 w1 R1 heq hguard hwant hstep
          have hx : ∃ x, aq C h ops rest (putE env1 o.dst x) K ∧ Quiet C h o (ev env1) x := by
            unfold aqStep at hstep
            split at hstep
            · exact hstep.out
            · rcases qop_quiet R1 (fun y _ => ev_ok R1 y) hstep with hf | hx
              · exact hf.elim
              · exact hx.imp fun x hp => ⟨(fv_eq _ _).mp hp.1, hp.2⟩
          obtain ⟨x, hk, hqx⟩ := hx
          obtain ⟨v, w2, ι2, _, R2, hv⟩ := hqx env1 ι1 a1 w1 R1 (fun y _ => ev_ok R1 y) default [] [] ops i [] ho' hwant
          obtain ⟨E, hE, hE1, hE2⟩ := ih (i + 1) hrest _ ι2 _ w2 K (R2.put hv hd) hk
          have hput : ∀ s, (∀ d, o.dst = some d → s ≠ d) → putE env1 o.dst x s = env1 s := by
            intro s hs
            cases hq : o.dst with
            | none => rfl
            | some d => exact upd_other _ _ (hs d hq)
          have hlook : ∀ s ∈ looks ops o, Eqv (env1 s) (E s) := by
            intro s hs
            have h1 := hE1 s (fun j hj hjp => hfree s hs j (by omega) hjp)
            rw [hput s (fun d hd' e => hfree s hs i (Nat.le_refl _) hip (by rw [hdsti, hd', e]))] at h1
            exact h1
          refine ⟨E, hE, fun s hs => ?_, fun j h1 h2 => ?_⟩
          · have h3 := hE1 s (fun j hj hjp => hs j (by omega) hjp)
            rw [hput s (fun d hd' e => hs i (Nat.le_refl _) hip (by rw [hdsti, hd', e]))] at h3
            exact (heq s).trans h3
          · by_cases hji : j = i
            · subst hji
              refine ⟨o, ho', hd, .inl ⟨hguard E hlook, x, hqx.congr (fun s hs => (hlook s (looks_tmp hs)).2), fun d hd' => ?_⟩⟩
              have h3 := hE1 d (fun j' hj' hjp' e => by
                have := S.one _ _ _ hjp' hip e (hdsti.trans hd')
                omega)
              rw [hd'] at h3
              simp only [putE, upd_same] at h3
              exact h3.1
            · exact hE2 j (by omega) h2
        have skip : ∀ (env1 : Env) (ι1 : Loc) (a1 : Act) (w1 : World), Rel C env1 h ι1 a1 w1 → (∀ s, Eqv (env s) (env1 s)) → (∀ E, (∀ s, s ∈ looks ops o → Eqv (env1 s) (E s)) → GuardSem ops E o false) →
            aq C h ops rest (putE env1 o.dst .sk) K →
            ∃ E, K E ∧ (∀ s, (∀ j, i ≤ j → j < p → dstOf ops j ≠ some s) → Eqv (env s) (E s)) ∧ ∀ j, i ≤ j → j < p → OpSem C h ops E j := by
          intro env1 ι1 a1 w1 R1 heq hguard hk
          obtain ⟨E, hE, hE1, hE2⟩ := ih (i + 1) hrest _ ι1 _ w1 K (R1.put (x := .sk) (v := undef) rfl hd) hk
          have hput : ∀ s, (∀ d, o.dst = some d → s ≠ d) → putE env1 o.dst .sk s = env1 s := by
            intro s hs
            cases hq : o.dst with
            | none => rfl
            | some d => exact upd_other _ _ (hs d hq)
          have hlook : ∀ s ∈ looks ops o, Eqv (env1 s) (E s) := by
            intro s hs
            have h1 := hE1 s (fun j hj hjp => hfree s hs j (by omega) hjp)
            rw [hput s (fun d hd' e => hfree s hs i (Nat.le_refl _) hip (by rw [hdsti, hd', e]))] at h1
            exact h1
          refine ⟨E, hE, fun s hs => ?_, fun j h1 h2 => ?_⟩
          · have h3 := hE1 s (fun j hj hjp => hs j (by omega) hjp)
            rw [hput s (fun d hd' e => hs i (Nat.le_refl _) hip (by rw [hdsti, hd', e]))] at h3
            exact (heq s).trans h3
          · by_cases hji : j = i
            · subst hji
              refine ⟨o, ho', hd, .inr ⟨hguard E hlook, fun d hd' => ?_⟩⟩
              have h3 := hE1 d (fun j' hj' hjp' e => by
                have := S.one _ _ _ hjp' hip e (hdsti.trans hd')
                omega)
              rw [hd'] at h3
              simp only [putE, upd_same] at h3
              exact h3.1
            · exact hE2 j (by omega) h2
        split at hq
        · rename_i hg
          exact step env ι a w R (fun _ => Eqv.refl _) (fun E _ => by unfold GuardSem; rw [hg]) (wanted_none hg _) hq
        · rename_i j want hg
          split at hq
          · rename_i d hj
            have hgs : ∀ (env1 : Env) (b : Bool), (∀ w ok r v, VR w ok (env1 d) r v → v = .bool b) → ∀ E, (∀ s, s ∈ looks ops o → Eqv (env1 s) (E s)) → GuardSem ops E o (b == want) := by
              intro env1 b hb E hE
              unfold GuardSem
              rw [hg]
              exact ⟨d, hj, .inl ⟨b, fun w ok r v hv => hb w ok r v ((hE d (looks_guard hg hj)).2 _ _ _ _ hv), rfl⟩⟩
            have hwt : ∀ (env1 : Env) (ι1 : Loc) (a1 : Act) (w1 : World) (b : Bool), Rel C env1 h ι1 a1 w1 → (∀ w ok r v, VR w ok (env1 d) r v → v = .bool b) → Region.wanted o (yielded ops a1.tmps) = (b == want) := by
              intro env1 ι1 a1 w1 b R1 hb
              have hv := hb _ _ _ _ (R1.env d)
              have hy : yielded ops a1.tmps j = some b := by
                have hj' : (ops[j]?).bind (·.dst) = some d := by unfold dstOf at hj; simpa using hj
                unfold yielded
                rw [hj']
                rw [Array.getD_eq_getD_getElem?] at hv
                simp only [Option.bind_some]
                cases hq2 : a1.tmps[d]? with
                | none => rw [hq2] at hv; cases hv
                | some u => rw [hq2] at hv; simp only [Option.getD_some] at hv; subst hv; rfl
              exact wanted_some hg hy
            have told : ∀ (b : Bool) (y : AV), env d = .bool b → (y = .tt ∧ b = true ∨ y = .ff ∧ b = false) → Rel C (upd env d y) h ι a w ∧ (∀ s, Eqv (env s) (upd env d y s)) := by
              intro b y e hy
              have hE : ∀ s, Eqv (env s) (upd env d y s) := by
                intro s
                by_cases hs : s = d
                · subst hs
                  rw [upd_same, e]
                  rcases hy with ⟨rfl, rfl⟩ | ⟨rfl, rfl⟩
                  · exact ⟨fun _ _ _ _ h => h, fun _ _ _ _ h => h⟩
                  · exact ⟨fun _ _ _ _ h => h, fun _ _ _ _ h => h⟩
                · rw [upd_other _ _ hs]; exact Eqv.refl _
              exact ⟨R.env_ (fun s => (hE s).1 _ _ _ _ (R.env s)), hE⟩
            split at hq
            · rename_i e
              have hb : ∀ w ok r v, VR w ok (env d) r v → v = .bool true := by intro w ok r v hv; rw [e] at hv; exact hv
              cases want with
              | true => exact step env ι a w R (fun _ => Eqv.refl _) (hgs env true hb) (hwt env ι a w true R hb) hq
              | false => exact skip env ι a w R (fun _ => Eqv.refl _) (hgs env true hb) hq
            · rename_i e
              have hb : ∀ w ok r v, VR w ok (env d) r v → v = .bool false := by intro w ok r v hv; rw [e] at hv; exact hv
              cases want with
              | true => exact skip env ι a w R (fun _ => Eqv.refl _) (hgs env false hb) hq
              | false => exact step env ι a w R (fun _ => Eqv.refl _) (hgs env false hb) (hwt env ι a w false R hb) hq
            · rename_i b e
              cases b with
              | true =>
                obtain ⟨R1, hE⟩ := told true .tt e (.inl ⟨rfl, rfl⟩)
                have hb : ∀ w ok r v, VR w ok (upd env d .tt d) r v → v = .bool true := by intro w ok r v hv; rw [upd_same] at hv; exact hv
                have hq := hq.t rfl
                cases want with
                | true => exact step _ ι a w R1 hE (hgs _ true hb) (hwt _ ι a w true R1 hb) hq
                | false => exact skip _ ι a w R1 hE (hgs _ true hb) hq
              | false =>
                obtain ⟨R1, hE⟩ := told false .ff e (.inr ⟨rfl, rfl⟩)
                have hb : ∀ w ok r v, VR w ok (upd env d .ff d) r v → v = .bool false := by intro w ok r v hv; rw [upd_same] at hv; exact hv
                have hq := hq.f rfl
                cases want with
                | true => exact skip _ ι a w R1 hE (hgs _ false hb) hq
                | false => exact step _ ι a w R1 hE (hgs _ false hb) (hwt _ ι a w false R1 hb) hq
            · rename_i e
              refine skip env ι a w R (fun _ => Eqv.refl _) (fun E hE => ?_) hq
              unfold GuardSem
              rw [hg]
              refine ⟨d, hj, .inr ⟨fun w ok r v hv => ?_, rfl⟩⟩
              have := (hE d (looks_guard hg hj)).2 _ _ _ _ hv
              rw [e] at this; exact this
            · exact hq.elim
          · exact hq.elim

/-! ### in any order -/
/-- Is this slot yet to be written? -/
def unl (ops : Array Oper) (p : Nat) (listed : Array Bool) (s : Nat) : Bool := (List.range p).any fun j => !listed.getD j true && (dstOf ops j == some s)
def envX (ops : Array Oper) (p : Nat) (E : Env) (listed : Array Bool) : Env := fun s => cond (unl ops p listed s) .u (E s)

theorem unl_false {p : Nat} {listed : Array Bool} {s : Nat} (hs : ∀ j, j < p → dstOf ops j = some s → listed.getD j true = true) : unl ops p listed s = false := by
  unfold unl
  rw [List.any_eq_false]
  intro j hj
  simp only [Bool.and_eq_true, Bool.not_eq_true', beq_iff_eq, not_and]
  intro h1 h2
  rw [hs j (List.mem_range.mp hj) h2] at h1; cases h1

theorem getD_set {listed : Array Bool} {i j : Nat} : (listed.setIfInBounds i true).getD j true = if i = j then true else listed.getD j true := by
  rw [Array.getD_eq_getD_getElem?, Array.getD_eq_getD_getElem?, Array.getElem?_setIfInBounds]
  by_cases h : i = j
  · subst h
    by_cases h2 : i < listed.size
    · simp [h2]
    · simp [h2]
  · simp [h]

theorem getD_two {listed : Array Bool} {j : Nat} (h : j < listed.size) {a b : Bool} : listed.getD j a = listed.getD j b := by
  rw [Array.getD_eq_getD_getElem?, Array.getD_eq_getD_getElem?, Array.getElem?_eq_getElem h]; rfl

/-- Behind the statements that are free, the others come in the text's order. -/
theorem sched_tail {p : Nat} (S : Stat ops p) : ∀ (m q : Nat) (listed : Array Bool) (l : List Nat), m = ops.size - q → p ≤ q → q ≤ ops.size → listed.size = ops.size → (∀ j, j < q → listed.getD j true = true) → (∀ j, q ≤ j → j < ops.size → listed.getD j true = false) →
    Sched ops listed l → l = List.range' q (ops.size - q) := by
  intro m
  induction m with
  | zero =>
    intro q listed l hm hpq hqs hsz h1 h2 hs
    have hq : q = ops.size := by omega
    subst hq
    rw [Nat.sub_self]
    cases l with
    | nil => rfl
    | cons i rest => obtain ⟨hi, hil, _⟩ := hs; rw [h1 i hi] at hil; cases hil
  | succ m ih =>
    intro q listed l hm hpq hqs hsz h1 h2 hs
    have hq : q < ops.size := by omega
    cases l with
    | nil => have := hs q hq; rw [h2 q (Nat.le_refl _) hq] at this; cases this
    | cons i rest =>
      obtain ⟨hi, hil, hpre, hs'⟩ := hs
      have hqi : q ≤ i := by
        rcases Nat.lt_or_ge i q with h' | h'
        · rw [h1 i h'] at hil; cases hil
        · exact h'
      have hiq : i = q := by
        rcases Nat.lt_or_ge q i with h' | h'
        · exfalso
          obtain ⟨o, ho⟩ : ∃ o, ops[i]? = some o := ⟨_, Array.getElem?_eq_getElem hi⟩
          obtain ⟨e, he, hb, hon⟩ := S.tail i o (by omega) ho q h'
          have := hpre o ho e he hb
          rw [hon, getD_two (b := true) (by omega), h2 q (Nat.le_refl _) hq] at this; cases this
        · omega
      subst hiq
      have e1 : ops.size - i = (ops.size - (i + 1)) + 1 := by omega
      rw [e1, List.range'_succ]
      congr 1
      refine ih (i + 1) (listed.setIfInBounds i true) rest (by omega) (by omega) (by omega) (by simpa using hsz) (fun j hj => ?_) (fun j hj1 hj2 => ?_) hs'
      · rw [getD_set]
        split
        · rfl
        · exact h1 j (by omega)
      · rw [getD_set, if_neg (by omega)]
        exact h2 j (by omega) hj2

theorem any_ok {p : Nat} (S : Stat ops p) {k : List Item} {E : Env} (hall : ∀ j, j < p → OpSem C h ops E j) (next : Run C (.inRegion ops (List.range' p (ops.size - p)) :: k) E h) :
    ∀ (l : List Nat) (listed : Array Bool), listed.size = ops.size → (∀ j, p ≤ j → j < ops.size → listed.getD j true = false) → Sched ops listed l → Run C (.inRegion ops l :: k) (envX ops p E listed) h := by
  have fin : ∀ (l : List Nat) (listed : Array Bool), listed.size = ops.size → (∀ j, p ≤ j → j < ops.size → listed.getD j true = false) → (∀ j, j < p → listed.getD j true = true) → Sched ops listed l → Run C (.inRegion ops l :: k) (envX ops p E listed) h := by
    intro l listed hsz h2 h1 hs
    rw [sched_tail S _ p listed l rfl (Nat.le_refl _) S.le hsz h1 h2 hs]
    refine Run.weaken (fun s => ?_) (fun _ => MOle.refl _) next
    unfold envX
    rw [unl_false (fun j hj _ => h1 j hj)]
    exact Le.refl _
  intro l
  induction l with
  | nil =>
    intro listed hsz h2 hs
    refine fin [] listed hsz h2 (fun j hj => hs j (by have := S.le; omega)) hs
  | cons i rest ih =>
    intro listed hsz h2 hs
    by_cases hip : p ≤ i
    · have hs0 := hs
      obtain ⟨hi, hil, hpre, hs'⟩ := hs
      refine fin (i :: rest) listed hsz h2 (fun j hj => ?_) hs0
      obtain ⟨o, ho⟩ : ∃ o, ops[i]? = some o := ⟨_, Array.getElem?_eq_getElem hi⟩
      obtain ⟨e, he, hb, hon⟩ := S.tail i o hip ho j (by omega)
      have := hpre o ho e he hb
      rw [hon] at this
      rw [getD_two (b := false) (by have := S.le; omega)]; exact this
    have hip : i < p := by omega
    obtain ⟨hi, hil, hpre, hs'⟩ := hs
    obtain ⟨o, ho, hd, hsem⟩ := hall i hip
    have hdsti : dstOf ops i = o.dst := by unfold dstOf; rw [show ops.toList[i]? = some o by simpa using ho]; rfl
    have hlk : ∀ s ∈ looks ops o, envX ops p E listed s = E s := by
      intro s hs2
      unfold envX
      rw [unl_false (fun j hjp hj => ?_)]
      · rfl
      · obtain ⟨e, h1, h2, h3⟩ := S.look i o hip ho s hs2 j hjp hj
        have := hpre o ho e h1 h2
        rw [h3] at this
        have hjl : j < listed.size := by rw [hsz]; exact dstOf_lt hj
        rw [getD_two (b := false) hjl]; exact this
    have hrec := ih (listed.setIfInBounds i true) (by simpa using hsz) (fun j h1 h3 => by rw [getD_set, if_neg (by omega)]; exact h2 j h1 h3) hs'
    have hw : ∀ (want' : Bool), GuardSem ops E o want' → ∀ ι a w, Rel C (envX ops p E listed) h ι a w → Region.wanted o (yielded ops a.tmps) = want' := by
      intro want' hgs ι a w R
      unfold GuardSem at hgs
      split at hgs
      · rename_i hg; rw [hgs]; exact wanted_none hg _
      · rename_i j want hg
        obtain ⟨d, hj, hbb⟩ := hgs
        have hv := R.env d
        rw [hlk d (looks_guard hg hj)] at hv
        rcases hbb with ⟨b, hb, rfl⟩ | ⟨hb, rfl⟩
        · have hv := hb _ _ _ _ hv
          have hy : yielded ops a.tmps j = some b := by
            have hj' : (ops[j]?).bind (·.dst) = some d := by unfold dstOf at hj; simpa using hj
            unfold yielded
            rw [hj']
            rw [Array.getD_eq_getD_getElem?] at hv
            simp only [Option.bind_some]
            cases hq2 : a.tmps[d]? with
            | none => rw [hq2] at hv; cases hv
            | some u => rw [hq2] at hv; simp only [Option.getD_some] at hv; subst hv; rfl
          exact wanted_some hg hy
        · exact wanted_sk hg (yield_sk hj (hb _ _ _ _ hv))
    have hle : ∀ (x : AV), (∀ d, o.dst = some d → Le x (E d)) → ∀ s, Le (putE (envX ops p E listed) o.dst x s) (envX ops p E (listed.setIfInBounds i true) s) := by
      intro x hx s
      by_cases hsd : o.dst = some s
      · rw [hsd]
        simp only [putE, upd_same]
        unfold envX
        cases unl ops p (listed.setIfInBounds i true) s with
        | true => exact Le.u _
        | false => exact hx s hsd
      · have e1 : putE (envX ops p E listed) o.dst x s = envX ops p E listed s := by
          cases hq : o.dst with
          | none => rfl
          | some d => exact upd_other _ _ (fun e => hsd (by rw [hq, e]))
        rw [e1]
        unfold envX
        cases hu : unl ops p (listed.setIfInBounds i true) s with
        | true => exact Le.u _
        | false =>
          have : unl ops p listed s = false := by
            refine unl_false fun j hjp hj => ?_
            unfold unl at hu
            rw [List.any_eq_false] at hu
            have := hu j (List.mem_range.mpr hjp)
            simp only [hj, beq_self_eq_true, Bool.and_true, Bool.not_eq_true, Bool.not_eq_false'] at this
            rw [getD_set] at this
            by_cases hij : i = j
            · subst hij; exact absurd (hdsti ▸ hj) hsd
            · rwa [if_neg hij] at this
          rw [this]; exact Le.refl _
    rcases hsem with ⟨hgs, x, hq, hx⟩ | ⟨hgs, hx⟩
    · refine Run.of_step fun ι a w b cs _ R => ?_
      obtain ⟨v, w', ι', hst, R', hv⟩ := hq _ ι a w R (fun y hy => by
        have := ev_ok R y
        cases y with
        | tmp s => have e : ev (envX ops p E listed) (.tmp s) = ev E (.tmp s) := hlk s (looks_tmp hy)
                   rw [e] at this; exact this
        | const v => exact this
        | global g => exact this
        | func f => exact this) b k cs ops i rest ho (hw true hgs ι a w R)
      exact ⟨_, h, ι', _, w', _, hst, (R'.put hv hd).weaken (hle x hx) (fun _ => MOle.refl _), hrec⟩
    · exact skip_ok ho hd (hw false hgs) (Run.weaken (hle .sk hx) (fun _ => MOle.refl _) hrec)

theorem Run.draw0 {id : Nat} {k : List Item} {env : Env} {p : Nat} (hm : C.P.follows .mixedOrders = true) (S : Stat ops p) (hq : aq C h ops (ops.toList.take p) env (fun E => Run C (.inRegion ops (List.range' p (ops.size - p)) :: k) E h)) :
    Run C (.code (.region id ops true) :: k) env h := by
  refine ⟨fun ι a w b cs hb hkd R => ?_⟩
  obtain ⟨E, hE, hE1, hE2⟩ := aq_ok S.to0 (ops.toList.take p) 0 (by simp) env ι a w _ R hq
  have hf : ∀ j, j < ops.size → (Array.replicate ops.size false).getD j true = false := fun j hj => by simp [hj]
  have hrun := any_ok S (fun j hj => hE2 j (Nat.zero_le _) hj) hE (Region.schedule (C.P.follows .mixedOrders) ops (w.tape w.drawn (.order b.fn id))) (Array.replicate ops.size false) (by simp)
    (fun j _ hj => hf j hj) (sched_of hm S.edge _)
  have Rd : Rel C env h ι a { w with drawn := w.drawn + 1 } := R.grow ((Below.refl _ _).drew)
  have R' : Rel C (envX ops p E (Array.replicate ops.size false)) h ι a { w with drawn := w.drawn + 1 } := Rd.weaken (fun s => by
    unfold envX
    cases hu : unl ops p (Array.replicate ops.size false) s with
    | true => exact Le.u _
    | false =>
      refine (hE1 s fun j _ hjp hj => ?_).1
      unfold unl at hu
      rw [List.any_eq_false] at hu
      have := hu j (List.mem_range.mpr hjp)
      have hjl := dstOf_lt hj
      simp [hj, hjl] at this) (fun _ => MOle.refl _)
  obtain ⟨e, w2, fr, h1, h2, h3⟩ := hrun.run ι a _ b cs hb hkd R'
  exact ⟨e, w2, fr, h1, Comes.of_steps (.one step_region_draw) h2, h3⟩

/-- The free ones are gone through; where the others begin, one goes on. -/
def aqT (C : Ctx) (h : Heap) (ops : Array Oper) (k : List Item) (X : List Item → Env → Heap → Prop) (l : List Oper) (env : Env) : Prop :=
  (fun p => aq C h ops (ops.toList.take p) env (fun E => X (.inRegion ops (List.range' p (ops.size - p)) :: k) E h)) (pfxOf l 0)

theorem Run.draw {id : Nat} {k : List Item} {env : Env} (hm : C.P.follows .mixedOrders = true) (hs : drawStat ops = true) (hq : aqT C h ops k (Run C) ops.toList env) :
    Run C (.code (.region id ops true) :: k) env h := Run.draw0 hm (Stat.of hs) hq

/-! ### calls among them -/
theorem CallQ.flat {o : Oper} {env : Env} {K : AV → Prop} {f : FuncId} {xs : List Operand} {args : List AV} {r : AV} (hfn : Fn C.P f args r) (hc : calls? o = some (f, xs))
    (hargs : ArgsLe (xs.map (fun x => bor h (ev env x))) args) (hflat : V.flat r = true) (next : K r) : CallQ C h o env K := by
  refine ⟨r, next, fun env' ι a w R hρ b k cs ops i rest ho hw => ?_⟩
  have hmem : ∀ y ∈ xs, y ∈ o.op.operands := by
    intro y hy
    unfold calls? at hc
    split at hc
    · rename_i heq
      cases hc
      rw [heq]; simp only [Op.operands, Call.operands, Array.mem_append]; exact .inr (by simpa using hy)
    · cases hc
  have hcalls := hfn.calls (fun b => b < w.heap.size) w (xs.map a.eval).toArray (fun b hb => hb) R.globAll (by rw [hargs.at.1]; simp) (fun i x v hx hv => by
    obtain ⟨x0, hx0, hle0⟩ := hargs.at.2 i x hx
    rw [List.getElem?_map] at hx0
    rw [List.getElem?_toArray, List.getElem?_map] at hv
    cases hq : xs[i]? with
    | none => rw [hq] at hx0; cases hx0
    | some y =>
      rw [hq] at hx0 hv
      cases hx0; cases hv
      exact hle0 _ _ _ _ (fz_ok R (fun b hb => hb.1) (fun id hl g hg => (R.base id hl g hg).2) _ _ (hρ y (hmem y (List.mem_of_getElem? hq)))))
  obtain ⟨v, w', ⟨v', e, hbel, hv⟩, hst⟩ := step_call (b := b) (k := k) (cs := cs) (rest := rest) ho hw (exec_call hc hfn.there a w) hcalls post_returned
  cases e
  exact ⟨_, w', ι, hst, R.grow hbel, Run.callA.imm_any hflat hv⟩

end

end Go.Proofs.YteklnpgiloebcaaDoor.V

namespace Go.Proofs.YteklnpgiloebcaaDoor.V
set_option linter.unusedVariables false
set_option linter.unusedSimpArgs false
open Go Go.RowKit

section
variable {C : Ctx} {env : Env} {h : Heap}
theorem Run.go {k : List Item} (hx : aexec C 400 k env h) : Run C k env h := aexec_ok 400 hx

/-- The free statements, one by one; where the others begin, one goes on. -/
def aqS (C : Ctx) (h : Heap) (ops : Array Oper) (k : List Item) : List Oper → Nat → Env → Prop
  | [], _, env => aexec C 400 k env h
  | o :: rest, i, env => cond (allTail (o :: rest) i) (aexec C 400 (.inRegion ops (List.range' i (rest.length + 1)) :: k) env h) (withDst o fun dst => cond (okD C dst) (match o.guard with
      | none => aqStep C h o dst env (fun env' => aqS C h ops k rest (i + 1) env')
      | some (j, want) => match dstOf ops j with
        | some d => match env d with
          | .tt => cond want (aqStep C h o dst env (fun env' => aqS C h ops k rest (i + 1) env')) (aqS C h ops k rest (i + 1) (putE env dst .sk))
          | .ff => cond want (aqS C h ops k rest (i + 1) (putE env dst .sk)) (aqStep C h o dst env (fun env' => aqS C h ops k rest (i + 1) env'))
          | .bool b => AskB b (cond want (aqStep C h o dst (upd env d .tt) (fun env' => aqS C h ops k rest (i + 1) env')) (aqS C h ops k rest (i + 1) (putE (upd env d .tt) dst .sk)))
              (cond want (aqS C h ops k rest (i + 1) (putE (upd env d .ff) dst .sk)) (aqStep C h o dst (upd env d .ff) (fun env' => aqS C h ops k rest (i + 1) env')))
          | .sk => aqS C h ops k rest (i + 1) (putE env dst .sk)
          | _ => False
        | none => False) False)

theorem pfxOf_ge : ∀ (l : List Oper) (i : Nat), i ≤ pfxOf l i
  | [], i => Nat.le_refl _
  | o :: rest, i => by
    unfold pfxOf
    cases allTail (o :: rest) i with
    | true => exact Nat.le_refl _
    | false => exact Nat.le_trans (Nat.le_succ _) (pfxOf_ge rest (i + 1))

/-- Statements that make memory. -/
def memOp (o : Oper) : Bool := match o.op with
  | .buildSlice .. => true
  | .alloc .. => true
  | .box .. => true
  | .makeSlice .. => true
  | .makeMap .. => true
  | .makeFunc .. => true
  | .insert .. => true
  | .mapUpdate .. => true
  | .call c => (match c.callee with
    | .builtin .len => false
    | .builtin .unsafeSliceData => false
    | .builtin _ => true
    | _ => false)
  | _ => false
def storeOp (o : Oper) : Bool := match o.op with
  | .store .. => true
  | _ => memOp o
def drawStatX (ops : Array Oper) : Bool := drawStat ops && (ops.toList.take (pfxOf ops.toList 0)).all fun o => !storeOp o
theorem Run.drawX {id : Nat} {ops : Array Oper} {k : List Item} (hm : C.P.follows .mixedOrders = true) (hsx : drawStatX ops = true) (hq : aqS C h ops k ops.toList 0 env) :
    Run C (.code (.region id ops true) :: k) env h := by
  have hs : drawStat ops = true := by unfold drawStatX at hsx; rw [Bool.and_eq_true] at hsx; exact hsx.1
  refine Run.draw hm hs ?_
  have mono : ∀ (l : List Oper) (i : Nat) (env : Env), aqS C h ops k l i env → aq C h ops (l.take (pfxOf l i - i)) env (fun E => Run C (.inRegion ops (List.range' (pfxOf l i) (i + l.length - pfxOf l i)) :: k) E h) := by
    intro l
    induction l with
    | nil =>
      intro i env hq
      have e : i + ([] : List Oper).length - pfxOf [] i = 0 := by simp [pfxOf]
      rw [e, List.take_nil]
      show Run C (.inRegion ops [] :: k) env h
      exact Run.quiet (fun b a cs w => step_region_end) (aexec_ok 400 hq)
    | cons o rest ih =>
      intro i env hq
      unfold aqS at hq
      cases ht : allTail (o :: rest) i with
      | true =>
        rw [ht, cond_true] at hq
        have e1 : pfxOf (o :: rest) i = i := by unfold pfxOf; rw [ht]; rfl
        rw [e1, Nat.sub_self, Nat.add_sub_cancel_left]
        exact aexec_ok 400 hq
      | false =>
        rw [ht, cond_false] at hq
        have e1 : pfxOf (o :: rest) i = pfxOf rest (i + 1) := by rw [pfxOf, ht]; rfl
        have h1 := pfxOf_ge rest (i + 1)
        have e2 : pfxOf rest (i + 1) - i = (pfxOf rest (i + 1) - (i + 1)) + 1 := by omega
        have e3 : i + (o :: rest).length - pfxOf rest (i + 1) = i + 1 + rest.length - pfxOf rest (i + 1) := by rw [List.length_cons]; omega
        rw [e1, e2, e3, List.take_succ_cons]
        unfold aq
        rw [withDst_eq] at hq ⊢
        have hstep : ∀ env1, aqStep C h o o.dst env1 (fun env' => aqS C h ops k rest (i + 1) env') → aqStep C h o o.dst env1 (fun env' => aq C h ops (rest.take (pfxOf rest (i + 1) - (i + 1))) env' (fun E => Run C (.inRegion ops (List.range' (pfxOf rest (i + 1)) (i + 1 + rest.length - pfxOf rest (i + 1))) :: k) E h)) := by
          intro env1 hs
          unfold aqStep at hs ⊢
          split at hs
          · obtain ⟨x, h1, h2⟩ := hs.out
            exact ⟨x, ih _ _ h1, h2⟩
          · exact qop_mono (fun x hx => (fv_eq _ _).mpr (ih _ _ ((fv_eq _ _).mp hx))) hs
        cases hd : okD C o.dst with
        | false => rw [hd] at hq; exact hq
        | true =>
          rw [hd, cond_true] at hq
          rw [cond_true]
          cases hg : o.guard with
          | none => rw [hg] at hq; exact hstep _ hq
          | some jw =>
            obtain ⟨j, want⟩ := jw
            rw [hg] at hq
            simp only at hq ⊢
            cases hj : dstOf ops j with
            | none => rw [hj] at hq; exact hq.elim
            | some d =>
              rw [hj] at hq
              simp only at hq ⊢
              cases he : env d with
              | tt => rw [he] at hq; cases want <;> first | exact hstep _ hq | exact ih _ _ hq
              | ff => rw [he] at hq; cases want <;> first | exact hstep _ hq | exact ih _ _ hq
              | bool b =>
                rw [he] at hq
                refine ⟨fun hb => ?_, fun hb => ?_⟩
                · have := hq.t hb; cases want <;> first | exact hstep _ this | exact ih _ _ this
                · have := hq.f hb; cases want <;> first | exact hstep _ this | exact ih _ _ this
              | sk => rw [he] at hq; exact ih _ _ hq
              | _ => rw [he] at hq; exact hq.elim
  have := mono ops.toList 0 env hq
  have e4 : ops.toList.length = ops.size := Array.length_toList
  rw [Nat.zero_add, e4] at this
  exact this
where
  qop_mono {C : Ctx} {h : Heap} {o : Oper} {ρ : Operand → AV} {K K' : AV → Prop} {stop : Prop} (hK : ∀ x, K x → K' x) (hq : qop C o ρ h K stop) : qop C o ρ h K' stop := by
    have hK0 := hK
    unfold qop at hq ⊢
    split at hq <;> try exact hK _ hq
    · split at hq <;> first | exact hK _ hq | exact ⟨fun hb => hK _ (hq.t hb), fun hb => hK _ (hq.f hb)⟩ | exact hq
    · unfold abuild at hq ⊢; split at hq
      · split at hq
        · exact force_mono (fun x => hK _) hq
        · exact hq
      · exact hq
    · unfold aload at hq ⊢; split at hq
      · refine force_mono (fun s hs => ?_) hq
        cases hb : Nat.ble s _ with
        | true => rw [hb] at hs; exact hK _ hs
        | false => rw [hb] at hs; exact hs
      · cases hb : Nat.blt 0 _ with
        | true => rw [hb] at hq; exact hK _ hq
        | false => rw [hb] at hq; exact hq
      · exact hq
    · split at hq <;> first | exact hK _ hq | exact hq
    · have hab : ∀ {op x y}, abin op x y K stop → abin op x y K' stop := by
        intro op x y hab
        unfold abin at hab ⊢
        split at hab
        · split at hab
          · exact ⟨hab.l, hK _ hab.r⟩
          · exact ⟨hab.l, hK _ hab.r⟩
          · split at hab
            · rename_i he
              subst he
              simp only [if_true]
              split at hab <;> first | exact hK _ hab | exact ⟨hab.l, hK _ hab.r⟩ | exact hab
            · rename_i he
              rw [if_neg he]; exact hab
        · split at hab <;> first | exact hK _ hab | exact ⟨hab.l, hK _ hab.r⟩ | exact hab
        · split at hab <;> first | exact hK _ hab | exact hab
      split at hq
      · exact hK _ hq
      split at hq
      · cases hb : boolTy C.T _ with
        | true => rw [hb] at hq; exact hab hq
        | false => rw [hb] at hq; exact hq
      · exact hab hq
    · unfold aun at hq ⊢; split at hq <;> first | exact hK _ hq | exact hq
    · unfold aconvert at hq ⊢; split at hq <;> first | exact hK _ hq | exact hq
    · unfold aslice at hq ⊢; split at hq
      · split at hq <;> first | exact hK _ hq | exact ⟨hq.l, hK _ hq.r⟩ | exact hq
      · split at hq
        · cases hb : Nat.beq _ _ with
          | true => rw [hb, cond_true] at hq; rw [cond_true]; split at hq <;> first | exact hK _ hq | exact ⟨hq.l, hK _ hq.r⟩ | exact hq
          | false => rw [hb] at hq; exact hq
        · exact hq
      · exact hq
    · unfold afieldAddr at hq ⊢; split at hq
      · split at hq
        · cases hb : Nat.blt 0 _ with
          | true =>
            rw [hb, cond_true] at hq; rw [cond_true]
            refine force_mono (fun s hs => ?_) hq
            split at hs <;> first | exact hK _ hs | exact hs
          | false => rw [hb] at hq; exact hq
        · exact hq
      · exact hq
    · unfold afield at hq ⊢; split at hq
      · exact force_mono (fun s hs => apart_mono hK hs) hq
      · exact hq
    · unfold aindexAddr at hq ⊢; split at hq
      · split at hq
        · split at hq
          · cases hb : Nat.beq _ _ with
            | true => rw [hb, cond_true] at hq; exact ⟨hq.l, hK _ hq.r⟩
            | false => rw [hb] at hq; exact hq
          · split at hq
            · cases hb : Nat.beq _ _ with
              | true => rw [hb, cond_true] at hq; exact ⟨hq.l, hK _ hq.r⟩
              | false => rw [hb] at hq; exact hq
            · cases hb : Nat.beq _ _ with
              | true => rw [hb, cond_true] at hq; exact ⟨hq.l, hK _ hq.r⟩
              | false => rw [hb] at hq; exact hq
            · exact hq
          · split at hq
            · cases hb : Nat.beq _ _ with
              | true => rw [hb, cond_true] at hq; exact ⟨hq.l, hK _ hq.r⟩
              | false => rw [hb] at hq; exact hq
            · exact hq
          · exact hq
        · exact hq
      · split at hq
        · split at hq
          · cases hb : Nat.beq _ _ with
            | true => rw [hb, cond_true] at hq; exact ⟨hq.l, force_mono (fun x => hK _) hq.r⟩
            | false => rw [hb] at hq; exact hq
          · exact ⟨hq.l, force_mono (fun x => hK _) hq.r⟩
          · exact hq
        · exact hq
      · exact hq
    · unfold aindex at hq ⊢; split at hq
      · exact ⟨hq.l, hK _ hq.r⟩
      · split at hq
        · cases hb : Nat.beq _ _ with
          | true => rw [hb, cond_true] at hq; exact ⟨hq.l, apart_mono hK hq.r⟩
          | false => rw [hb] at hq; exact hq
        · exact hq
      · exact hq
    · unfold aextract at hq ⊢; split at hq
      · cases hb : Nat.blt _ _ with
        | true => rw [hb] at hq; exact hK _ hq
        | false => rw [hb] at hq; exact hq
      · exact hq
    · exact alookup_mono hK hq
    · split at hq
      · unfold alen at hq ⊢; split at hq
        · exact ⟨fun hp => hK _ (hq.h hp)⟩
        · exact ⟨fun hp => hK _ (hq.h hp)⟩
        · exact hK _ hq
        · split at hq
          · exact ⟨fun hp => hK _ (hq.h hp)⟩
          · exact ⟨fun hp => hK _ (hq.h hp)⟩
          · exact hq
        · split at hq
          · exact ⟨fun hp => hK _ (hq.h hp)⟩
          · exact hq
        · split at hq
          · exact hK _ hq
          · exact hq
        · exact hq
      · unfold asliceData at hq ⊢; split at hq
        · exact hK _ hq
        · split at hq
          · exact ⟨fun hb => hK _ (hq.t hb), fun hb => hK _ (hq.f hb)⟩
          · exact hq
        · exact hq
      · exact hq
    · exact hq
  alookup_mono {T : TT} {h : Heap} {t : TypeId} {x k : AV} {c : Bool} {K K' : AV → Prop} {stop : Prop} (hK : ∀ x, K x → K' x) (hq : alookup T h t x k c K stop) : alookup T h t x k c K' stop := by
    cases c <;>
    · unfold alookup at hq ⊢
      split at hq
      · split at hq
        all_goals first
          | exact hq
          | (split at hq
             · cases h1 : T.one _ with
               | false => rw [h1] at hq; exact hq
               | true =>
                 rw [h1, cond_true] at hq
                 rw [cond_true]
                 exact hK _ hq
             · exact hq)
      · exact hq
  force_mono {s : Nat} {K K' : Nat → Prop} {stop : Prop} (hK : ∀ x, K x → K' x) (hq : force s K stop) : force s K' stop := by
    unfold force at hq ⊢
    split at hq <;> first | exact hK _ hq | exact hq
  apart_mono {P : TT} {t : TypeId} {n : Nat} {get : Nat → AV} {o : Nat} {K K' : AV → Prop} {stop : Prop} (hK : ∀ x, K x → K' x) (hq : apart P t n get o K stop) : apart P t n get o K' stop := by
    unfold apart at hq ⊢
    split at hq
    · refine force_mono (fun s hs => ?_) hq
      cases hb : Nat.ble _ n with
      | true => rw [hb] at hs; exact hK _ hs
      | false => rw [hb] at hs; exact hs
    · cases hb : Nat.blt o n with
      | true => rw [hb] at hq; exact hK _ hq
      | false => rw [hb] at hq; exact hq
    · exact hq

/-- Calls, going on. -/
theorem Run.callAX {ops : Array Oper} {i : Nat} {rest : List Nat} {k : List Item} {o : Oper} {f : FuncId} {xs : List Operand} {args : List AV} {r : AV} (hfn : Fn C.P f args r) (ho : ops.toList[i]? = some o) (hc : calls? o = some (f, xs))
    (hargs : ArgsLe (xs.map (fun x => bor h (ev env x))) args) (hd : okD C o.dst = true) (hr : ready env ops o = true) (hflat : flat r = true)
    (next : aexec C 400 (.inRegion ops rest :: k) (putE env o.dst r) h) : Run C (.inRegion ops (i :: rest) :: k) env h := Run.callA hfn ho hc hargs hd hr hflat (aexec_ok 400 next)
theorem Run.callBX {ops : Array Oper} {i : Nat} {rest : List Nat} {k : List Item} {o : Oper} {f : FuncId} {xs : List Operand} {args : List AV} {r : AV} (hfn : Fn C.P f args r) (ho : ops.toList[i]? = some o) (hc : calls? o = some (f, xs))
    (hargs : ArgsLe (xs.map (ev env)) args) (himm : args.all imm = true) (hd : okD C o.dst = true) (hr : ready env ops o = true)
    (next : aexec C 400 (.inRegion ops rest :: k) (putE env o.dst r) h) : Run C (.inRegion ops (i :: rest) :: k) env h := Run.callB hfn ho hc hargs himm hd hr (aexec_ok 400 next)
end

end Go.Proofs.YteklnpgiloebcaaDoor.V


