/-
Maps: made, asked, told, counted.
-/
import Derived.Test.YtfodjmemdkibpaaDoorVh
import Derived.Maps.Keyed
namespace Go.Proofs.YtfodjmemdkibpaaDoor.V
open Go Go.RowKit
set_option linter.unusedSimpArgs false
set_option linter.unusedVariables false

def findL {α β : Type} [DecidableEq α] (k : α) : List (α × β) → Nat → Option (Nat × β)
  | [], _ => none
  | p :: l, i => if k = p.1 then some (i, p.2) else findL k l (i + 1)
/-- What is put under a key: in its place, or at the end. -/
def mset {α β : Type} [DecidableEq α] (k : α) (v : β) : List (α × β) → List (α × β)
  | [] => [(k, v)]
  | p :: l => if k = p.1 then (k, v) :: l else p :: mset k v l
def mget {α β : Type} [DecidableEq α] (k : α) : List (α × β) → Option β
  | [] => none
  | p :: l => if k = p.1 then some p.2 else mget k l
def ins {α : Type} [DecidableEq α] (k : α) : List α → List α
  | [] => [k]
  | p :: l => if k = p then p :: l else p :: ins k l

theorem findNow_gen {α β : Type} [DecidableEq α] (kind : TypeDesc) (f : α → Value) (g : β → Value) (hs : ∀ a b, Instr.sameNow kind (f a) (f b) = some (decide (a = b))) (k : α) :
    ∀ (L : List (α × β)) (es : List MapEntry) (i : Nat), es.map (fun e => (e.key, e.val)) = L.map (fun p => (f p.1, g p.2)) → Instr.findNow kind (f k) es i = some ((findL k L i).map fun q => (q.1, g q.2))
  | [], [], i, _ => rfl
  | [], e :: es, i, h => by cases h
  | p :: L, [], i, h => by cases h
  | p :: L, e :: es, i, h => by
    simp only [List.map_cons, List.cons.injEq] at h
    obtain ⟨h1, h2⟩ := h
    have hk : e.key = f p.1 := congrArg Prod.fst h1
    have hv : e.val = g p.2 := congrArg Prod.snd h1
    simp only [Instr.findNow, findL, hk, hs]
    by_cases e1 : k = p.1
    · rw [decide_eq_true e1, if_pos e1, hv]; rfl
    · rw [decide_eq_false e1, if_neg e1]
      exact findNow_gen kind f g hs k L es (i + 1) h2

theorem findL_get {α β : Type} [DecidableEq α] (k : α) : ∀ (L : List (α × β)) (i : Nat), (findL k L i).map (·.2) = mget k L
  | [], i => rfl
  | p :: L, i => by
    unfold findL mget
    split
    · rfl
    · exact findL_get k L (i + 1)

theorem findL_some {α β : Type} [DecidableEq α] (k : α) (v : β) : ∀ (L : List (α × β)) (i j : Nat) (u : β), findL k L i = some (j, u) → i ≤ j ∧ L[j - i]? = some (k, u) ∧ mset k v L = L.set (j - i) (k, v)
  | [], i, j, u, h => by cases h
  | p :: L, i, j, u, h => by
    unfold findL at h
    split at h
    · rename_i e
      cases h
      refine ⟨Nat.le_refl _, ?_, ?_⟩
      · simp [e]
      · simp [mset, e]
    · rename_i e
      obtain ⟨h1, h2, h3⟩ := findL_some k v L (i + 1) j u h
      have h4 : j - i = (j - (i + 1)) + 1 := by omega
      refine ⟨by omega, ?_, ?_⟩
      · rw [h4, List.getElem?_cons_succ]; exact h2
      · rw [h4, List.set_cons_succ, mset, if_neg e, h3]
theorem findL_none {α β : Type} [DecidableEq α] (k : α) (v : β) : ∀ (L : List (α × β)) (i : Nat), findL k L i = none → mset k v L = L ++ [(k, v)]
  | [], i, h => rfl
  | p :: L, i, h => by
    unfold findL at h
    split at h
    · cases h
    · rename_i e
      rw [mset, if_neg e, findL_none k v L (i + 1) h]; rfl

theorem bytes_beq (a b : ByteArray) : (a == b) = decide (a = b) := by
  by_cases e : a = b
  · rw [decide_eq_true e]; exact MapKept.bytes_beq a b |>.mpr e
  · rw [decide_eq_false e, Bool.eq_false_iff]; exact fun h => e (MapKept.bytes_beq a b |>.mp h)
theorem bytes_beq_self (a : ByteArray) : (a == a) = true := by rw [bytes_beq]; exact decide_eq_true rfl
/-- A kind of key that is compared at once. -/
structure KeyTy (P : Program) (t : TypeId) {α : Type} [DecidableEq α] (f : α → Value) : Prop where
  kind : ∃ kind, P.underlying t = some kind ∧ ∀ a b, Instr.sameNow kind (f a) (f b) = some (decide (a = b))
  check : ∀ (w : World) (e : Bool) a, (Instr.checkKey e 10000 t (f a)).run P w = .ok () w
  stays : ∀ (w : World) a, (Instr.keyThatStays (f a) (f a)).run P w = .ok (f a) w

theorem KeyTy.int {P : Program} {t : TypeId} {k : IntKind} (ht : P.underlying t = some (.int k)) : KeyTy P t (fun n : Int => .int k n) := by
  refine ⟨⟨_, ht, fun a b => by simp [Instr.sameNow, BEq.beq]⟩, fun w e a => ?_, fun w a => ?_⟩
  · show (Instr.checkKey e (9999 + 1) t (.int k a)).run P w = _
    rw [Instr.checkKey]
    simp [run_underlying ht]
  · have : Instr.sameBits 10000 (.int k a) (.int k a) = true := by rw [Instr.sameBits.eq_def]; simp
    simp [Instr.keyThatStays, this]
theorem KeyTy.str {P : Program} {t : TypeId} (ht : P.underlying t = some .string) : KeyTy P t (fun s : ByteArray => .string s) := by
  refine ⟨⟨_, ht, fun a b => by simp only [Instr.sameNow]; congr 1; exact bytes_beq a b⟩, fun w e a => ?_, fun w a => ?_⟩
  · show (Instr.checkKey e (9999 + 1) t (.string a)).run P w = _
    rw [Instr.checkKey]
    simp [run_underlying ht]
  · have : Instr.sameBits 10000 (.string a) (.string a) = true := by rw [Instr.sameBits.eq_def]; exact bytes_beq_self a
    simp [Instr.keyThatStays, this]

section
variable {P : Program} {α β : Type} [DecidableEq α] {f : α → Value} {g : β → Value} {kt vt t : TypeId}

theorem run_lookup (K : KeyTy P kt f) (ht : P.underlying t = some (.map kt vt)) {z : Value} {w : World} (hz : (zeroValue vt).run P w = .ok z w) {b : Nat} {es : Array MapEntry} {clock : Nat}
    (hb : w.heap[b]? = some (.map es clock)) {L : List (α × β)} (he : es.toList.map (fun e => (e.key, e.val)) = L.map (fun p => (f p.1, g p.2))) (k : α) (c : Bool) :
    (Instr.lookup t (.map (some b)) (f k) c).run P w = .ok (if c then .tuple #[((mget k L).map g).getD z, .bool (mget k L).isSome] else ((mget k L).map g).getD z) w := by
  obtain ⟨kind, hk, hs⟩ := K.kind
  have hf := findNow_gen kind f g hs k L es.toList 0 he
  have hg := findL_get k L 0
  cases hq : findL k L 0 with
  | none =>
    rw [hq] at hf hg
    rw [← hg]
    cases c <;> simp [Instr.lookup, run_underlying ht, MapKept.run_getObj_map hb, K.check, Instr.findKey, run_underlying hk, hf, hz]
  | some q =>
    rw [hq] at hf hg
    rw [← hg]
    cases c <;> simp [Instr.lookup, run_underlying ht, MapKept.run_getObj_map hb, K.check, Instr.findKey, run_underlying hk, hf]

theorem run_update (K : KeyTy P kt f) (ht : P.underlying t = some (.map kt vt)) {w : World} {b : Nat} {es : Array MapEntry} {clock : Nat}
    (hb : w.heap[b]? = some (.map es clock)) {L : List (α × β)} (he : es.toList.map (fun e => (e.key, e.val)) = L.map (fun p => (f p.1, g p.2))) (k : α) (v : β) :
    ∃ es' clock', (Instr.mapUpdate t (.map (some b)) (f k) (g v)).run P w = .ok () { w with heap := w.heap.setIfInBounds b (.map es' clock') } ∧ es'.toList.map (fun e => (e.key, e.val)) = (mset k v L).map (fun p => (f p.1, g p.2)) := by
  obtain ⟨kind, hk, hs⟩ := K.kind
  have hf := findNow_gen kind f g hs k L es.toList 0 he
  cases hq : findL k L 0 with
  | none =>
    rw [hq] at hf
    refine ⟨es.push ⟨f k, g v, clock⟩, clock + 1, ?_, ?_⟩
    · simp [Instr.mapUpdate, run_underlying ht, MapKept.run_getObj_map hb, K.check, Instr.findKey, run_underlying hk, hf, MapKept.run_setObj_map _ hb, Result.andThen]
    · rw [findL_none k v L 0 hq]; simp [he]
  | some q =>
    obtain ⟨j, u⟩ := q
    rw [hq] at hf
    obtain ⟨_, h2, h3⟩ := findL_some k v L 0 j u hq
    rw [Nat.sub_zero] at h2 h3
    have h4 : (es.toList.map (fun e => (e.key, e.val)))[j]? = some (f k, g u) := by rw [he, List.getElem?_map, h2]; rfl
    rw [List.getElem?_map] at h4
    cases hj : es.toList[j]? with
    | none => rw [hj] at h4; cases h4
    | some e0 =>
      rw [hj] at h4
      have h5 : e0.key = f k := by injection h4 with h4; exact congrArg Prod.fst h4
      have hj' : es[j]? = some e0 := by simpa using hj
      refine ⟨es.modify j (fun e' => { e' with key := f k, val := g v }), clock, ?_, ?_⟩
      · simp [Instr.mapUpdate, run_underlying ht, MapKept.run_getObj_map hb, K.check, Instr.findKey, run_underlying hk, hf, MapKept.run_setObj_map _ hb, Result.andThen, hj', h5, K.stays]
      · have hjl : j < es.toList.length := (List.getElem?_eq_some_iff.1 hj).1
        rw [h3, Array.toList_modify, List.map_set, ← he]
        refine List.ext_getElem? fun i => ?_
        rw [List.getElem?_map, List.getElem?_modify, List.getElem?_set]
        by_cases hij : j = i
        · subst hij
          rw [if_pos rfl, hj, if_pos (by simpa using hjl)]
          simp
        · rw [if_neg hij, List.getElem?_map]; simp [hij]
end

theorem mset_ins {α : Type} [DecidableEq α] (k : α) : ∀ (l : List α), mset k true (l.map fun x => (x, true)) = (ins k l).map fun x => (x, true)
  | [] => rfl
  | p :: l => by
    simp only [List.map_cons, mset, ins]
    split
    · rename_i e; subst e; rfl
    · rw [mset_ins k l]; rfl
def hasK {α : Type} [DecidableEq α] (k : α) : List α → Bool
  | [] => false
  | p :: l => decide (k = p) || hasK k l
theorem hasK_iff {α : Type} [DecidableEq α] (k : α) : ∀ (l : List α), hasK k l = true ↔ k ∈ l
  | [] => by simp [hasK]
  | p :: l => by simp [hasK, hasK_iff k l]
theorem hasK_not {α : Type} [DecidableEq α] (k : α) (l : List α) : hasK k l = false ↔ k ∉ l := by
  rw [← hasK_iff, Bool.not_eq_true]
theorem mget_set {α : Type} [DecidableEq α] (k : α) : ∀ (l : List α), mget k (l.map fun x => (x, true)) = if hasK k l then some true else none
  | [] => rfl
  | p :: l => by
    simp only [List.map_cons, mget, hasK]
    by_cases e : k = p
    · simp [e]
    · simp only [if_neg e, decide_eq_false e, Bool.false_or]; exact mget_set k l

/-! ### the abstract side -/
def mkind (P : TT) (t : TypeId) : Option MK :=
  match P.underlying t with
  | some (.map k e) => match P.underlying k, P.underlying e with
    | some (.int .i64), some .bool => some (.ib [])
    | some .string, some .bool => some (.sb [])
    | some (.int .i64), some (.int .i64) => some (.ii [])
    | some .string, some (.int .i64) => some (.si [])
    | _, _ => none
  | _ => none

def amakeMap (P : TT) (t d : Nat) (env : Env) (h : Heap) (K : Env → Heap → AV → Prop) (stop : Prop) : Prop :=
  match mkind P t with
  | some m => K (scrubE d env) (upd (upd (scrubH d h) d .dead) d (.mp m)) (.obj d)
  | none => stop

def zeroIs (P : TT) (t : TypeId) (z : AV) : Bool := match P.zero t, z with
  | some [.ff], .ff => true
  | some [.int .i64 0], .int .i64 0 => true
  | _, _ => false

/-- What is asked of a map. -/
def alookup (P : TT) (h : Heap) (t : TypeId) (x k : AV) (c : Bool) (K : AV → Prop) (stop : Prop) : Prop :=
  match x with
  | .obj id => match h id, P.underlying t, k with
    | .mp (.ib l), some (.map kt vt), .int .i64 n => match P.underlying kt, P.zero vt with
      | some (.int .i64), some [.ff] => cond (P.one vt) (cond c (K (.tup 2 (fun j => bif Nat.beq j 0 then .bool (hasK n l) else .bool (hasK n l)))) (K (.bool (hasK n l)))) stop
      | _, _ => stop
    | .mp (.sb l), some (.map kt vt), .str n => match P.underlying kt, P.zero vt with
      | some .string, some [.ff] => cond (P.one vt) (cond c (K (.tup 2 (fun j => bif Nat.beq j 0 then .bool (hasK n l) else .bool (hasK n l)))) (K (.bool (hasK n l)))) stop
      | _, _ => stop
    | .mp (.ii l), some (.map kt vt), .int .i64 n => match P.underlying kt, P.zero vt with
      | some (.int .i64), some [.int .i64 0] => cond (P.one vt) (cond c (K (.tup 2 (fun j => bif Nat.beq j 0 then .int .i64 ((mget n l).getD 0) else .bool (mget n l).isSome))) (K (.int .i64 ((mget n l).getD 0)))) stop
      | _, _ => stop
    | .mp (.si l), some (.map kt vt), .str n => match P.underlying kt, P.zero vt with
      | some .string, some [.int .i64 0] => cond (P.one vt) (cond c (K (.tup 2 (fun j => bif Nat.beq j 0 then .int .i64 ((mget n l).getD 0) else .bool (mget n l).isSome))) (K (.int .i64 ((mget n l).getD 0)))) stop
      | _, _ => stop
    | _, _, _ => stop
  | _ => stop

def aupdate (P : TT) (h : Heap) (t : TypeId) (x k v : AV) (K : Heap → Prop) (stop : Prop) : Prop :=
  match x with
  | .obj id => match h id, P.underlying t, k, v with
    | .mp (.ib l), some (.map kt vt), .int .i64 n, .tt => match P.underlying kt with | some (.int .i64) => K (upd h id (.mp (.ib (ins n l)))) | _ => stop
    | .mp (.sb l), some (.map kt vt), .str n, .tt => match P.underlying kt with | some .string => K (upd h id (.mp (.sb (ins n l)))) | _ => stop
    | .mp (.ii l), some (.map kt vt), .int .i64 n, .int .i64 u => match P.underlying kt with | some (.int .i64) => K (upd h id (.mp (.ii (mset n u l)))) | _ => stop
    | .mp (.si l), some (.map kt vt), .str n, .int .i64 u => match P.underlying kt with | some .string => K (upd h id (.mp (.si (mset n u l)))) | _ => stop
    | _, _, _, _ => stop
  | _ => stop

section
variable {C : Ctx} {env : Env} {h : Heap} {ι : Loc} {a : Act} {w : World}

theorem run_zero1 {t : TypeId} {z : AV} (hz : C.T.zero t = some [z]) (h1' : C.T.one t = true) {u : Value} (hu : z = .ff ∧ u = .bool false ∨ z = .int .i64 0 ∧ u = .int .i64 0) : (zeroValue t).run C.P w = .ok u w := by
  obtain ⟨i, zv, hi, hzz, hs, hc⟩ := zeroL_ok (C.zeroes hz).1
  obtain ⟨c, h1, h2, h3⟩ := hc w (fun _ => False) noref 0 z rfl
  have hcu : c = u := by
    rcases hu with ⟨rfl, rfl⟩ | ⟨rfl, rfl⟩ <;> exact h3
  subst hcu
  have : zv = c := by
    have h5 := C.ones h1'
    have h4 : zv.cells.size = 1 := hs
    cases zv with
    | agg cs => unfold zeroOne at h5; rw [hi] at h5; simp [hzz] at h5
    | _ => simpa [Value.cells] using h1
  subst this
  simp [zeroValue, typeInfo, hi, hzz]

theorem amakeMap_ok (R : Rel C env h ι a w) {t d : Nat} {K : Env → Heap → AV → Prop} {stop : Prop} (hk : amakeMap C.T t d env h K stop) : stop ∨ Out C a w (Instr.makeMap t none) K := by
  unfold amakeMap at hk
  split at hk
  · rename_i m hm
    have hent : m.entries = [] := by
      unfold mkind at hm
      split at hm
      · split at hm <;> (cases hm) <;> rfl
      · cases hm
    have R' := (R.make d d (.mp m) (.map (some w.heap.size)) (w.alloc (.map #[] 0)) (below_alloc C R.below _) (fun b hb => Below.heap_alloc _ _ _ hb.1)
      (fun id _ _ hl g hg => Below.heap_alloc _ _ _ (R.base id hl g hg).2) rfl (fun g hg => by cases hg; exact ⟨R.below.size, by simp⟩)
      (fun g hg hb => by cases hg; exact absurd hb.1 (Nat.lt_irrefl _)) (fun id _ _ hl g hg e => by cases e; exact absurd (R.base id hl _ hg).2 (Nat.lt_irrefl _))
      (fun ok r hok hS hr => ⟨_, _, _, rfl, heap_alloc_new w _, by rw [hent]; rfl⟩)).1
    refine .inr ⟨.map (some w.heap.size), _, _, _, _, _, ?_, R', ?_, hk⟩
    · simp [Instr.makeMap, newObj, Sem.run]
    · show _ = upd ι d _ d 0
      rw [upd_same]
  · exact .inl hk

theorem obj_map (R : Rel C env h ι a w) {id : Nat} {m : MK} {v : Value} (hx : VR w (okB C h ι w) (.obj id) (rf h ι) v) (hh : h id = .mp m) :
    ∃ g es clock, v = .map (some g) ∧ ι id 0 = .map (some g) ∧ w.heap[g]? = some (.map es clock) ∧ es.toList.map (fun e => (e.key, e.val)) = m.entries := by
  have ho := R.obj id
  rw [hh] at ho
  obtain ⟨g, es, clock, e1, e2, e3⟩ := ho
  have hv : v = ι id 0 := hx
  exact ⟨g, es, clock, hv.trans e1, e1, e2, e3⟩

theorem alookup_ok (R : Rel C env h ι a w) {t : TypeId} {x k : AV} {v u : Value} {c : Bool} {K : AV → Prop} {stop : Prop} (hx : VR w (okB C h ι w) x (rf h ι) v) (hu : VR w (okB C h ι w) k (rf h ι) u)
    (hk : alookup C.T h t x k c K stop) : stop ∨ ∃ z m, (Instr.lookup t v u c).run C.P w = .ok m w ∧ VR w (okB C h ι w) z (rf h ι) m ∧ K z := by
  have tup : ∀ (p q : AV) (P Q : Value), VR w (okB C h ι w) p (rf h ι) P → VR w (okB C h ι w) q (rf h ι) Q → VR w (okB C h ι w) (.tup 2 (fun j => bif Nat.beq j 0 then p else q)) (rf h ι) (.tuple #[P, Q]) := by
    intro p q P Q hp hq
    refine ⟨_, rfl, rfl, fun j hj => ?_⟩
    match j, hj with
    | 0, _ => exact ⟨P, rfl, hp⟩
    | 1, _ => exact ⟨Q, rfl, hq⟩
  unfold alookup at hk
  split at hk
  · rename_i id
    split at hk
    · rename_i l kt vt n hh ht
      obtain ⟨g, es, clock, rfl, _, hg, he⟩ := obj_map R hx hh
      have hu' : u = .int .i64 n := hu
      subst hu'
      split at hk
      · rename_i hkt hz
        cases h1 : C.T.one vt with
        | false => rw [h1] at hk; exact .inl hk
        | true =>
          rw [h1, cond_true] at hk
          have hrun := run_lookup (g := fun b : Bool => Value.bool b) (KeyTy.int (C.und hkt)) (C.und ht) (run_zero1 hz h1 (.inl ⟨rfl, rfl⟩)) hg (L := l.map fun x => (x, true)) (by rw [he]; simp [MK.entries]) n c
          have e : ((mget n (l.map fun x => (x, true))).map fun b : Bool => Value.bool b).getD (.bool false) = .bool (hasK n l) := by rw [mget_set]; cases hasK n l <;> rfl
          have e' : (mget n (l.map fun x => (x, true))).isSome = hasK n l := by rw [mget_set]; cases hasK n l <;> rfl
          rw [e, e'] at hrun
          cases c with
          | true => exact .inr ⟨_, _, hrun, tup (.bool (hasK n l)) (.bool (hasK n l)) _ _ rfl rfl, hk⟩
          | false => exact .inr ⟨(.bool (hasK n l)), _, hrun, rfl, hk⟩
      · exact .inl hk
    · rename_i l kt vt n hh ht
      obtain ⟨g, es, clock, rfl, _, hg, he⟩ := obj_map R hx hh
      have hu' : u = .string n := hu.1
      subst hu'
      split at hk
      · rename_i hkt hz
        cases h1 : C.T.one vt with
        | false => rw [h1] at hk; exact .inl hk
        | true =>
          rw [h1, cond_true] at hk
          have hrun := run_lookup (g := fun b : Bool => Value.bool b) (KeyTy.str (C.und hkt)) (C.und ht) (run_zero1 hz h1 (.inl ⟨rfl, rfl⟩)) hg (L := l.map fun x => (x, true)) (by rw [he]; simp [MK.entries]) n c
          have e : ((mget n (l.map fun x => (x, true))).map fun b : Bool => Value.bool b).getD (.bool false) = .bool (hasK n l) := by rw [mget_set]; cases hasK n l <;> rfl
          have e' : (mget n (l.map fun x => (x, true))).isSome = hasK n l := by rw [mget_set]; cases hasK n l <;> rfl
          rw [e, e'] at hrun
          cases c with
          | true => exact .inr ⟨_, _, hrun, tup (.bool (hasK n l)) (.bool (hasK n l)) _ _ rfl rfl, hk⟩
          | false => exact .inr ⟨(.bool (hasK n l)), _, hrun, rfl, hk⟩
      · exact .inl hk
    · rename_i l kt vt n hh ht
      obtain ⟨g, es, clock, rfl, _, hg, he⟩ := obj_map R hx hh
      have hu' : u = .int .i64 n := hu
      subst hu'
      split at hk
      · rename_i hkt hz
        cases h1 : C.T.one vt with
        | false => rw [h1] at hk; exact .inl hk
        | true =>
          rw [h1, cond_true] at hk
          have hrun := run_lookup (g := fun b : Int => Value.int .i64 b) (KeyTy.int (C.und hkt)) (C.und ht) (run_zero1 hz h1 (.inr ⟨rfl, rfl⟩)) hg (L := l) he n c
          have e : ((mget n l).map fun b : Int => Value.int .i64 b).getD (.int .i64 0) = .int .i64 ((mget n l).getD 0) := by cases mget n l <;> rfl
          rw [e] at hrun
          cases c with
          | true => exact .inr ⟨_, _, hrun, tup (.int .i64 ((mget n l).getD 0)) (.bool (mget n l).isSome) _ _ rfl rfl, hk⟩
          | false => exact .inr ⟨(.int .i64 ((mget n l).getD 0)), _, hrun, rfl, hk⟩
      · exact .inl hk
    · rename_i l kt vt n hh ht
      obtain ⟨g, es, clock, rfl, _, hg, he⟩ := obj_map R hx hh
      have hu' : u = .string n := hu.1
      subst hu'
      split at hk
      · rename_i hkt hz
        cases h1 : C.T.one vt with
        | false => rw [h1] at hk; exact .inl hk
        | true =>
          rw [h1, cond_true] at hk
          have hrun := run_lookup (g := fun b : Int => Value.int .i64 b) (KeyTy.str (C.und hkt)) (C.und ht) (run_zero1 hz h1 (.inr ⟨rfl, rfl⟩)) hg (L := l) he n c
          have e : ((mget n l).map fun b : Int => Value.int .i64 b).getD (.int .i64 0) = .int .i64 ((mget n l).getD 0) := by cases mget n l <;> rfl
          rw [e] at hrun
          cases c with
          | true => exact .inr ⟨_, _, hrun, tup (.int .i64 ((mget n l).getD 0)) (.bool (mget n l).isSome) _ _ rfl rfl, hk⟩
          | false => exact .inr ⟨(.int .i64 ((mget n l).getD 0)), _, hrun, rfl, hk⟩
      · exact .inl hk
    · exact .inl hk
  · exact .inl hk

theorem Rel.setMap (R : Rel C env h ι a w) {id g : Nat} {es : Array MapEntry} {clock : Nat} {m m' : MK} (hh : h id = .mp m) (hι : ι id 0 = .map (some g)) (hg : w.heap[g]? = some (.map es clock)) {es' : Array MapEntry} {clock' : Nat}
    (he : es'.toList.map (fun e => (e.key, e.val)) = m'.entries) : Rel C env (upd h id (.mp m')) ι a { w with heap := w.heap.setIfInBounds g (.map es' clock') } := by
  have hl : h id ≠ .dead := by rw [hh]; simp
  have hb := R.base id hl g (owns_zero (by rw [hι]; rfl))
  have hne : ∀ b, b ≠ g → (w.heap.setIfInBounds g (.map es' clock'))[b]? = w.heap[b]? := fun b hb => by rw [Array.getElem?_setIfInBounds, if_neg (Ne.symm hb)]
  refine R.set id (.mp m') _ ⟨rfl, rfl, rfl, by simp, fun k hk => hne k (by have := hb.1; omega)⟩ hl (fun b hb' _ => hne b (hb' g (by rw [hι]; rfl))) (by trivial) (fun r ok _ _ _ => ⟨g, es', clock', hι, ?_, he⟩)
  show (w.heap.setIfInBounds g (.map es' clock'))[g]? = _
  rw [Array.getElem?_setIfInBounds, if_pos rfl, if_pos hb.2]

theorem aupdate_ok (R : Rel C env h ι a w) {t : TypeId} {x k y : AV} {v u q : Value} {K : Heap → Prop} {stop : Prop} (hx : VR w (okB C h ι w) x (rf h ι) v) (hu : VR w (okB C h ι w) k (rf h ι) u)
    (hq : VR w (okB C h ι w) y (rf h ι) q) (hk : aupdate C.T h t x k y K stop) : stop ∨ ∃ w' h', (Instr.mapUpdate t v u q).run C.P w = .ok () w' ∧ Rel C env h' ι a w' ∧ K h' := by
  unfold aupdate at hk
  split at hk
  · rename_i id
    split at hk
    · rename_i l kt vt n hh ht
      obtain ⟨g, es, clock, rfl, hι, hg, he⟩ := obj_map R hx hh
      have hu' : u = .int .i64 n := hu
      have hq' : q = .bool true := hq
      subst hu'; subst hq'
      split at hk
      · rename_i hkt
        obtain ⟨es', clock', hrun, he'⟩ := run_update (g := fun b : Bool => Value.bool b) (KeyTy.int (C.und hkt)) (C.und ht) hg (L := l.map fun x => (x, true)) (by rw [he]; simp [MK.entries]) n true
        exact .inr ⟨_, _, hrun, R.setMap hh hι hg (by rw [he', mset_ins]; simp [MK.entries]), hk⟩
      · exact .inl hk
    · rename_i l kt vt n hh ht
      obtain ⟨g, es, clock, rfl, hι, hg, he⟩ := obj_map R hx hh
      have hu' : u = .string n := hu.1
      have hq' : q = .bool true := hq
      subst hu'; subst hq'
      split at hk
      · rename_i hkt
        obtain ⟨es', clock', hrun, he'⟩ := run_update (g := fun b : Bool => Value.bool b) (KeyTy.str (C.und hkt)) (C.und ht) hg (L := l.map fun x => (x, true)) (by rw [he]; simp [MK.entries]) n true
        exact .inr ⟨_, _, hrun, R.setMap hh hι hg (by rw [he', mset_ins]; simp [MK.entries]), hk⟩
      · exact .inl hk
    · rename_i l kt vt n m hh ht
      obtain ⟨g, es, clock, rfl, hι, hg, he⟩ := obj_map R hx hh
      have hu' : u = .int .i64 n := hu
      have hq' : q = .int .i64 m := hq
      subst hu'; subst hq'
      split at hk
      · rename_i hkt
        obtain ⟨es', clock', hrun, he'⟩ := run_update (g := fun b : Int => Value.int .i64 b) (KeyTy.int (C.und hkt)) (C.und ht) hg (L := l) he n m
        exact .inr ⟨_, _, hrun, R.setMap (m' := .ii (mset n m l)) hh hι hg he', hk⟩
      · exact .inl hk
    · rename_i l kt vt n m hh ht
      obtain ⟨g, es, clock, rfl, hι, hg, he⟩ := obj_map R hx hh
      have hu' : u = .string n := hu.1
      have hq' : q = .int .i64 m := hq
      subst hu'; subst hq'
      split at hk
      · rename_i hkt
        obtain ⟨es', clock', hrun, he'⟩ := run_update (g := fun b : Int => Value.int .i64 b) (KeyTy.str (C.und hkt)) (C.und ht) hg (L := l) he n m
        exact .inr ⟨_, _, hrun, R.setMap (m' := .si (mset n m l)) hh hι hg he', hk⟩
      · exact .inl hk
    · exact .inl hk
  · exact .inl hk
end

end Go.Proofs.YtfodjmemdkibpaaDoor.V
