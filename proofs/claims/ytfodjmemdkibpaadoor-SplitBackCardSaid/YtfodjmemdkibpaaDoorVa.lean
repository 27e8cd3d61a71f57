/-
The words of this session's own framework: abstract memory, what it says of the model's world. Nothing of the program is named here but for its tables.
-/
import Derived.Test.YtfodjmemdkibpaaDoorVG
import Derived.Lib.Builder
namespace Go.Proofs.YtfodjmemdkibpaaDoor.V
open Go Go.RowKit

/-- The maps that are told of: sets of numbers and of texts, numbers by numbers and by texts. -/
inductive MK where
  | ib (l : List Int)
  | sb (l : List ByteArray)
  | ii (l : List (Int × Int))
  | si (l : List (ByteArray × Int))
def MK.entries : MK → List (Value × Value)
  | .ib l => l.map fun n => (.int .i64 n, .bool true)
  | .sb l => l.map fun s => (.string s, .bool true)
  | .ii l => l.map fun p => (.int .i64 p.1, .int .i64 p.2)
  | .si l => l.map fun p => (.string p.1, .int .i64 p.2)

def MK.size : MK → Nat
  | .ib l => l.length
  | .sb l => l.length
  | .ii l => l.length
  | .si l => l.length
theorem MK.size_eq (m : MK) : m.entries.length = m.size := by cases m <;> simp [MK.entries, MK.size]

/-- The objects that a call has made and may still change. -/
inductive MO where
  | dead
  | box (t : TypeId) (l : List AV)
  | row (e : TypeId) (sz n : Nat) (get : Nat → Nat → AV)
  | iter (s : ByteArray) (p : Nat)
  | mp (m : MK)
  | frame (vs : Array Value) (E : Nat → AV)
  | mat (e sz n : Nat) (get0 : Nat → Nat → AV) (o ei szi : Nat) (len : Nat → Nat) (get : Nat → Nat → Nat → AV) (hole : Option Nat)

/-- What an object's id stands for: the value that leads to it (at 0) and those that lead to its inner rows (at i + 1). -/
abbrev Loc := Nat → Nat → Value

def blk : Value → Option Nat
  | .slice (some a) _ _ => some a.block
  | .pointer (some a) => some a.block
  | .map r => r
  | _ => none

def MR (B : Nat) (w : World) (ok : Nat → Prop) (r : Ref) : MO → (Nat → Value) → Prop
  | .dead, _ => True
  | .box t l, v => ∃ g cs, v 0 = .pointer (some ⟨g, 0, none⟩) ∧ w.heap[g]? = some (.cells cs t (0, 0)) ∧ cs.size = l.length ∧
      ∀ (j : Nat) (x : AV), l[j]? = some x → ∃ cv, cs[j]? = some cv ∧ cv.oneCell' = true ∧ VR w ok x r cv
  | .row e sz n get, v => ∃ xs, w.ownsRow B e sz (v 0) n xs ∧ (∀ u ∈ xs, u.oneCell' = true) ∧
      ∀ i j, i < n → j < sz → ∃ cv, xs[i * sz + j]? = some cv ∧ VR w ok (get i j) noref cv
  | .iter s p, v => ∃ g, v 0 = .pointer (some ⟨g, 0, none⟩) ∧ w.heap[g]? = some (.stringIter s p)
  | .frame vs E, _ => ∀ i, VR w ok (E i) r (vs.getD i undef)
  | .mp m, v => ∃ g es clock, v 0 = .map (some g) ∧ w.heap[g]? = some (.map es clock) ∧ es.toList.map (fun e => (e.key, e.val)) = m.entries
  | .mat e sz n get0 o ei szi len get hole, v => o < sz ∧ (∃ xs, w.ownsRow B e sz (v 0) n xs ∧ (∀ u ∈ xs, u.oneCell' = true) ∧
      (∀ i j, i < n → j < sz → j ≠ o → ∃ cv, xs[i * sz + j]? = some cv ∧ VR w ok (get0 i j) noref cv) ∧
      (∀ i, i < n → hole ≠ some i → xs[i * sz + o]? = some (v (i + 1)))) ∧
      (∀ i, i < n → hole ≠ some i → (∀ g, blk (v 0) = some g → blk (v (i + 1)) ≠ some g) ∧ ∃ ys, w.ownsRow B ei szi (v (i + 1)) (len i) ys ∧ (∀ u ∈ ys, u.oneCell' = true) ∧
        ∀ a b, a < len i → b < szi → ∃ u, ys[a * szi + b]? = some u ∧ VR w ok (get i a b) noref u) ∧
      (∀ i i', i < n → i' < n → i ≠ i' → hole ≠ some i → hole ≠ some i' → ∀ g, blk (v (i + 1)) = some g → blk (v (i' + 1)) ≠ some g)

/-- The blocks that are an object's own. -/
def owns : MO → (Nat → Value) → Nat → Prop
  | .mat _ _ n _ _ _ _ _ _ hole, v, g => blk (v 0) = some g ∨ ∃ i, i < n ∧ hole ≠ some i ∧ blk (v (i + 1)) = some g
  | _, v, g => blk (v 0) = some g
theorem owns_zero {m : MO} {v : Nat → Value} {g : Nat} (h : blk (v 0) = some g) : owns m v g := by
  cases m <;> first | exact h | exact .inl h

abbrev Env := Nat → AV
abbrev Heap := Nat → MO
def upd {α : Type} (f : Nat → α) (d : Nat) (x : α) : Nat → α := fun i => cond (Nat.beq i d) x (f i)
theorem upd_same {α : Type} (f : Nat → α) (d : Nat) (x : α) : upd f d x d = x := by simp [upd]
theorem upd_other {α : Type} (f : Nat → α) {d i : Nat} (x : α) (h : i ≠ d) : upd f d x i = f i := by
  have : Nat.beq i d = false := by rw [Bool.eq_false_iff]; intro e; exact h (Nat.eq_of_beq_eq_true e)
  simp [upd, this]

def rf (h : Heap) (ι : Loc) : Ref
  | .row id, v => v = ι id 0
  | .radr id sz i j, v => ∃ g n c, ι id 0 = .slice (some ⟨g, 0, none⟩) n c ∧ v = .pointer (some ((⟨g, 0, none⟩ : Addr).add (i * sz + j))) ∧
      (match h id with | .row _ sz' n' _ => sz' = sz ∧ i < n' | .mat _ sz' n' _ _ _ _ _ _ _ => sz' = sz ∧ i < n' | _ => True)
  | .box id off, v => ∃ g, ι id 0 = .pointer (some ⟨g, 0, none⟩) ∧ v = .pointer (some ((⟨g, 0, none⟩ : Addr).add off))
  | .obj id, v => v = ι id 0
  | .mrow id i, v => v = ι id (i + 1) ∧ (match h id with | .mat _ _ n _ _ _ _ _ _ hole => i < n ∧ hole ≠ some i | _ => True)
  | .madr id i sz a b, v => ∃ g n c, ι id (i + 1) = .slice (some ⟨g, 0, none⟩) n c ∧ v = .pointer (some ((⟨g, 0, none⟩ : Addr).add (a * sz + b))) ∧
      (match h id with | .mat _ _ n' _ _ _ szi len _ hole => szi = sz ∧ i < n' ∧ hole ≠ some i ∧ a < len i | _ => True)
  | _, _ => False

/-- What is known of a type: what it is, how many cells and bytes a value has, the cells of its zero value. -/
structure TI where
  d : TypeDesc
  cells : Nat
  bytes : Nat
  zero : Option (List AV)
  one : Bool
  peq : Bool := false
inductive TT where
  | nil
  | node (k : Nat) (v : TI) (l r : TT)
def TT.get : TT → Nat → Option TI
  | .nil, _ => none
  | .node k v l r, t => cond (Nat.beq t k) (some v) (cond (Nat.blt t k) (l.get t) (r.get t))
def TT.underlying (T : TT) (t : Nat) : Option TypeDesc := match T.get t with | some v => some v.d | none => none
def TT.cellsOf (T : TT) (t : Nat) : Nat := match T.get t with | some v => v.cells | none => 0
def TT.bytesOf (T : TT) (t : Nat) : Nat := match T.get t with | some v => v.bytes | none => 0
def TT.one (T : TT) (t : Nat) : Bool := match T.get t with | some v => v.one | none => false
def TT.zero (T : TT) (t : Nat) : Option (List AV) := match T.get t with | some v => v.zero | none => none

def cv : Value → AV
  | .bool true => .tt
  | .bool false => .ff
  | .int k n => .int k n
  | .string s => bif Nat.ble s.size maxLen then .str s else .u
  | .slice none 0 0 => .nils
  | .pointer none => .nilp
  | .nilIface => .nilif
  | _ => .u

def zeroL (P : Program) (t : TypeId) : Option (List AV) :=
  match (P.info? t).bind (·.zero) with
  | some z => cond (z.cells.toList.all (·.oneCell')) (some (z.cells.toList.map cv)) none
  | none => none

/-- Is the zero value one cell by itself? -/
def zeroOne (P : Program) (t : TypeId) : Bool :=
  match (P.info? t).bind (·.zero) with
  | some (.agg _) => false
  | some _ => true
  | none => false

def TT.peq (T : TT) (t : Nat) : Bool := match T.get t with | some v => v.peq | none => false
/-- Structs that are held against one another field by field. -/
def peqP (P : Program) (t : TypeId) : Bool := match P.underlying t with
  | some (.struct fs) => fs.toList.all (fun f => f.name != "_") && !P.stoodInHeld t && !P.eqGuardType P.depth t
  | _ => false

/-- The table says what the program says. -/
structure TOk (P : Program) (T : TT) : Prop where
  pe : ∀ t v, T.get t = some v → v.peq = true → peqP P t = true
  ok : ∀ t v, T.get t = some v → P.underlying t = some v.d ∧ P.cellsOf t = v.cells ∧ P.bytesOf t = v.bytes ∧ (∀ l, v.zero = some l → zeroL P t = some l) ∧ zeroOne P t = v.one

theorem TOk.nil {P : Program} : TOk P .nil := ⟨fun _ _ h => (by cases h), fun _ _ h => (by cases h)⟩
theorem TOk.node {P : Program} {k : Nat} {v : TI} {l r : TT} (h : (P.underlying k, P.cellsOf k, P.bytesOf k, zeroL P k, zeroOne P k) = (some v.d, v.cells, v.bytes, v.zero, v.one)) (hpe : (v.peq && !peqP P k) = false) (hl : TOk P l) (hr : TOk P r) : TOk P (.node k v l r) := by
  refine ⟨fun t u hu hq => ?_, fun t u hu => ?_⟩
  · unfold TT.get at hu
    cases hb : Nat.beq t k with
    | true =>
      rw [hb, cond_true] at hu
      cases hu
      have := Nat.eq_of_beq_eq_true hb
      subst this
      rw [hq] at hpe
      simpa using hpe
    | false =>
      rw [hb, cond_false] at hu
      cases hc : Nat.blt t k with
      | true => rw [hc] at hu; exact hl.pe t u hu hq
      | false => rw [hc] at hu; exact hr.pe t u hu hq
  unfold TT.get at hu
  cases hb : Nat.beq t k with
  | true =>
    rw [hb, cond_true] at hu
    cases hu
    have := Nat.eq_of_beq_eq_true hb
    subst this
    have h1 := congrArg (fun p => p.1) h
    have h2 := congrArg (fun p => p.2.1) h
    have h3 := congrArg (fun p => p.2.2.1) h
    have h4 := congrArg (fun p => p.2.2.2.1) h
    have h5 := congrArg (fun p => p.2.2.2.2) h
    exact ⟨h1, h2, h3, fun l hl => by rw [← hl]; exact h4, h5⟩
  | false =>
    rw [hb, cond_false] at hu
    cases hc : Nat.blt t k with
    | true => rw [hc] at hu; exact hl.ok t u hu
    | false => rw [hc] at hu; exact hr.ok t u hu

/-- The tables that the package variables hold, where a call may read them. -/
def GlobOk (S : Nat → Prop) (w : World) : Prop := ∀ g : Nat, VR w (fun b => b < w.heap.size ∧ S b) (GL g) noref (.pointer (some ⟨g, 0, none⟩))
/-- What is fixed while one function's body is walked: the program, its number of slots, the world in which it began, which blocks its arguments lead to. -/
structure Ctx where
  P : Program
  T : TT
  tok : TOk P T
  N : Nat
  w0 : World
  S : Nat → Prop
  glob : GlobOk S w0
  f : FuncId
  R : Ending → World → Prop

theorem Ctx.und (C : Ctx) {t : TypeId} {d : TypeDesc} (h : C.T.underlying t = some d) : C.P.underlying t = some d := by
  unfold TT.underlying at h
  split at h
  · rename_i v hv; cases h; exact (C.tok.ok t v hv).1
  · cases h
theorem Ctx.cells (C : Ctx) {t : TypeId} {d : TypeDesc} (h : C.T.underlying t = some d) : C.P.cellsOf t = C.T.cellsOf t := by
  unfold TT.underlying at h
  split at h
  · rename_i v hv; unfold TT.cellsOf; rw [hv]; exact (C.tok.ok t v hv).2.1
  · cases h
theorem Ctx.bytes (C : Ctx) {t : TypeId} {d : TypeDesc} (h : C.T.underlying t = some d) : C.P.bytesOf t = C.T.bytesOf t := by
  unfold TT.underlying at h
  split at h
  · rename_i v hv; unfold TT.bytesOf; rw [hv]; exact (C.tok.ok t v hv).2.2.1
  · cases h
theorem Ctx.zeroes (C : Ctx) {t : TypeId} {l : List AV} (h : C.T.zero t = some l) : zeroL C.P t = some l ∧ C.P.cellsOf t = C.T.cellsOf t ∧ C.P.bytesOf t = C.T.bytesOf t := by
  unfold TT.zero at h
  split at h
  · rename_i v hv
    have := C.tok.ok t v hv
    unfold TT.cellsOf TT.bytesOf
    rw [hv]
    exact ⟨this.2.2.2.1 l h, this.2.1, this.2.2.1⟩
  · cases h
theorem Ctx.ones (C : Ctx) {t : TypeId} (h : C.T.one t = true) : zeroOne C.P t = true := by
  unfold TT.one at h
  split at h
  · rename_i v hv; rw [(C.tok.ok t v hv).2.2.2.2]; exact h
  · cases h
def Ctx.B (C : Ctx) : Nat := C.w0.heap.size
def okB (C : Ctx) (h : Heap) (ι : Loc) (w : World) (b : Nat) : Prop :=
  b < w.heap.size ∧ (C.S b ∨ C.B ≤ b) ∧ ∀ id, h id ≠ .dead → ¬ owns (h id) (ι id) b

structure Rel (C : Ctx) (env : Env) (h : Heap) (ι : Loc) (a : Act) (w : World) : Prop where
  below : Below C.B C.w0 w
  defers : a.defers = []
  size : a.tmps.size = C.N
  env : ∀ i, VR w (okB C h ι w) (env i) (rf h ι) (a.tmps.getD i undef)
  obj : ∀ id, MR C.B w (okB C h ι w) (rf h ι) (h id) (ι id)
  one : ∀ id i, (ι id i).oneCell' = true
  base : ∀ id, h id ≠ .dead → ∀ g, owns (h id) (ι id) g → C.B ≤ g ∧ g < w.heap.size
  apart : ∀ id id', h id ≠ .dead → h id' ≠ .dead → id ≠ id' → ∀ g, owns (h id) (ι id) g → ¬ owns (h id') (ι id') g

def putE (env : Env) (d : Option Nat) (x : AV) : Env := match d with | some d => upd env d x | none => env
def okD (N : Nat) : Option Nat → Bool | some d => Nat.blt d N | none => true

theorem Rel.put {C : Ctx} {env : Env} {h : Heap} {ι : Loc} {a : Act} {w : World} (R : Rel C env h ι a w) {x : AV} {v : Value}
    (hv : VR w (okB C h ι w) x (rf h ι) v) {d : Option Nat} (hd : okD C.N d = true) : Rel C (putE env d x) h ι (a.put d v) w := by
  cases d with
  | none => exact R
  | some d =>
    have hd' : d < a.tmps.size := by rw [R.size]; simpa [okD, Nat.blt_eq] using hd
    refine { R with size := ?_, env := ?_ , defers := R.defers }
    · simp [Act.put, R.size]
    · intro i
      by_cases e : i = d
      · subst e
        simp only [putE, upd_same, Act.put]
        simpa [hd'] using hv
      · simp only [putE, upd_other _ _ e, Act.put]
        have := R.env i
        have h2 : (a.tmps.setIfInBounds d v).getD i undef = a.tmps.getD i undef := by
          simp [Array.getD_eq_getD_getElem?, Array.getElem?_setIfInBounds, Ne.symm e]
        rw [h2]; exact this

theorem ownsRow_keep {w w' : World} {B e sz : Nat} {v : Value} {n : Nat} {xs : List Value} (h : w.ownsRow B e sz v n xs) (hb : ∀ g, blk v = some g → w'.heap[g]? = w.heap[g]?) : w'.ownsRow B e sz v n xs := by
  refine ⟨h.1, ?_⟩
  rcases h.2 with hn | ⟨g, cap, cur, rfl, hB, hg, rest⟩
  · exact .inl hn
  · exact .inr ⟨g, cap, cur, rfl, hB, (hb g rfl).trans hg, rest⟩

theorem MR.keepR {r r' : Ref} {w w' : World} {ok ok' : Nat → Prop} (hr : ∀ x v, r x v → r' x v) (hok : ∀ b, ok b → ok' b) (hw : ∀ b, ok b → w'.heap[b]? = w.heap[b]?)
    {B : Nat} {m : MO} {v : Nat → Value} (hb : ∀ g, owns m v g → w'.heap[g]? = w.heap[g]?) (hm : MR B w ok r m v) : MR B w' ok' r' m v := by
  cases m with
  | dead => trivial
  | box t l =>
    obtain ⟨g, cs, e, hg, hs, hc⟩ := hm
    refine ⟨g, cs, e, (hb g (owns_zero (by rw [e]; rfl))).trans hg, hs, fun j x hx => ?_⟩
    obtain ⟨cv, c1, c2, c3⟩ := hc j x hx
    exact ⟨cv, c1, c2, VR.mono hok hw _ _ _ _ hr c3⟩
  | row e sz n get =>
    obtain ⟨xs, ho, h1, hc⟩ := hm
    refine ⟨xs, ownsRow_keep ho (fun g hg => hb g (owns_zero hg)), h1, fun i j hi hj => ?_⟩
    obtain ⟨cv, c1, c3⟩ := hc i j hi hj
    exact ⟨cv, c1, VR.mono hok hw _ _ _ _ (fun _ _ h => h) c3⟩
  | iter s p =>
    obtain ⟨g, e, hg⟩ := hm
    exact ⟨g, e, (hb g (owns_zero (by rw [e]; rfl))).trans hg⟩
  | frame vs E => exact fun i => VR.mono hok hw _ _ _ _ hr (hm i)
  | mp m =>
    obtain ⟨g, es, clock, e, hg, he⟩ := hm
    exact ⟨g, es, clock, e, (hb g (owns_zero (by rw [e]; rfl))).trans hg, he⟩
  | mat e sz n get0 o ei szi len get hole =>
    obtain ⟨ho, ⟨xs, hx, h1, hc0, hin⟩, hrows, hap⟩ := hm
    refine ⟨ho, ⟨xs, ownsRow_keep hx (fun g hg => hb g (owns_zero hg)), h1, fun i j hi hj hne => ?_, hin⟩, fun i hi hh => ?_, hap⟩
    · obtain ⟨cv, c1, c3⟩ := hc0 i j hi hj hne
      exact ⟨cv, c1, VR.mono hok hw _ _ _ _ (fun _ _ h => h) c3⟩
    · obtain ⟨h2, ys, hy, hy1, hyc⟩ := hrows i hi hh
      refine ⟨h2, ys, ownsRow_keep hy (fun g hg => hb g (.inr ⟨i, hi, hh, hg⟩)), hy1, fun a b ha hb' => ?_⟩
      obtain ⟨u, u1, u3⟩ := hyc a b ha hb'
      exact ⟨u, u1, VR.mono hok hw _ _ _ _ (fun _ _ h => h) u3⟩

/-- The world has grown; what lay in it stays. -/
theorem Rel.grow {C : Ctx} {env : Env} {h : Heap} {ι : Loc} {a : Act} {w w' : World} (R : Rel C env h ι a w) (hb : Below w.heap.size w w') : Rel C env h ι a w' := by
  have hsz := hb.size
  have hok : ∀ b, okB C h ι w b → okB C h ι w' b := fun b hb' => ⟨by have := hb'.1; omega, hb'.2⟩
  have hw : ∀ b, okB C h ι w b → w'.heap[b]? = w.heap[b]? := fun b hb' => hb.block b hb'.1
  have hB : C.B ≤ w.heap.size := R.below.size
  refine { below := R.below.trans (hb.mono hB), defers := R.defers, size := R.size, env := fun i => VR.mono hok hw _ _ _ _ (fun _ _ h => h) (R.env i), obj := ?_, one := R.one, base := ?_, apart := R.apart }
  · intro id
    by_cases hl : h id = .dead
    · rw [hl]; trivial
    · exact MR.keepR (fun _ _ h => h) hok hw (fun g hg => hb.block g (R.base id hl g hg).2) (R.obj id)
  · intro id hl g hg
    have := R.base id hl g hg
    exact ⟨this.1, by omega⟩

end Go.Proofs.YtfodjmemdkibpaaDoor.V
