/-
What a law's arguments read as: out of the reading of plain data, the abstract values that the contracts speak of.
-/
import Derived.Test.YtfodjmemdkibpaaDoorVu
import Derived.Test.YtfodjmemdkibpaaDoorRows
import Derived.ProofKit
import Derived.OpenShut
import Derived.ShutString
import Derived.ChangeOld
import Derived.SizedLaws
import Derived.JoinedCond
import Derived.ChangeArms
namespace Go.Proofs.YtfodjmemdkibpaaDoor.V
open Go Go.RowKit Go.ChangeShapes Go.WideShapes Go.ChangeAt
set_option linter.unusedSimpArgs false
set_option linter.unusedVariables false

/-- Cells that read as x. -/
def CellsAt {α : Type} (w : World) (T : Ty α) (x : α) (off : Nat) (cs : List Value) : Prop := ∀ j, j < T.sz → ∃ cv, cs[off + j]? = some cv ∧ cv.oneCell' = true ∧ VR w (fun b => b < w.heap.size) (T.enc x j) noref cv

structure Dec (P : Program) (t : TypeId) {α : Type} (T : Ty α) (bk : α → Nat) : Prop where
  size : P.cellsOf t = T.sz
  read : ∀ {H : Type} (enc : TypeId × Value → H) (w : World) (fuel : Nat) (cs : List Value) (d : DataW H) ps, DataW.trod enc P w 0 (fun _ => true) true fuel t cs = some (d, ps) →
    ∃ x : α, CellsAt w T x 0 cs ∧ bk x ≤ Rows.uptoBulk d

theorem cells_one1 {α : Type} {w : World} {T : Ty α} {x : α} {v : Value} (hs : T.sz = 1) (h1 : v.oneCell' = true) (hv : VR w (fun b => b < w.heap.size) (T.enc x 0) noref v) : CellsAt w T x 0 [v] := by
  intro j hj
  have : j = 0 := by omega
  subst this
  exact ⟨v, rfl, h1, hv⟩
def tK (k : IntKind) : Ty Int := ⟨1, fun x _ => .int k x, 0⟩
theorem Dec.int {P : Program} {t : TypeId} {k : IntKind} (hu : P.underlying t = some (.int k)) (hc : P.cellsOf t = 1) : Dec P t (tK k) (fun _ => 1) := by
  refine ⟨hc, fun enc w fuel cs d ps h => ?_⟩
  obtain ⟨n, rfl, e, _⟩ := DataW.trod_int hu h
  cases e
  exact ⟨n, cells_one1 rfl rfl rfl, by simp [Rows.uptoBulk]⟩
theorem Dec.bool {P : Program} {t : TypeId} (hu : P.underlying t = some .bool) (hc : P.cellsOf t = 1) : Dec P t tB (fun _ => 1) := by
  refine ⟨hc, fun enc w fuel cs d ps h => ?_⟩
  obtain ⟨n, rfl, e⟩ := DataW.trod_bool hu h
  cases e
  exact ⟨n, cells_one1 rfl rfl rfl, by simp [Rows.uptoBulk]⟩
theorem Dec.str {P : Program} {t : TypeId} (hu : P.underlying t = some .string) (hc : P.cellsOf t = 1) : Dec P t tS (fun x => x.size + 1) := by
  refine ⟨hc, fun enc w fuel cs d ps h => ?_⟩
  obtain ⟨n, rfl, e, hs⟩ := DataW.trod_string hu h
  cases e
  exact ⟨n, cells_one1 rfl rfl ⟨rfl, hs⟩, by simp [Rows.uptoBulk]⟩

def sumL {α : Type} (bk : α → Nat) : List α → Nat
  | [] => 0
  | x :: l => bk x + sumL bk l
theorem sumL_append {α : Type} (bk : α → Nat) (l m : List α) : sumL bk (l ++ m) = sumL bk l + sumL bk m := by
  induction l with
  | nil => simp [sumL]
  | cons x l ih => simp only [List.cons_append, sumL, ih]; omega
theorem sumL_mem {α : Type} (bk : α → Nat) {l : List α} {x : α} (h : x ∈ l) : bk x ≤ sumL bk l := by
  induction l with
  | nil => cases h
  | cons y l ih =>
    rcases List.mem_cons.mp h with e | h'
    · subst e; simp [sumL]
    · have := ih h'; simp only [sumL]; omega
theorem sumL_len {α : Type} (bk : α → Nat) (h1 : ∀ x, 1 ≤ bk x) (l : List α) : l.length ≤ sumL bk l := by
  induction l with
  | nil => simp
  | cons x l ih => have := h1 x; simp only [sumL, List.length_cons]; omega

theorem bulkAll_append {H : Type} (l r : List (DataW H)) : Rows.uptoBulkAll (l ++ r) = Rows.uptoBulkAll l + Rows.uptoBulkAll r := by
  induction l with
  | nil => simp [Rows.uptoBulkAll]
  | cons y l ih => simp only [List.cons_append, Rows.uptoBulkAll, ih]; omega
theorem Dec.slice {P : Program} {t e : TypeId} {α : Type} {T : Ty α} {bk : α → Nat} (hu : P.underlying t = some (.slice e)) (hc : P.cellsOf t = 1) (hz : 0 < T.sz) (D : Dec P e T bk) : Dec P t (tL T) (fun l => sumL bk l + 1) := by
  refine ⟨hc, fun enc w fuel cs d ps h => ?_⟩
  rcases DataW.trod_slice hu h with ⟨rfl, ed⟩ | ⟨a, len, cap, elems, rest, n, rfl, rfl, ed, hb, hl, hcap, hlen, hel, _, _⟩
  · cases ed
    exact ⟨[], cells_one1 rfl rfl (Ty.nil T _ _ _ _ rfl), by simp [Rows.uptoBulk, sumL]⟩
  · cases ed
    have key : ∀ m, m ≤ len → ∃ l : List α, l.length = m ∧ (∀ i, i < m → ∃ cs, w.cells? 0 (a.add (i * P.cellsOf e)) (P.cellsOf e) = some cs ∧ CellsAt w T (l.getD i T.z) 0 cs) ∧ sumL bk l ≤ Rows.uptoBulkAll ((elems.take m).map (·.1)) := by
      intro m
      induction m with
      | zero => intro _; exact ⟨[], rfl, fun i hi => absurd hi (Nat.not_lt_zero _), by simp [sumL]⟩
      | succ m ih =>
        intro hm
        obtain ⟨l, h1, h2, h3⟩ := ih (by omega)
        have he := hel m (by omega)
        rw [List.getElem?_eq_getElem (by omega : m < elems.length)] at he
        simp only [Option.bind_eq_some_iff] at he
        obtain ⟨csm, hcs, htr⟩ := he
        obtain ⟨x, hx, hbx⟩ := D.read enc w n csm elems[m].1 elems[m].2 htr
        refine ⟨l ++ [x], by simp [h1], fun i hi => ?_, ?_⟩
        · rcases Nat.lt_or_ge i m with h' | h'
          · obtain ⟨cs, h4, h5⟩ := h2 i h'
            refine ⟨cs, h4, ?_⟩
            rw [show (l ++ [x]).getD i T.z = l.getD i T.z by simp [List.getD, List.getElem?_append_left (by omega : i < l.length)]]
            exact h5
          · have : i = m := by omega
            subst this
            refine ⟨csm, hcs, ?_⟩
            rw [show (l ++ [x]).getD i T.z = x by simp [List.getD, List.getElem?_append_right (by omega : l.length ≤ i), h1]]
            exact hx
        · have ht : elems.take (m + 1) = elems.take m ++ [elems[m]] := by rw [List.take_add_one, List.getElem?_eq_getElem (by omega : m < elems.length)]; rfl
          rw [sumL_append, ht, List.map_append, bulkAll_append]
          simp only [sumL, List.map_cons, List.map_nil, Rows.uptoBulkAll]
          omega
    obtain ⟨l, h1, h2, h3⟩ := key len (Nat.le_refl _)
    refine ⟨l, cells_one1 rfl rfl ⟨some a, cap, by rw [h1], by omega, hcap, (fun e => by cases e), fun hn => ⟨a, rfl, ?_, fun i j hi hj => ?_⟩⟩, ?_⟩
    · obtain ⟨cs, h4, h5⟩ := h2 0 (by omega)
      have := World.cells?_block h4 (by rw [D.size]; exact hz)
      simpa [addr_block] using this
    · obtain ⟨cs, h4, h5⟩ := h2 i (by omega)
      obtain ⟨cv, c1, c2, c3⟩ := h5 j hj
      obtain ⟨_, _, h6⟩ := World.cells?_some h4
      refine ⟨cv, ?_, c2, c3⟩
      have := h6 j (by rw [D.size]; exact hj)
      rw [addr_add, D.size] at this
      rw [this]; simpa using c1
    · rw [List.take_of_length_le (by omega)] at h3
      simp only [Rows.uptoBulk]
      omega

/-! ### structs, field by field -/
structure DecF (P : Program) (fs : List Field) (off : Nat) {α : Type} (T : Ty α) (bk : α → Nat) : Prop where
  read : ∀ {H : Type} (enc : TypeId × Value → H) (w : World) (fuel : Nat) (cs : List Value) (xs : List (DataW H × List MemPlace)), xs.length = fs.length →
    (∀ (i : Nat) (f : Field), fs[i]? = some f → DataW.trod enc P w 0 (fun _ => true) true fuel f.type ((cs.drop f.offset).take (P.cellsOf f.type)) = xs[i]?) →
    ∃ x : α, CellsAt w T x off cs ∧ bk x ≤ Rows.uptoBulkAll (xs.map (·.1))
def tU : Ty Unit := ⟨0, fun _ _ => .u, ()⟩
def tP {α β : Type} (T : Ty α) (U : Ty β) : Ty (α × β) := ⟨T.sz + U.sz, fun x j => cond (Nat.blt j T.sz) (T.enc x.1 j) (U.enc x.2 (j - T.sz)), (T.z, U.z)⟩
theorem DecF.nil {P : Program} {off : Nat} : DecF P [] off tU (fun _ => 0) := ⟨fun enc w fuel cs xs _ _ => ⟨(), fun j hj => absurd hj (Nat.not_lt_zero _), Nat.zero_le _⟩⟩
theorem DecF.cons {P : Program} {f : Field} {fs : List Field} {off : Nat} {α β : Type} {T : Ty α} {U : Ty β} {bk : α → Nat} {bu : β → Nat} (ho : f.offset = off) (D : Dec P f.type T bk) (F : DecF P fs (off + T.sz) U bu) :
    DecF P (f :: fs) off (tP T U) (fun x => bk x.1 + bu x.2) := by
  refine ⟨fun enc w fuel cs xs hl h => ?_⟩
  cases xs with
  | nil => simp at hl
  | cons y ys =>
    have h0 := h 0 f rfl
    obtain ⟨x, hx, hbx⟩ := D.read enc w fuel _ y.1 y.2 (by rw [h0]; rfl)
    obtain ⟨u, hu, hbu⟩ := F.read enc w fuel cs ys (by simpa using hl) (fun i g hg => by simpa using h (i + 1) g (by simpa using hg))
    refine ⟨(x, u), fun j hj => ?_, by simp only [List.map_cons, Rows.uptoBulkAll]; omega⟩
    unfold tP at hj ⊢
    simp only at hj ⊢
    by_cases hjt : j < T.sz
    · rw [show Nat.blt j T.sz = true by rw [Nat.blt_eq]; exact hjt, cond_true]
      obtain ⟨cv, c1, c2, c3⟩ := hx j hjt
      refine ⟨cv, ?_, c2, c3⟩
      rw [Nat.zero_add, List.getElem?_take_of_lt (by rw [D.size]; exact hjt), List.getElem?_drop, ho] at c1
      exact c1
    · rw [show Nat.blt j T.sz = false by rw [Bool.eq_false_iff]; intro e; rw [Nat.blt_eq] at e; exact hjt e, cond_false]
      obtain ⟨cv, c1, c2, c3⟩ := hu (j - T.sz) (by omega)
      exact ⟨cv, by rw [show off + j = off + T.sz + (j - T.sz) by omega]; exact c1, c2, c3⟩
theorem Dec.struct {P : Program} {t : TypeId} {fs : Array Field} {α : Type} {T : Ty α} {bk : α → Nat} (hu : P.underlying t = some (.struct fs)) (hc : P.cellsOf t = T.sz) (F : DecF P fs.toList 0 T bk) : Dec P t T (fun x => bk x + 1) := by
  refine ⟨hc, fun enc w fuel cs d ps h => ?_⟩
  obtain ⟨xs, n, rfl, ed, hl, hlx, hf⟩ := DataW.trod_struct hu h
  cases ed
  obtain ⟨x, hx, hb⟩ := F.read enc w n cs xs (by simpa using hlx) (fun i f hif => hf i f (by simpa using hif))
  exact ⟨x, hx, by simp only [Rows.uptoBulk]; omega⟩
theorem Dec.map {P : Program} {t : TypeId} {α β : Type} {T : Ty α} {T' : Ty β} {bk : α → Nat} {bk' : β → Nat} (f : α → β) (hs : T'.sz = T.sz) (hle : ∀ x j, j < T.sz → Le (T.enc x j) (T'.enc (f x) j)) (hb : ∀ x, bk' (f x) ≤ bk x) (D : Dec P t T bk) : Dec P t T' bk' := by
  refine ⟨D.size.trans hs.symm, fun enc w fuel cs d ps h => ?_⟩
  obtain ⟨x, hx, hbx⟩ := D.read enc w fuel cs d ps h
  refine ⟨f x, fun j hj => ?_, Nat.le_trans (hb x) hbx⟩
  obtain ⟨cv, c1, c2, c3⟩ := hx j (by omega)
  exact ⟨cv, c1, c2, hle x j (by omega) _ _ _ _ c3⟩

/-! ### arguments -/
structure Arg (P : Program) (t : TypeId) {α : Type} (E : α → AV) (bk : α → Nat) : Prop where
  read : ∀ {H : Type} (enc : TypeId × Value → H) (W : World) (base : Nat) (v : Value) (d : DataW H) ps, Value.okWide P W .any base t v → DataW.Trod enc P W 0 (fun _ => true) true t v d ps →
    ∃ x : α, VR W (fun b => b < W.heap.size) (E x) noref v ∧ bk x ≤ Rows.uptoBulk d
theorem Arg.of_one {P : Program} {t : TypeId} {α : Type} {T : Ty α} {bk : α → Nat} (hs : T.sz = 1) (D : Dec P t T bk) (hv : ∀ W base v, Value.okWide P W .any base t v → v.cells = #[v]) : Arg P t (fun x => T.enc x 0) bk := by
  refine ⟨fun enc W base v d ps ok ⟨fuel, h⟩ => ?_⟩
  rw [hv W base v ok] at h
  obtain ⟨x, hx, hb⟩ := D.read enc W fuel _ d ps h
  obtain ⟨cv, c1, _, c3⟩ := hx 0 (by omega)
  cases c1
  exact ⟨x, c3, hb⟩
theorem Arg.slice {P : Program} {t e : TypeId} {α : Type} {T : Ty α} {bk : α → Nat} (hu : P.underlying t = some (.slice e)) (hc : P.cellsOf t = 1) (hz : 0 < T.sz) (D : Dec P e T bk) : Arg P t (fun l => T.L l) (fun l => sumL bk l + 1) :=
  Arg.of_one (T := tL T) rfl (Dec.slice hu hc hz D) fun W base v ok => by obtain ⟨a, l, c, rfl⟩ := okWide_slice hu ok; rfl
theorem Arg.str {P : Program} {t : TypeId} (hu : P.underlying t = some .string) (hc : P.cellsOf t = 1) : Arg P t (fun s : ByteArray => .str s) (fun s => s.size + 1) :=
  Arg.of_one (T := tS) rfl (Dec.str hu hc) fun W base v ok => by obtain ⟨a, rfl⟩ := okWide_string hu ok; rfl
theorem Arg.int {P : Program} {t : TypeId} (hu : P.underlying t = some (.int .i64)) (hc : P.cellsOf t = 1) : Arg P t (fun n : Int => .int .i64 n) (fun _ => 1) :=
  Arg.of_one (T := tK .i64) rfl (Dec.int hu hc) fun W base v ok => by obtain ⟨a, rfl⟩ := okWide_int hu ok; rfl
theorem Arg.bool {P : Program} {t : TypeId} (hu : P.underlying t = some .bool) (hc : P.cellsOf t = 1) : Arg P t (fun n : Bool => .bool n) (fun _ => 1) :=
  Arg.of_one (T := tB) rfl (Dec.bool hu hc) fun W base v ok => by obtain ⟨a, rfl⟩ := okWide_bool hu ok; rfl
theorem Arg.struct {P : Program} {t : TypeId} {fs : Array Field} {α : Type} {T : Ty α} {bk : α → Nat} (hu : P.underlying t = some (.struct fs)) (D : Dec P t T bk) : Arg P t (fun x => .agg T.sz (T.enc x)) bk := by
  refine ⟨fun enc W base v d ps ok ⟨fuel, h⟩ => ?_⟩
  obtain ⟨cs, rfl, hsz⟩ := okWide_struct hu ok
  obtain ⟨x, hx, hb⟩ := D.read enc W fuel _ d ps h
  refine ⟨x, ⟨cs, rfl, by rw [hsz, D.size], fun j hj => ?_⟩, hb⟩
  obtain ⟨cv, c1, c2, c3⟩ := hx j hj
  exact ⟨cv, by simpa [Value.cells] using c1, c2, c3⟩

structure ArgsD (P : Program) (ts : List TypeId) (G : List AV → Nat → Prop) : Prop where
  read : ∀ {H : Type} (enc : TypeId × Value → H) (W : World) (base : Nat) (vs : List Value) (ds : List (DataW H)) ps, (∀ (j : Nat) t v, ts[j]? = some t → vs[j]? = some v → Value.okWide P W .any base t v) →
    DataW.TrodAll enc P W 0 (fun _ => true) true ts vs ds ps →
    ∃ avs b, G avs b ∧ b ≤ Rows.uptoBulkAll ds ∧ avs.length = vs.length ∧ ∀ (i : Nat) x v, avs[i]? = some x → vs[i]? = some v → VR W (fun b => b < W.heap.size) x noref v
theorem ArgsD.nil {P : Program} : ArgsD P [] (fun avs b => avs = [] ∧ b = 0) := by
  refine ⟨fun enc W base vs ds ps ok h => ?_⟩
  obtain ⟨rfl, rfl, rfl⟩ := trodAll_nil h
  exact ⟨[], 0, ⟨rfl, rfl⟩, Nat.zero_le _, rfl, fun i x v hx => by cases hx⟩
theorem ArgsD.cons {P : Program} {t : TypeId} {ts : List TypeId} {α : Type} {E : α → AV} {bk : α → Nat} {G : List AV → Nat → Prop} (A : Arg P t E bk) (As : ArgsD P ts G) : ArgsD P (t :: ts) (fun avs b => ∃ x avs' b', avs = E x :: avs' ∧ b = bk x + b' ∧ G avs' b') := by
  refine ⟨fun enc W base vs ds ps ok h => ?_⟩
  obtain ⟨v, vs', d, ds', p, q, rfl, rfl, rfl, hd, hrest⟩ := trodAll_cons h
  obtain ⟨x, hx, hb⟩ := A.read enc W base v d p (ok 0 t v rfl rfl) hd
  obtain ⟨avs, b, hG, hb2, hlen, hall⟩ := As.read enc W base vs' ds' q (fun j t v h1 h2 => ok (j + 1) t v (by simpa using h1) (by simpa using h2)) hrest
  refine ⟨E x :: avs, bk x + b, ⟨x, avs, b, rfl, rfl, hG⟩, by simp only [Rows.uptoBulkAll]; omega, by simp [hlen], fun i y u hy hu => ?_⟩
  cases i with
  | zero => cases hy; cases hu; exact hx
  | succ i => exact hall i y u hy hu

/-- The law's call: true, and nothing that was there has turned. -/
theorem ArgsD.calls {P : Program} {f : FuncId} {ts : List TypeId} {G : List AV → Nat → Prop} (A : ArgsD P ts G) {B : Nat} (hfn : ∀ avs b, G avs b → b ≤ B → Fn P f avs .tt) {H : Type} (enc : TypeId × Value → H) (W : World) (base : Nat) (args : Array Value) (ds : List (DataW H)) ps (gl : GlobOk (fun b => b < W.heap.size) W)
    (ok : ∀ (j : Nat) t v, ts[j]? = some t → args[j]? = some v → Value.okWide P W .any base t v) (h : DataW.TrodAll enc P W 0 (fun _ => true) true ts args.toList ds ps) (hB : Rows.uptoBulkAll ds ≤ B) :
    Calls P f args W fun e W' => e = .returned (.bool true) ∧ Below W.heap.size W W' := by
  obtain ⟨avs, b, hG, hb, hlen, hall⟩ := A.read enc W base args.toList ds ps (fun j t v h1 h2 => ok j t v h1 (by simpa using h2)) h
  refine ((hfn avs b hG (by omega)).calls (fun b => b < W.heap.size) W args (fun b hb => hb) gl (by simpa using hlen) (fun i x v hx hv => hall i x v hx (by simpa using hv))).mono ?_
  rintro e W' ⟨v, rfl, hbel, hv⟩
  have : v = .bool true := hv
  subst this
  exact ⟨rfl, hbel⟩
theorem ArgsD.callsAny {P : Program} {f : FuncId} {ts : List TypeId} {G : List AV → Nat → Prop} (A : ArgsD P ts G) (hfn : ∀ avs b, G avs b → Fn P f avs .tt) {H : Type} (enc : TypeId × Value → H) (W : World) (base : Nat) (args : Array Value) (ds : List (DataW H)) ps (gl : GlobOk (fun b => b < W.heap.size) W)
    (ok : ∀ (j : Nat) t v, ts[j]? = some t → args[j]? = some v → Value.okWide P W .any base t v) (h : DataW.TrodAll enc P W 0 (fun _ => true) true ts args.toList ds ps) :
    Calls P f args W fun e W' => e = .returned (.bool true) ∧ Below W.heap.size W W' :=
  A.calls (B := Rows.uptoBulkAll ds) (fun avs b hG _ => hfn avs b hG) enc W base args ds ps gl ok h (Nat.le_refl _)

/-- The arguments read as they did. -/
theorem stay {P : Program} (hl : laidOutB P = true) {H : Type} {enc : TypeId × Value → H} {W W' : World} (hb : Below W.heap.size W W') : ∀ {ts : List TypeId}, (ts.all fun t => P.readableRec t && Nat.blt t P.types.size) = true → ∀ {vs : List Value} {ds : List (DataW H)} {ps : List MemPlace},
    DataW.TrodAll enc P W 0 (fun _ => true) true ts vs ds ps → DataW.TrodAll enc P W' 0 (fun b => decide (b < W.heap.size)) true ts vs ds ps
  | [], _, vs, ds, ps, h => by obtain ⟨rfl, rfl, rfl⟩ := trodAll_nil h; exact trodAll_mk0
  | t :: ts, ht, vs, ds, ps, h => by
    obtain ⟨v, vs', d, ds', p, q, rfl, rfl, rfl, hd, hrest⟩ := trodAll_cons h
    rw [List.all_cons, Bool.and_eq_true, Bool.and_eq_true] at ht
    refine trodAll_cons_mk (Below.trod hl ht.1.1 (by simpa [Nat.blt_eq] using ht.1.2) hd hb ?_) (stay hl hb ht.2 hrest)
    obtain ⟨m, hm⟩ := hd
    exact DataW.trod_lt m _ _ _ hm
end Go.Proofs.YtfodjmemdkibpaaDoor.V
