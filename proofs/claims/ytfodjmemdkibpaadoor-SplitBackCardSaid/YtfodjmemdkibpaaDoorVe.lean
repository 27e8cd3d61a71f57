/-
Operations that make memory or write into it: boxes, zero values, stores, literals, make, append.
-/
import Derived.Test.YtfodjmemdkibpaaDoorVd
import Derived.Lib.AppendStr
namespace Go.Proofs.YtfodjmemdkibpaaDoor.V
open Go Go.RowKit
set_option linter.unusedSimpArgs false
set_option linter.unusedVariables false

/-- A value's cells, one by one. -/
def cellsAV : AV → Option (List AV)
  | .agg n get => some ((List.range n).map get)
  | .u => none
  | .sk => none
  | .tup _ _ => none
  | x => some [x]

def noRef : AV → Bool
  | .row _ => false
  | .radr .. => false
  | .box .. => false
  | .obj _ => false
  | .mrow .. => false
  | .madr .. => false
  | .agg .. => false
  | .tup .. => false
  | _ => true

theorem noRef_ok {w : World} {ok : Nat → Prop} {r r' : Ref} {x : AV} {v : Value} (hn : noRef x = true) (h : VR w ok x r v) : VR w ok x r' v := by
  cases x <;> first | exact h | cases hn

theorem oneCell_cells {v : Value} (h : v.oneCell' = true) : v.cells = #[v] := by cases v <;> first | rfl | cases h

section
variable {C : Ctx} {env : Env} {h : Heap} {ι : Loc} {a : Act} {w : World}

theorem one_of (R : Rel C env h ι a w) {x : AV} {v : Value} (hx : VR w (okB C h ι w) x (rf h ι) v) (h1 : ∀ n get, x ≠ .agg n get) (h2 : ∀ n get, x ≠ .tup n get) (h3 : x ≠ .u) (h4 : x ≠ .sk) : v.oneCell' = true := by
  cases x with
  | u => exact absurd rfl h3
  | sk => exact absurd rfl h4
  | agg n get => exact absurd rfl (h1 n get)
  | tup n get => exact absurd rfl (h2 n get)
  | str s => obtain ⟨rfl, _⟩ := hx; rfl
  | sl n sz get => obtain ⟨A, c, rfl, _⟩ := hx; rfl
  | iadr m get => obtain ⟨ad, rfl, _⟩ := hx; rfl
  | row id => have : v = ι id 0 := hx; rw [this]; exact R.one id 0
  | obj id => have : v = ι id 0 := hx; rw [this]; exact R.one id 0
  | mrow id i => have : v = ι id (i + 1) := hx.1; rw [this]; exact R.one id (i + 1)
  | madr id i sz p q => obtain ⟨g, n, c, _, rfl, _⟩ := hx; rfl
  | radr id sz i j => obtain ⟨g, n, c, _, rfl, _⟩ := hx; rfl
  | box id off => obtain ⟨g, _, rfl⟩ := hx; rfl
  | ptr => obtain ⟨p, rfl⟩ := hx; rfl
  | _ => have : v = _ := hx; rw [this]; rfl

theorem cellsAV_ok (R : Rel C env h ι a w) {x : AV} {v : Value} {l : List AV} (hl : cellsAV x = some l) (hx : VR w (okB C h ι w) x (rf h ι) v) :
    v.cells.size = l.length ∧ ∀ (j : Nat) (y : AV), l[j]? = some y → ∃ cv, v.cells[j]? = some cv ∧ cv.oneCell' = true ∧ VR w (okB C h ι w) y (rf h ι) cv := by
  by_cases hagg : ∃ n get, x = .agg n get
  · obtain ⟨n, get, rfl⟩ := hagg
    cases hl
    obtain ⟨cs, rfl, hs, hc⟩ := hx
    refine ⟨by simp [Value.cells, hs], fun j y hy => ?_⟩
    have hj : j < n := by
      rcases Nat.lt_or_ge j n with h' | h'
      · exact h'
      · rw [List.getElem?_eq_none (by simpa using h')] at hy; cases hy
    obtain ⟨cv, c1, c2, c3⟩ := hc j hj
    rw [List.getElem?_map, List.getElem?_range hj] at hy
    cases hy
    exact ⟨cv, c1, c2, c3⟩
  · have ho : v.oneCell' = true := one_of R hx (fun n get e => hagg ⟨n, get, e⟩) (fun n get e => by subst e; cases hl) (fun e => by subst e; cases hl) (fun e => by subst e; cases hl)
    have hl' : l = [x] := by
      cases x <;> first | (cases hl; rfl) | exact absurd ⟨_, _, rfl⟩ hagg | cases hl
    subst hl'
    rw [oneCell_cells ho]
    refine ⟨rfl, fun j y hy => ?_⟩
    cases j with
    | zero => cases hy; exact ⟨v, rfl, ho, hx⟩
    | succ j => cases hy

/-! ### boxes -/
theorem below_alloc (C : Ctx) (hR : Below C.B C.w0 w) (o : Obj) : Below C.B w (w.alloc o) := (Below.refl _ _).alloc hR.size o

theorem Rel.newBox (R : Rel C env h ι a w) (d : Nat) (t : TypeId) (l : List AV) (cs : Array Value) (hs : cs.size = l.length)
    (hc : ∀ (j : Nat) (y : AV), l[j]? = some y → ∃ cv, cs[j]? = some cv ∧ cv.oneCell' = true ∧ VR w (okB C h ι w) y (rf h ι) cv) :
    Rel C (scrubE d env) (upd (upd (scrubH d h) d .dead) d (.box t (l.map (scrub d)))) (upd ι d (fun _ => .pointer (some ⟨w.heap.size, 0, none⟩))) a (w.alloc (.cells cs t)) := by
  refine (R.make d d (.box t (l.map (scrub d))) _ _ (below_alloc C R.below _) (fun b hb => Below.heap_alloc _ _ _ hb.1)
    (fun id _ _ hl g hg => Below.heap_alloc _ _ _ (R.base id hl g hg).2) rfl (fun g hg => by cases hg; exact ⟨R.below.size, by simp⟩)
    (fun g hg hb => by cases hg; exact absurd hb.1 (Nat.lt_irrefl _)) (fun id _ _ hl g hg e => by cases e; exact absurd (R.base id hl _ hg).2 (Nat.lt_irrefl _)) ?_).1
  intro ok r hok hS hr
  subst hr
  refine ⟨_, _, rfl, heap_alloc_new w _, by simp [hs], fun j x hx => ?_⟩
  rw [List.getElem?_map] at hx
  cases hl : l[j]? with
  | none => rw [hl] at hx; cases hx
  | some y =>
    rw [hl] at hx; cases hx
    obtain ⟨cv, c1, c2, c3⟩ := hc j y hl
    exact ⟨cv, c1, c2, VR.scrub hS hok (fun b hb => Below.heap_alloc _ _ _ hb.1) _ _ c3⟩

def abox (t d : Nat) (x : AV) (env : Env) (h : Heap) (K : Env → Heap → AV → Prop) (stop : Prop) : Prop :=
  match cellsAV x with
  | some l => K (scrubE d env) (upd (upd (scrubH d h) d .dead) d (.box t (l.map (scrub d)))) (.box d 0)
  | none => stop

theorem abox_ok (R : Rel C env h ι a w) {t d : Nat} {x : AV} {v : Value} {K : Env → Heap → AV → Prop} {stop : Prop} (hx : VR w (okB C h ι w) x (rf h ι) v)
    (hk : abox t d x env h K stop) : stop ∨ Out C a w (Instr.box t v) K := by
  unfold abox at hk
  split at hk
  · rename_i l hl
    obtain ⟨hs, hc⟩ := cellsAV_ok R hl hx
    have R' := R.newBox d t l v.cells hs hc
    refine .inr ⟨.pointer (some ⟨w.heap.size, 0, none⟩), _, _, _, _, _, ?_, R', ?_, hk⟩
    · simp [Instr.box, newVar, newRow, newObj, Sem.run]
    · exact ⟨w.heap.size, by rw [upd_same], by simp [Addr.add]⟩
  · exact .inl hk

theorem zeroL_ok {P : Program} {t : TypeId} {l : List AV} (hz : zeroL P t = some l) : ∃ i z, P.info? t = some i ∧ i.zero = some z ∧ z.cells.size = l.length ∧
    ∀ (w : World) (ok : Nat → Prop) (r : Ref) (j : Nat) (y : AV), l[j]? = some y → ∃ c, z.cells[j]? = some c ∧ c.oneCell' = true ∧ VR w ok y r c := by
  unfold zeroL at hz
  split at hz
  · rename_i z hzz
    cases hi : P.info? t with
    | none => rw [hi] at hzz; cases hzz
    | some i =>
      rw [hi] at hzz
      cases hb : z.cells.toList.all (·.oneCell') with
      | false => rw [hb] at hz; cases hz
      | true =>
        rw [hb] at hz; cases hz
        refine ⟨i, z, rfl, hzz, by simp, fun w ok r j y hy => ?_⟩
        rw [List.getElem?_map] at hy
        cases hc : z.cells.toList[j]? with
        | none => rw [hc] at hy; cases hy
        | some c =>
          rw [hc] at hy; cases hy
          exact ⟨c, by simpa using hc, by simpa using List.all_eq_true.mp hb c (List.mem_of_getElem? hc), cv_ok c⟩
  · cases hz

def aalloc (P : TT) (t d : Nat) (env : Env) (h : Heap) (K : Env → Heap → AV → Prop) (stop : Prop) : Prop :=
  match P.zero t with
  | some l => K (scrubE d env) (upd (upd (scrubH d h) d .dead) d (.box t l)) (.box d 0)
  | none => stop

theorem scrub_cv (d : Nat) (v : Value) : scrub d (cv v) = cv v := by
  unfold cv
  split <;> try rfl
  rename_i s
  cases Nat.ble s.size maxLen <;> rfl

theorem aalloc_ok (R : Rel C env h ι a w) {t d : Nat} {K : Env → Heap → AV → Prop} {stop : Prop} (o : Value) (hk : aalloc C.T t d env h K stop) : stop ∨ Out C a w (Instr.alloc t true o) K := by
  unfold aalloc at hk
  split at hk
  · rename_i l hl
    obtain ⟨i, z, hi, hz, hs, hc⟩ := zeroL_ok (C.zeroes hl).1
    have R' := R.newBox d t l z.cells hs (fun j y hy => hc w _ _ j y hy)
    have hl2 : l.map (scrub d) = l := by
      have hl := (C.zeroes hl).1
      unfold zeroL at hl
      split at hl
      · rename_i z' _
        cases hb : z'.cells.toList.all (·.oneCell') with
        | false => rw [hb] at hl; cases hl
        | true => rw [hb] at hl; cases hl; rw [List.map_map]; exact List.map_congr_left (fun c _ => scrub_cv d c)
      · cases hl
    rw [hl2] at R'
    refine .inr ⟨.pointer (some ⟨w.heap.size, 0, none⟩), _, _, _, _, _, ?_, R', ?_, hk⟩
    · simp [Instr.alloc, zeroValue, typeInfo, hi, hz, newVar, newRow, newObj, Sem.run]
    · exact ⟨w.heap.size, by rw [upd_same], by simp [Addr.add]⟩
  · exact .inl hk

/-! ### store -/
def setL (l0 : List AV) (off : Nat) (l : List AV) : List AV := l0.take off ++ l ++ l0.drop (off + l.length)
def updRow (get : Nat → Nat → AV) (i j : Nat) (l : List AV) : Nat → Nat → AV := fun i' j' => if i' = i ∧ j ≤ j' ∧ j' < j + l.length then l.getD (j' - j) .u else get i' j'

def astore (P : TT) (h : Heap) (t : TypeId) (x y : AV) (K : Heap → Prop) (stop : Prop) : Prop :=
  match cellsAV y with
  | some l => cond (Nat.beq l.length (P.cellsOf t)) (match P.underlying t with
    | some _ => (match x with
      | .box id off => match h id with
        | .box t' l0 => cond (Nat.ble (off + l.length) l0.length) (K (upd h id (.box t' (setL l0 off l)))) stop
        | _ => stop
      | .radr id sz i j => match h id with
        | .row e sz' n get => cond (Nat.ble (j + l.length) sz && l.all noRef) (K (upd h id (.row e sz' n (updRow get i j l)))) stop
        | _ => stop
      | _ => stop)
    | none => stop) stop
  | none => stop

theorem run_storeVar_at {P : Program} {t : TypeId} {i : TypeInfo} (hi : P.info? t = some i) {w : World} {g off : Nat} {ty : TypeId} {cur : Array Value} {v : Value}
    (hg : w.heap[g]? = some (.cells cur ty (0, 0))) (hsz : v.cells.size = P.cellsOf t) (hfit : off + v.cells.size ≤ cur.size) (h1 : ∀ u ∈ v.cells.toList, u.oneCell' = true) :
    (Instr.storeAt t (.pointer (some ⟨g, off, none⟩)) v).run P w = .ok () (w.setRow g (cur.toList.take off ++ v.cells.toList ++ cur.toList.drop (off + v.cells.size)).toArray) := by
  have hst := run_storeCells_at P g off ty v.cells.toList 0 cur w hg (by simpa using hfit) h1
  have hs : ¬ v.cells.size ≠ i.size := by rw [hsz]; simp [Program.cellsOf, hi]
  simp only [Nat.add_zero, Array.length_toList] at hst
  simp only [Instr.storeAt, Instr.sureAddr, storeVar, sizeOf, typeInfo, program, hi, Sem.run_bind, Sem.run_pure, Result.andThen_ok, Sem.run, if_neg hs, hst]

theorem getElem?_three {α : Type} (l vs : List α) (o q : Nat) (h : o + vs.length ≤ l.length) :
    (l.take o ++ vs ++ l.drop (o + vs.length))[q]? = if o ≤ q ∧ q < o + vs.length then vs[q - o]? else l[q]? := by
  have ht : (l.take o).length = o := by rw [List.length_take]; omega
  by_cases h1 : q < o
  · rw [if_neg (by omega), List.append_assoc, List.getElem?_append_left (by omega), List.getElem?_take_of_lt h1]
  · by_cases h2 : q < o + vs.length
    · rw [if_pos ⟨by omega, h2⟩, List.getElem?_append_left (by rw [List.length_append]; omega), List.getElem?_append_right (by omega), ht]
    · rw [if_neg (by omega), List.getElem?_append_right (by rw [List.length_append]; omega), List.getElem?_drop, List.length_append, ht]
      congr 1; omega

theorem below_setRow (C : Ctx) (g : Nat) (cs : Array Value) (hg : C.B ≤ g) : Below C.B w (w.setRow g cs) :=
  ⟨rfl, rfl, rfl, by simp, fun k hk => setRow_other w g k cs (by omega)⟩

theorem row_split {sz i j i' j' len : Nat} (hj : j + len ≤ sz) (hj' : j' < sz) : (i * sz + j ≤ i' * sz + j' ∧ i' * sz + j' < i * sz + j + len) ↔ (i' = i ∧ j ≤ j' ∧ j' < j + len) := by
  constructor
  · intro ⟨h1, h2⟩
    have : i' = i := by
      rcases Nat.lt_trichotomy i' i with h | h | h
      · have := Nat.mul_le_mul_right sz (show i' + 1 ≤ i by omega)
        rw [Nat.add_mul] at this; omega
      · exact h
      · have := Nat.mul_le_mul_right sz (show i + 1 ≤ i' by omega)
        rw [Nat.add_mul] at this; omega
    subst this
    exact ⟨rfl, by omega, by omega⟩
  · rintro ⟨rfl, h1, h2⟩
    omega

theorem mul_lt_row {sz n i j : Nat} (hi : i < n) (hj : j < sz) : i * sz + j < n * sz := by
  have := Nat.mul_le_mul_right sz (show i + 1 ≤ n by omega)
  rw [Nat.add_mul] at this; omega

theorem astore_ok (R : Rel C env h ι a w) {t : TypeId} {x y : AV} {v u : Value} {K : Env → Heap → AV → Prop} {stop : Prop} (hx : VR w (okB C h ι w) x (rf h ι) v) (hy : VR w (okB C h ι w) y (rf h ι) u)
    (hk : astore C.T h t x y (fun h' => K env h' .u) stop) : stop ∨ ∃ w' h', (Instr.storeAt t v u).run C.P w = .ok () w' ∧ Rel C env h' ι a w' ∧ K env h' .u := by
  unfold astore at hk
  split at hk
  · rename_i l hl
    obtain ⟨hs, hc⟩ := cellsAV_ok R hl hy
    cases hb : Nat.beq l.length (C.T.cellsOf t) with
    | false => rw [hb] at hk; exact .inl hk
    | true =>
      rw [hb, cond_true] at hk
      have hsz0 : l.length = C.T.cellsOf t := Nat.eq_of_beq_eq_true hb
      have h1 : ∀ z ∈ u.cells.toList, z.oneCell' = true := by
        intro z hz
        obtain ⟨j, hj⟩ := List.getElem?_of_mem hz
        have hjl : j < l.length := by
          rcases Nat.lt_or_ge j l.length with h' | h'
          · exact h'
          · rw [List.getElem?_eq_none (by rw [Array.length_toList, hs]; exact h')] at hj; cases hj
        obtain ⟨cv, c1, c2, _⟩ := hc j l[j] (List.getElem?_eq_getElem hjl)
        have : u.cells.toList[j]? = some cv := by simpa using c1
        rw [this] at hj; cases hj; exact c2
      split at hk
      · rename_i dt hdt
        obtain ⟨i, hi⟩ := info_some (C.und hdt)
        have hsz : l.length = C.P.cellsOf t := by rw [hsz0, C.cells hdt]
        split at hk
        · rename_i id off
          obtain ⟨g, e1, e2⟩ := hx
          split at hk
          · rename_i t' l0 hh
            cases hb2 : Nat.ble (off + l.length) l0.length with
            | false => rw [hb2] at hk; exact .inl hk
            | true =>
              rw [hb2, cond_true] at hk
              have hle : off + l.length ≤ l0.length := Nat.ble_eq ▸ hb2
              have ho := R.obj id
              rw [hh] at ho
              obtain ⟨g', cs, e3, hg, hcs, hcc⟩ := ho
              rw [e1] at e3; cases e3
              have hrun := run_storeVar_at hi hg (off := off) (v := u) (by rw [hs, hsz]) (by rw [hs, hcs]; exact hle) h1
              have hbase := R.base id (by rw [hh]; simp) g (owns_zero (by rw [e1]; rfl))
              refine .inr ⟨_, _, by rw [e2, addr_lit, Nat.zero_add]; exact hrun, ?_, hk⟩
              refine R.set id _ _ (below_setRow C g _ hbase.1) (by rw [hh]; simp) (fun b hb' _ => setRow_other w g b _ (hb' g (by rw [e1]; rfl))) (by trivial) ?_
              intro r ok hr hok hwb
              refine ⟨g, _, e1, setRow_heap w g cs _ t' _ hg, ?_, fun j z hz => ?_⟩
              · simp [setL]; omega
              · have hthree := getElem?_three cs.toList u.cells.toList off j (by simp; omega)
                have hl3 := getElem?_three l0 l off j hle
                have e4 : (setL l0 off l)[j]? = some z := hz
                unfold setL at e4
                rw [hl3] at e4
                have hlen : u.cells.toList.length = l.length := by simp [hs]
                rw [Array.length_toList] at hthree
                rw [List.getElem?_toArray, hthree]
                rw [hs] at *
                split at e4
                · rename_i hin
                  obtain ⟨cv, c1, c2, c3⟩ := hc (j - off) z e4
                  exact ⟨cv, by rw [if_pos hin]; simpa using c1, c2, VR.mono hok hwb _ _ _ _ hr c3⟩
                · rename_i hin
                  obtain ⟨cv, c1, c2, c3⟩ := hcc j z e4
                  exact ⟨cv, by rw [if_neg hin]; simpa using c1, c2, VR.mono hok hwb _ _ _ _ hr c3⟩
          · exact .inl hk
        · rename_i id sz i' j'
          obtain ⟨g, nn, cc, e1, e2, e3⟩ := hx
          split at hk
          · rename_i e sz' n get hh
            cases hb2 : (Nat.ble (j' + l.length) sz && l.all noRef) with
            | false => rw [hb2] at hk; exact .inl hk
            | true =>
              rw [hb2, cond_true] at hk
              rw [Bool.and_eq_true] at hb2
              have hle : j' + l.length ≤ sz := Nat.ble_eq ▸ hb2.1
              rw [hh] at e3
              obtain ⟨rfl, hin⟩ := e3
              have ho := R.obj id
              rw [hh] at ho
              obtain ⟨xs, hown, hone, hcells⟩ := ho
              rcases hown.2 with ⟨hv, hn0⟩ | ⟨g', cap, cur, hv, hB, hg, hnc, hcap, hcs, htake⟩
              · rw [e1] at hv; cases hv
              · rw [e1] at hv; cases hv
                have hn : nn * sz' ≤ cc * sz' := Nat.mul_le_mul_right _ hnc
                have hcur : nn * sz' ≤ cur.size := by rw [hcs]; exact hn
                have hfit : i' * sz' + j' + l.length ≤ nn * sz' := by
                  have := Nat.mul_le_mul_right sz' (show i' + 1 ≤ nn by omega)
                  rw [Nat.add_mul] at this; omega
                have hrun := run_storeVar_at hi hg (off := i' * sz' + j') (v := u) (by rw [hs, hsz]) (by rw [hs]; omega) h1
                have hbase := R.base id (by rw [hh]; simp) g (owns_zero (by rw [e1]; rfl))
                refine .inr ⟨_, _, by rw [e2, addr_lit, Nat.zero_add]; exact hrun, ?_, hk⟩
                refine R.set id _ _ (below_setRow C g _ hbase.1) (by rw [hh]; simp) (fun b hb' _ => setRow_other w g b _ (hb' g (by rw [e1]; rfl)))
                  (by rw [hh]; exact ⟨rfl, rfl⟩) ?_
                intro r ok hr hok hwb
                have hxl : xs.length = nn * sz' := hown.1
                have hul : u.cells.toList.length = l.length := by simp [hs]
                have hthree : ∀ q, (xs.take (i' * sz' + j') ++ u.cells.toList ++ xs.drop (i' * sz' + j' + u.cells.toList.length))[q]? = _ := fun q => getElem?_three xs u.cells.toList (i' * sz' + j') q (by omega)
                refine ⟨xs.take (i' * sz' + j') ++ u.cells.toList ++ xs.drop (i' * sz' + j' + u.cells.toList.length), ⟨by simp; omega,   .inr ⟨g, cc, _, e1, hB, setRow_heap w g cur _ e _ hg, hnc, hcap, by simp; omega, ?_⟩⟩, ?_, ?_⟩
                · rw [List.toList_toArray]
                  apply List.ext_getElem?
                  intro q
                  rw [List.getElem?_take, hthree q, ← htake, List.getElem?_take]
                  have h3 := getElem?_three cur.toList u.cells.toList (i' * sz' + j') q (by simp; omega)
                  rw [Array.length_toList] at h3
                  rw [Array.length_toList]
                  rw [h3]
                  by_cases hq : q < nn * sz'
                  · simp [hq]
                  · rw [if_neg hq, if_neg (by omega), if_neg hq]
                · intro z hz
                  obtain ⟨q, hq⟩ := List.getElem?_of_mem hz
                  rw [hthree q] at hq
                  split at hq
                  · exact h1 z (List.mem_of_getElem? hq)
                  · exact hone z (List.mem_of_getElem? hq)
                · intro i2 j2 hi2 hj2
                  rw [hthree]
                  have hiff := row_split (i := i') (j := j') (i' := i2) (j' := j2) (len := u.cells.toList.length) (by omega) hj2
                  unfold updRow
                  by_cases hin2 : i2 = i' ∧ j' ≤ j2 ∧ j2 < j' + l.length
                  · rw [if_pos hin2, if_pos (hiff.mpr (by rw [hul]; exact hin2))]
                    have hlt : j2 - j' < l.length := by omega
                    obtain ⟨cv, c1, c2, c3⟩ := hc (j2 - j') l[j2 - j'] (List.getElem?_eq_getElem hlt)
                    refine ⟨cv, ?_, ?_⟩
                    · have : i2 * sz' + j2 - (i' * sz' + j') = j2 - j' := by rw [hin2.1]; omega
                      rw [this]; simpa using c1
                    · rw [List.getD, List.getElem?_eq_getElem hlt]
                      exact VR.mono hok hwb _ _ _ _ (fun _ _ h => h) (noRef_ok (List.all_eq_true.mp hb2.2 _ (List.getElem_mem hlt)) c3)
                  · rw [if_neg hin2, if_neg (fun h' => hin2 (by rw [← hul]; exact hiff.mp h'))]
                    obtain ⟨cv, c1, c3⟩ := hcells i2 j2 hi2 hj2
                    exact ⟨cv, c1, VR.mono hok hwb _ _ _ _ (fun _ _ h => h) c3⟩
          · exact .inl hk
        · exact .inl hk
      · exact .inl hk
  · exact .inl hk
end

end Go.Proofs.YtfodjmemdkibpaaDoor.V
