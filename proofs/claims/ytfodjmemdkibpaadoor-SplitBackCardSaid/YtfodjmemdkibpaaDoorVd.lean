/-
Reading memory, places, parts of values: operations that leave the world as it is.
-/
import Derived.Test.YtfodjmemdkibpaaDoorVc
import Derived.Maps.Keyed
namespace Go.Proofs.YtfodjmemdkibpaaDoor.V
open Go Go.RowKit
set_option linter.unusedSimpArgs false
set_option linter.unusedVariables false

def force (s : Nat) (K : Nat → Prop) (stop : Prop) : Prop :=
  match s with
  | 0 => K 0 | 1 => K 1 | 2 => K 2 | 3 => K 3 | 4 => K 4 | 5 => K 5 | 6 => K 6 | 7 => K 7 | 8 => K 8 | 9 => K 9 | 10 => K 10
  | 11 => K 11 | 12 => K 12 | 13 => K 13 | 14 => K 14 | 15 => K 15 | 16 => K 16
  | _ => stop
theorem force_ok {s : Nat} {K : Nat → Prop} {stop : Prop} (h : force s K stop) : K s ∨ stop := by
  unfold force at h
  split at h <;> first | exact .inl h | exact .inr h

def isAggT (P : TT) (t : TypeId) : Option Bool :=
  match P.underlying t with
  | some (.struct _) | some (.array _ _) => some true
  | some _ => some false
  | none => none

theorem isAggT_und {P : TT} {t : TypeId} {b : Bool} (h : isAggT P t = some b) : ∃ d, P.underlying t = some d := by
  unfold isAggT at h
  cases hu : P.underlying t with
  | some d => exact ⟨d, rfl⟩
  | none => rw [hu] at h; cases h

theorem info_some {P : Program} {t : TypeId} {d : TypeDesc} (h : P.underlying t = some d) : ∃ i, P.info? t = some i := by
  unfold Program.underlying at h
  cases hi : P.info? t with
  | some i => exact ⟨i, rfl⟩
  | none => rw [hi] at h; cases h

theorem run_und {C : Ctx} {t : TypeId} {d : TypeDesc} (h : C.T.underlying t = some d) (w : World) : (underlying t).run C.P w = .ok d w := run_underlying (C.und h) w
theorem run_sizeOf {C : Ctx} {t : TypeId} {d : TypeDesc} (h : C.T.underlying t = some d) (w : World) : (sizeOf t).run C.P w = .ok (C.T.cellsOf t) w := by
  obtain ⟨i, hi⟩ := info_some (C.und h)
  rw [← C.cells h]
  simp [sizeOf, typeInfo, hi, Program.cellsOf]

theorem run_isAgg {C : Ctx} {t : TypeId} {b : Bool} (h : isAggT C.T t = some b) (w : World) : (isAgg t).run C.P w = .ok b w := by
  unfold isAggT at h
  unfold isAgg
  rw [Sem.run_bind]
  split at h
  · rename_i hu; rw [run_und hu]; cases h; simp
  · rename_i hu; rw [run_und hu]; cases h; simp
  · rename_i d h1 h2 hu
    rw [run_und hu]; cases h
    cases d <;> first | rfl | exact absurd rfl (h1 _) | exact absurd rfl (h2 _ _)
  · cases h

theorem run_loadVar_agg {C : Ctx} {t : TypeId} (h : isAggT C.T t = some true) {w : World} {ad : Addr} (f : Nat → Value) (hc : ∀ j, j < C.T.cellsOf t → w.cell? (ad.add j) = some (f j)) :
    (loadVar t ad).run C.P w = .ok (.agg ((List.range (C.T.cellsOf t)).map f).toArray) w := by
  obtain ⟨d, hd⟩ := isAggT_und h
  simp [loadVar, run_isAgg h, run_sizeOf hd, run_loadCells w ad _ f hc]

theorem run_loadVar_one {C : Ctx} {t : TypeId} (h : isAggT C.T t = some false) {w : World} {ad : Addr} {v : Value} (hc : w.cell? ad = some v) :
    (loadVar t ad).run C.P w = .ok v w := by
  simp [loadVar, run_isAgg h, run_load, hc]

/-- What a place holds: its cells from there on, told one by one. -/
def placeAt (h : Heap) : AV → Option (Nat × (Nat → AV))
  | .iadr m get => some (m, get)
  | .radr id sz i j => match h id with
    | .row _ _ _ get => some (sz - j, fun q => get i (j + q))
    | .mat _ _ _ get0 o _ _ _ _ none => some (sz - j, fun q => cond (Nat.beq (j + q) o) (.mrow id i) (get0 i (j + q)))
    | _ => none
  | .madr id i sz a b => match h id with
    | .mat _ _ _ _ _ _ _ _ get _ => some (sz - b, fun q => get i a (b + q))
    | _ => none
  | .box id off => match h id with
    | .box _ l => some (l.length - off, fun q => l.getD (off + q) .u)
    | _ => none
  | _ => none

theorem addr_add (a : Addr) (i j : Nat) : (a.add i).add j = a.add (i + j) := by
  unfold Addr.add
  by_cases hi : i = 0 <;> by_cases hj : j = 0 <;> simp [hi, hj, Nat.add_assoc]
theorem addr_block (a : Addr) (n : Nat) : (a.add n).block = a.block := by unfold Addr.add; split <;> rfl
theorem addr_lit (g o n : Nat) : (⟨g, o, none⟩ : Addr).add n = ⟨g, o + n, none⟩ := by unfold Addr.add; split <;> simp_all

theorem placeAt_ok {C : Ctx} {env : Env} {h : Heap} {ι : Loc} {a : Act} {w : World} (R : Rel C env h ι a w) {x : AV} {v : Value} {m : Nat} {get : Nat → AV}
    (hp : placeAt h x = some (m, get)) (hx : VR w (okB C h ι w) x (rf h ι) v) :
    ∃ ad : Addr, v = .pointer (some ad) ∧ ∀ j, j < m → ∃ cv, w.cell? (ad.add j) = some cv ∧ cv.oneCell' = true ∧ VR w (okB C h ι w) (get j) (rf h ι) cv := by
  cases x with
  | iadr m' get' =>
    cases hp
    obtain ⟨ad, e, hb, hc⟩ := hx
    refine ⟨ad, e, fun j hj => ?_⟩
    obtain ⟨cv, c1, c2, c3⟩ := hc j hj
    exact ⟨cv, c1, c2, VR.mono (fun _ h => h) (fun _ _ => rfl) _ _ _ _ (fun _ _ h => False.elim h) c3⟩
  | radr id sz i j =>
    simp only [placeAt] at hp
    have ho := R.obj id
    obtain ⟨g, n, c, h1, h2, h3⟩ := hx
    cases hh : h id with
    | row e sz' n' get' =>
      rw [hh] at hp ho h3
      cases hp
      obtain ⟨rfl, hi⟩ := h3
      obtain ⟨xs, hown, hone, hcells⟩ := ho
      refine ⟨_, h2, fun q hq => ?_⟩
      obtain ⟨cv, c1, c2⟩ := hcells i (j + q) hi (by omega)
      refine ⟨cv, ?_, hone cv (List.mem_of_getElem? c1), VR.mono (fun _ h => h) (fun _ _ => rfl) _ _ _ _ (fun _ _ h => False.elim h) c2⟩
      rw [addr_add, Nat.add_assoc]
      exact hown.cells (g := g) (by rw [h1]; rfl) _ _ c1
    | mat e sz' n' get0 o ei szi len get' hole =>
      cases hole with
      | some _ => rw [hh] at hp; cases hp
      | none =>
      rw [hh] at hp ho h3
      cases hp
      obtain ⟨rfl, hi⟩ := h3
      obtain ⟨_, ⟨xs, hown, hone, hcells, hin⟩, _, _⟩ := ho
      refine ⟨_, h2, fun q hq => ?_⟩
      by_cases hjo : j + q = o
      · have c1 := hin i hi (by simp)
        rw [← hjo] at c1
        refine ⟨ι id (i + 1), ?_, R.one id (i + 1), ?_⟩
        · rw [addr_add, Nat.add_assoc]
          exact hown.cells (g := g) (by rw [h1]; rfl) _ _ c1
        · show VR w (okB C h ι w) (cond (Nat.beq (j + q) o) (.mrow id i) (get0 i (j + q))) (rf h ι) _
          rw [show Nat.beq (j + q) o = true by rw [hjo]; exact Nat.beq_refl o, cond_true]
          exact ⟨rfl, by rw [hh]; exact ⟨hi, by simp⟩⟩
      · obtain ⟨cv, c1, c2⟩ := hcells i (j + q) hi (by omega) hjo
        refine ⟨cv, ?_, hone cv (List.mem_of_getElem? c1), ?_⟩
        · rw [addr_add, Nat.add_assoc]
          exact hown.cells (g := g) (by rw [h1]; rfl) _ _ c1
        · show VR w (okB C h ι w) (cond (Nat.beq (j + q) o) (.mrow id i) (get0 i (j + q))) (rf h ι) _
          rw [beq_ne hjo, cond_false]
          exact VR.mono (fun _ h => h) (fun _ _ => rfl) _ _ _ _ (fun _ _ h => False.elim h) c2
    | _ => rw [hh] at hp; cases hp
  | madr id i sz p q0 =>
    simp only [placeAt] at hp
    have ho := R.obj id
    obtain ⟨g, n, c, h1, h2, h3⟩ := hx
    cases hh : h id with
    | mat e sz' n' get0 o ei szi len get' hole =>
      rw [hh] at hp ho h3
      cases hp
      obtain ⟨rfl, hi, hho, ha⟩ := h3
      obtain ⟨_, _, hrows, _⟩ := ho
      obtain ⟨_, ys, hy, hy1, hyc⟩ := hrows i hi hho
      refine ⟨_, h2, fun q hq => ?_⟩
      obtain ⟨cv, c1, c2⟩ := hyc p (q0 + q) ha (by omega)
      refine ⟨cv, ?_, hy1 cv (List.mem_of_getElem? c1), VR.mono (fun _ h => h) (fun _ _ => rfl) _ _ _ _ (fun _ _ h => False.elim h) c2⟩
      rw [addr_add, Nat.add_assoc]
      exact hy.cells (g := g) (by rw [h1]; rfl) _ _ c1
    | _ => rw [hh] at hp; cases hp
  | box id off =>
    simp only [placeAt] at hp
    have ho := R.obj id
    obtain ⟨g, h1, h2⟩ := hx
    cases hh : h id with
    | box t l =>
      rw [hh] at hp ho
      cases hp
      obtain ⟨g', cs, e, hg, hs, hc⟩ := ho
      rw [h1] at e
      cases e
      refine ⟨_, h2, fun q hq => ?_⟩
      have hlt : off + q < l.length := by omega
      obtain ⟨cv, c1, c2, c3⟩ := hc (off + q) l[off + q] (List.getElem?_eq_getElem hlt)
      refine ⟨cv, ?_, c2, ?_⟩
      · rw [addr_add, addr_lit, Nat.zero_add, cell_of_row w g _ cs t (0, 0) hg]; exact c1
      · simpa [List.getD, List.getElem?_eq_getElem hlt] using c3
    | _ => rw [hh] at hp; cases hp
  | _ => cases hp

/-- What an operation leaves: a value; the world may have changed. -/
def Out (C : Ctx) (a : Act) (w : World) (s : Sem Value) (K : Env → Heap → AV → Prop) : Prop :=
  ∃ v w' ι' env' h' x, s.run C.P w = .ok v w' ∧ Rel C env' h' ι' a w' ∧ VR w' (okB C h' ι' w') x (rf h' ι') v ∧ K env' h' x

section
variable {C : Ctx} {env : Env} {h : Heap} {ι : Loc} {a : Act} {w : World}

theorem Out.same (R : Rel C env h ι a w) {s : Sem Value} {K : Env → Heap → AV → Prop} {x : AV} {v : Value} (hk : K env h x) (hr : s.run C.P w = .ok v w)
    (hv : VR w (okB C h ι w) x (rf h ι) v) : Out C a w s K := ⟨v, w, ι, env, h, x, hr, R, hv, hk⟩

/-! ### load -/
def aload (P : TT) (h : Heap) (t : TypeId) (x : AV) (K : AV → Prop) (stop : Prop) : Prop :=
  match placeAt h x, isAggT P t with
  | some (m, get), some true => force (P.cellsOf t) (fun s => cond (Nat.ble s m) (K (.agg s get)) stop) stop
  | some (m, get), some false => cond (Nat.blt 0 m) (K (get 0)) stop
  | _, _ => stop

theorem aload_ok (R : Rel C env h ι a w) {t : TypeId} {x : AV} {v : Value} {K : Env → Heap → AV → Prop} {stop : Prop} (hx : VR w (okB C h ι w) x (rf h ι) v)
    (hk : aload C.T h t x (K env h) stop) : stop ∨ Out C a w (Instr.loadAt t v) K := by
  unfold aload at hk
  split at hk
  · rename_i m get hp ht
    rcases force_ok hk with hk | hk
    · cases hb : Nat.ble (C.T.cellsOf t) m with
      | false => rw [hb] at hk; exact .inl hk
      | true =>
        rw [hb] at hk
        have hle : C.T.cellsOf t ≤ m := Nat.ble_eq ▸ hb
        obtain ⟨ad, rfl, hc⟩ := placeAt_ok R hp hx
        refine .inr (Out.same R hk (v := .agg ((List.range (C.T.cellsOf t)).map fun j => (w.cell? (ad.add j)).getD undef).toArray) ?_ ⟨_, rfl, by simp, fun j hj => ?_⟩)
        · simp only [Instr.loadAt, Instr.sureAddr, Sem.run_bind, Sem.run_pure, Result.andThen_ok]
          exact run_loadVar_agg ht _ (fun j hj => by obtain ⟨cv, c1, _⟩ := hc j (by omega); rw [c1]; rfl)
        · obtain ⟨cv, c1, c2, c3⟩ := hc j (by omega)
          exact ⟨cv, by simp [hj, c1], c2, c3⟩
    · exact .inl hk
  · rename_i m get hp ht
    cases hb : Nat.blt 0 m with
    | false => rw [hb] at hk; exact .inl hk
    | true =>
      rw [hb] at hk
      have hlt : 0 < m := by simpa [Nat.blt_eq] using hb
      obtain ⟨ad, rfl, hc⟩ := placeAt_ok R hp hx
      obtain ⟨cv, c1, c2, c3⟩ := hc 0 hlt
      refine .inr (Out.same R hk (v := cv) ?_ c3)
      simp only [Instr.loadAt, Instr.sureAddr, Sem.run_bind, Sem.run_pure, Result.andThen_ok]
      exact run_loadVar_one ht (by simpa [Addr.add] using c1)
  · exact .inl hk

/-! ### the place of a field, an element -/
def fieldOf (P : TT) (s : TypeId) (f : Nat) : Option (Nat × TypeId) :=
  match P.underlying s with
  | some (.struct fs) => (fs.toList[f]?).map fun F => (F.offset, F.type)
  | _ => none

def moved (x : AV) (o : Nat) : Option AV :=
  match x with
  | .iadr m get => some (.iadr (m - o) (fun q => get (o + q)))
  | .radr id sz i j => some (.radr id sz i (j + o))
  | .box id off => some (.box id (off + o))
  | .madr id i sz a b => some (.madr id i sz a (b + o))
  | _ => none

theorem moved_ok {x : AV} {v : Value} {o : Nat} {y : AV} (hm : moved x o = some y) (hx : VR w (okB C h ι w) x (rf h ι) v) :
    ∃ ad, v = .pointer (some ad) ∧ VR w (okB C h ι w) y (rf h ι) (.pointer (some (ad.add o))) := by
  cases x with
  | iadr m get =>
    cases hm
    obtain ⟨ad, e, hb, hc⟩ := hx
    refine ⟨ad, e, ⟨_, rfl, by rw [addr_block]; exact hb, fun j hj => ?_⟩⟩
    rw [addr_add]
    exact hc (o + j) (by omega)
  | radr id sz i j =>
    cases hm
    obtain ⟨g, n, c, h1, h2, h3⟩ := hx
    exact ⟨_, h2, ⟨g, n, c, h1, by rw [addr_add, Nat.add_assoc], h3⟩⟩
  | box id off =>
    cases hm
    obtain ⟨g, h1, h2⟩ := hx
    exact ⟨_, h2, ⟨g, h1, by rw [addr_add]⟩⟩
  | madr id i sz p q =>
    cases hm
    obtain ⟨g, n, c, h1, h2, h3⟩ := hx
    exact ⟨_, h2, ⟨g, n, c, h1, by rw [addr_add, Nat.add_assoc], h3⟩⟩
  | _ => cases hm

def afieldAddr (P : TT) (s : TypeId) (x : AV) (f : Nat) (K : AV → Prop) (stop : Prop) : Prop :=
  match fieldOf P s f with
  | some (o, t) => match P.underlying t with
    | some _ => cond (Nat.blt 0 (P.cellsOf t)) (force o (fun o => match moved x o with | some y => K y | none => stop) stop) stop
    | none => stop
  | none => stop

theorem afieldAddr_ok (R : Rel C env h ι a w) {s : TypeId} {f : Nat} {x : AV} {v : Value} {K : Env → Heap → AV → Prop} {stop : Prop} (hx : VR w (okB C h ι w) x (rf h ι) v)
    (hk : afieldAddr C.T s x f (K env h) stop) : stop ∨ Out C a w (Instr.fieldAt s v f) K := by
  unfold afieldAddr at hk
  split at hk
  · rename_i o t hf
    split at hk
    · rename_i d hd
      cases hb : Nat.blt 0 (C.T.cellsOf t) with
      | false => rw [hb] at hk; exact .inl hk
      | true =>
        rw [hb, cond_true] at hk
        rcases force_ok hk with hk | hk
        · split at hk
          · rename_i y hm
            obtain ⟨ad, rfl, hy⟩ := moved_ok hm hx
            refine .inr (Out.same R hk ?_ hy)
            have hp0 : 0 < C.T.cellsOf t := by simpa [Nat.blt_eq] using hb
            have hpos : ¬ C.T.cellsOf t = 0 := by omega
            unfold fieldOf at hf
            split at hf
            · rename_i fs hu
              cases hq : fs.toList[f]? with
              | none => rw [hq] at hf; cases hf
              | some F =>
                rw [hq] at hf; cases hf
                have hq' : fs[f]? = some F := by simpa using hq
                simp [Instr.fieldAt, run_und hu, hq', Instr.sureAddr, fieldPlace, run_sizeOf hd, hpos]
            · cases hf
          · exact .inl hk
        · exact .inl hk
    · exact .inl hk
  · exact .inl hk

/-- The q-th cell of the i-th element. -/
def idx (i sz q : Nat) : Nat := match sz, q with
  | 1, 0 => i
  | sz, q => i * sz + q
theorem idx_eq (i sz q : Nat) : idx i sz q = i * sz + q := by
  unfold idx
  split
  · simp
  · rfl
def aindexAddr (P : TT) (h : Heap) (t : TypeId) (x ix : AV) (K : AV → Prop) (stop : Prop) : Prop :=
  match P.underlying t, ix with
  | some (.slice e), .int _ i => match P.underlying e with
    | some _ => match x with
      | .sl n sz get => cond (Nat.beq (P.cellsOf e) sz) (Need (0 ≤ i ∧ i < n) (K (.iadr sz (get i.toNat)))) stop
      | .row id => match h id with
        | .row _ sz n _ => cond (Nat.beq (P.cellsOf e) sz) (Need (0 ≤ i ∧ i < n) (K (.radr id sz i.toNat 0))) stop
        | .mat _ sz n _ _ _ _ _ _ _ => cond (Nat.beq (P.cellsOf e) sz) (Need (0 ≤ i ∧ i < n) (K (.radr id sz i.toNat 0))) stop
        | _ => stop
      | .mrow id k => match h id with
        | .mat _ _ _ _ _ _ szi len _ _ => cond (Nat.beq (P.cellsOf e) szi) (Need (0 ≤ i ∧ i < len k) (K (.madr id k szi i.toNat 0))) stop
        | _ => stop
      | _ => stop
    | none => stop
  | some (.array len e), .int _ i => match P.underlying e with
    | some _ => match x with
      | .iadr m get => cond (Nat.beq m (len * P.cellsOf e)) (Need (0 ≤ i ∧ i < len) (force (P.cellsOf e) (fun sz => K (.iadr sz (fun q => get (idx i.toNat sz q)))) stop)) stop
      | .box id off => Need (0 ≤ i ∧ i < len) (force (P.cellsOf e) (fun sz => K (.box id (off + idx i.toNat sz 0))) stop)
      | _ => stop
    | none => stop
  | _, _ => stop

theorem aindexAddr_ok (R : Rel C env h ι a w) {t : TypeId} {x ix : AV} {v u : Value} {K : Env → Heap → AV → Prop} {stop : Prop} (hx : VR w (okB C h ι w) x (rf h ι) v)
    (hi : VR w (okB C h ι w) ix (rf h ι) u) (hk : aindexAddr C.T h t x ix (K env h) stop) : stop ∨ Out C a w (Instr.indexAt t v u) K := by
  unfold aindexAddr at hk
  split at hk
  · rename_i e k i hu
    have hui : u = .int k i := hi
    subst hui
    split at hk
    · rename_i d hd
      split at hk
      · rename_i n sz get
        cases hb : Nat.beq (C.T.cellsOf e) sz with
        | false => rw [hb] at hk; exact .inl hk
        | true =>
          rw [hb] at hk
          have hsz : C.T.cellsOf e = sz := Nat.eq_of_beq_eq_true hb
          obtain ⟨⟨h0, h1⟩, hk⟩ := hk
          obtain ⟨A, c, rfl, hnc, hc, _, hcells⟩ := hx
          obtain ⟨ad, rfl, hbk, hcs⟩ := hcells (by omega)
          refine .inr (Out.same R hk (v := .pointer (some (ad.add (i.toNat * sz)))) ?_ ⟨_, rfl, by rw [addr_block]; exact hbk, fun j hj => ?_⟩)
          · simp [Instr.indexAt, asIntOf, run_und hu, h0, h1, run_sizeOf hd, hsz]
          · rw [addr_add]
            exact hcs i.toNat j (by omega) hj
      · rename_i id
        split at hk
        · rename_i e' sz n get hh
          cases hb : Nat.beq (C.T.cellsOf e) sz with
          | false => rw [hb] at hk; exact .inl hk
          | true =>
            rw [hb] at hk
            have hsz : C.T.cellsOf e = sz := Nat.eq_of_beq_eq_true hb
            obtain ⟨⟨h0, h1⟩, hk⟩ := hk
            have ho := R.obj id
            rw [hh] at ho
            obtain ⟨xs, hown, hone, hcells⟩ := ho
            have hvv : v = ι id 0 := hx
            rcases hown.2 with ⟨_, hn0⟩ | ⟨g, cap, cur, hv, hB, hg, hnc, hcap, hcs, htake⟩
            · omega
            · refine .inr (Out.same R hk (v := .pointer (some ((⟨g, 0, none⟩ : Addr).add (i.toNat * sz)))) ?_ ⟨g, n, cap, hv, by rw [Nat.add_zero], ?_⟩)
              · rw [hvv, hv]
                simp [Instr.indexAt, asIntOf, run_und hu, h0, h1, run_sizeOf hd, hsz]
              · rw [hh]; exact ⟨rfl, by omega⟩
        · rename_i e' sz n get0 o ei szi len get hole hh
          cases hb : Nat.beq (C.T.cellsOf e) sz with
          | false => rw [hb] at hk; exact .inl hk
          | true =>
            rw [hb] at hk
            have hsz : C.T.cellsOf e = sz := Nat.eq_of_beq_eq_true hb
            obtain ⟨⟨h0, h1⟩, hk⟩ := hk
            have ho := R.obj id
            rw [hh] at ho
            obtain ⟨_, ⟨xs, hown, hone, _⟩, _⟩ := ho
            have hvv : v = ι id 0 := hx
            rcases hown.2 with ⟨_, hn0⟩ | ⟨g, cap, cur, hv, hB, hg, hnc, hcap, hcs, htake⟩
            · omega
            · refine .inr (Out.same R hk (v := .pointer (some ((⟨g, 0, none⟩ : Addr).add (i.toNat * sz)))) ?_ ⟨g, n, cap, hv, by rw [Nat.add_zero], ?_⟩)
              · rw [hvv, hv]
                simp [Instr.indexAt, asIntOf, run_und hu, h0, h1, run_sizeOf hd, hsz]
              · rw [hh]; exact ⟨rfl, by omega⟩
        · exact .inl hk
      · rename_i id k0
        split at hk
        · rename_i e' sz n get0 o ei szi len get hole hh
          cases hb : Nat.beq (C.T.cellsOf e) szi with
          | false => rw [hb] at hk; exact .inl hk
          | true =>
            rw [hb] at hk
            have hsz : C.T.cellsOf e = szi := Nat.eq_of_beq_eq_true hb
            obtain ⟨⟨h0, h1⟩, hk⟩ := hk
            have ho := R.obj id
            obtain ⟨hvv, h3⟩ := hx
            rw [hh] at ho h3
            obtain ⟨_, _, hrows, _⟩ := ho
            obtain ⟨_, ys, hy, hy1, hyc⟩ := hrows k0 h3.1 h3.2
            rcases hy.2 with ⟨_, hn0⟩ | ⟨g, cap, cur, hv, hB, hg, hnc, hcap, hcs, htake⟩
            · omega
            · refine .inr (Out.same R hk (v := .pointer (some ((⟨g, 0, none⟩ : Addr).add (i.toNat * szi)))) ?_ ⟨g, _, cap, hv, by rw [Nat.add_zero], ?_⟩)
              · rw [hvv, hv]
                simp [Instr.indexAt, asIntOf, run_und hu, h0, h1, run_sizeOf hd, hsz]
              · rw [hh]; exact ⟨rfl, h3.1, h3.2, by omega⟩
        · exact .inl hk
      · exact .inl hk
    · exact .inl hk
  · rename_i len e k i hu
    have hui : u = .int k i := hi
    subst hui
    split at hk
    · rename_i d hd
      split at hk
      · rename_i m get
        cases hb : Nat.beq m (len * C.T.cellsOf e) with
        | false => rw [hb] at hk; exact .inl hk
        | true =>
          rw [hb] at hk
          have hm : m = len * C.T.cellsOf e := Nat.eq_of_beq_eq_true hb
          obtain ⟨⟨h0, h1⟩, hk⟩ := hk
          rcases force_ok hk with hk | hk
          case inr => exact .inl hk
          obtain ⟨ad, rfl, hbk, hcs⟩ := hx
          refine .inr (Out.same R hk (v := .pointer (some (ad.add (i.toNat * C.T.cellsOf e)))) ?_ ⟨_, rfl, by rw [addr_block]; exact hbk, fun j hj => ?_⟩)
          · simp [Instr.indexAt, Instr.sureAddr, asIntOf, run_und hu, h0, h1, run_sizeOf hd]
          · rw [addr_add]
            show ∃ cv, _ = some cv ∧ _ ∧ VR w (okB C h ι w) (get (idx i.toNat (C.T.cellsOf e) j)) noref cv
            rw [idx_eq]
            refine hcs _ ?_
            rw [hm]
            have h2 : i.toNat + 1 ≤ len := by omega
            have h3 := Nat.mul_le_mul_right (C.T.cellsOf e) h2
            rw [Nat.add_mul] at h3
            omega
      · rename_i id off
        obtain ⟨⟨h0, h1⟩, hk⟩ := hk
        rcases force_ok hk with hk | hk
        case inr => exact .inl hk
        obtain ⟨g, h2, rfl⟩ := hx
        refine .inr (Out.same R hk (v := .pointer (some (((⟨g, 0, none⟩ : Addr).add off).add (i.toNat * C.T.cellsOf e)))) ?_ ⟨g, h2, by rw [addr_add, idx_eq, Nat.add_zero]⟩)
        simp [Instr.indexAt, Instr.sureAddr, asIntOf, run_und hu, h0, h1, run_sizeOf hd]
      · exact .inl hk
    · exact .inl hk
  · exact .inl hk

/-! ### parts of values -/
def apart (P : TT) (t : TypeId) (n : Nat) (get : Nat → AV) (o : Nat) (K : AV → Prop) (stop : Prop) : Prop :=
  match isAggT P t with
  | some true => force (P.cellsOf t) (fun s => cond (Nat.ble (o + s) n) (K (.agg s (fun q => get (o + q)))) stop) stop
  | some false => cond (Nat.blt o n) (K (get o)) stop
  | none => stop

theorem apart_ok (R : Rel C env h ι a w) {t : TypeId} {n : Nat} {get : Nat → AV} {o : Nat} {cs : Array Value} {K : Env → Heap → AV → Prop} {stop : Prop}
    (hs : cs.size = n) (hc : ∀ j, j < n → ∃ cv, cs[j]? = some cv ∧ cv.oneCell' = true ∧ VR w (okB C h ι w) (get j) (rf h ι) cv)
    (hk : apart C.T t n get o (K env h) stop) : stop ∨ Out C a w (part t cs o) K := by
  unfold apart at hk
  split at hk
  · rename_i ht
    obtain ⟨d, hd⟩ := isAggT_und ht
    rcases force_ok hk with hk | hk
    · cases hb : Nat.ble (o + C.T.cellsOf t) n with
      | false => rw [hb] at hk; exact .inl hk
      | true =>
        rw [hb] at hk
        have hle : o + C.T.cellsOf t ≤ n := Nat.ble_eq ▸ hb
        refine .inr (Out.same R hk (v := .agg (cs.extract o (o + C.T.cellsOf t))) (by simp [part, run_isAgg ht, run_sizeOf hd]) ⟨_, rfl, by simp; omega, fun j hj => ?_⟩)
        obtain ⟨cv, c1, c2, c3⟩ := hc (o + j) (by omega)
        exact ⟨cv, by rw [Array.getElem?_extract]; rw [if_pos (by omega)]; exact c1, c2, c3⟩
    · exact .inl hk
  · rename_i ht
    cases hb : Nat.blt o n with
    | false => rw [hb] at hk; exact .inl hk
    | true =>
      rw [hb] at hk
      have hlt : o < n := by simpa [Nat.blt_eq] using hb
      obtain ⟨cv, c1, c2, c3⟩ := hc o hlt
      exact .inr (Out.same R hk (v := cv) (by simp [part, run_isAgg ht, c1]) c3)
  · exact .inl hk

def afield (P : TT) (s : TypeId) (x : AV) (f : Nat) (K : AV → Prop) (stop : Prop) : Prop :=
  match fieldOf P s f, x with
  | some (o, t), .agg n get => force o (fun o => apart P t n get o K stop) stop
  | _, _ => stop

theorem afield_ok (R : Rel C env h ι a w) {s : TypeId} {f : Nat} {x : AV} {v : Value} {K : Env → Heap → AV → Prop} {stop : Prop} (hx : VR w (okB C h ι w) x (rf h ι) v)
    (hk : afield C.T s x f (K env h) stop) : stop ∨ Out C a w (Instr.field s v f) K := by
  unfold afield at hk
  split at hk
  · rename_i o t n get hf
    obtain ⟨cs, rfl, hs, hc⟩ := hx
    rcases force_ok hk with hk | hk
    · rcases apart_ok R hs hc hk with hk | hk
      · exact .inl hk
      · refine .inr ?_
        unfold fieldOf at hf
        split at hf
        · rename_i fs hu
          cases hq : fs.toList[f]? with
          | none => rw [hq] at hf; cases hf
          | some F =>
            rw [hq] at hf; cases hf
            have hq' : fs[f]? = some F := by simpa using hq
            obtain ⟨v', w', ι', env', h', x', hr, rest⟩ := hk
            exact ⟨v', w', ι', env', h', x', by simp [Instr.field, run_und hu, hq', asAgg, hr], rest⟩
        · cases hf
    · exact .inl hk
  · exact .inl hk

def aextract (x : AV) (i : Nat) (K : AV → Prop) (stop : Prop) : Prop :=
  match x with
  | .tup n get => cond (Nat.blt i n) (K (get i)) stop
  | _ => stop

theorem aextract_ok (R : Rel C env h ι a w) {i : Nat} {x : AV} {v : Value} {K : Env → Heap → AV → Prop} {stop : Prop} (hx : VR w (okB C h ι w) x (rf h ι) v)
    (hk : aextract x i (K env h) stop) : stop ∨ Out C a w (Instr.extract v i) K := by
  unfold aextract at hk
  split at hk
  · rename_i n get
    obtain ⟨cs, rfl, hs, hc⟩ := hx
    cases hb : Nat.blt i n with
    | false => rw [hb] at hk; exact .inl hk
    | true =>
      rw [hb] at hk
      have hlt : i < n := by simpa [Nat.blt_eq] using hb
      obtain ⟨cv, c1, c3⟩ := hc i hlt
      exact .inr (Out.same R hk (v := cv) (by simp [Instr.extract, c1]) c3)
  · exact .inl hk

/-- The byte at a place of a text. -/
def bt (s : ByteArray) (n : Nat) : Int := ((s.data.toList.getD n 0).toNat : Int)

def aindex (P : TT) (t : TypeId) (x ix : AV) (K : AV → Prop) (stop : Prop) : Prop :=
  match P.underlying t, x, ix with
  | some .string, .str s, .int _ i => Need (0 ≤ i ∧ i < s.size) (K (.int .u8 (bt s i.toNat)))
  | some (.array len e), .agg n get, .int _ i => match P.underlying e with
    | some _ => cond (Nat.beq n (len * P.cellsOf e)) (Need (0 ≤ i ∧ i < len) (apart P e n get (i.toNat * P.cellsOf e) K stop)) stop
    | none => stop
  | _, _, _ => stop

theorem aindex_ok (R : Rel C env h ι a w) {t : TypeId} {x ix : AV} {v u : Value} {K : Env → Heap → AV → Prop} {stop : Prop} (hx : VR w (okB C h ι w) x (rf h ι) v)
    (hi : VR w (okB C h ι w) ix (rf h ι) u) (hk : aindex C.T t x ix (K env h) stop) : stop ∨ Out C a w (Instr.index t v u) K := by
  unfold aindex at hk
  split at hk
  · rename_i s k i hu
    have hui : u = .int k i := hi
    subst hui
    obtain ⟨rfl, hs⟩ : v = .string s ∧ s.size ≤ maxLen := hx
    obtain ⟨⟨h0, h1⟩, hk⟩ := hk
    have hlt : i.toNat < s.size := by omega
    refine .inr (Out.same R hk (v := .int .u8 (bt s i.toNat)) ?_ rfl)
    have hg : s[i.toNat]? = some s[i.toNat] := ByteArray.getElem?_lt' s _ hlt
    have hb : bt s i.toNat = (s[i.toNat].toNat : Int) := by
      unfold bt
      have : i.toNat < s.data.toList.length := by simpa using hlt
      rw [List.getD, List.getElem?_eq_getElem this]
      rfl
    simp [Instr.index, asIntOf, run_und hu, h0, hg, hb]
  · rename_i len e n get k i hu
    have hui : u = .int k i := hi
    subst hui
    obtain ⟨cs, rfl, hs, hc⟩ := hx
    split at hk
    · rename_i d hd
      cases hb : Nat.beq n (len * C.T.cellsOf e) with
      | false => rw [hb] at hk; exact .inl hk
      | true =>
        rw [hb] at hk
        obtain ⟨⟨h0, h1⟩, hk⟩ := hk
        rcases apart_ok R hs hc hk with hk | hk
        · exact .inl hk
        · obtain ⟨v', w', ι', env', h', x', hr, rest⟩ := hk
          exact .inr ⟨v', w', ι', env', h', x', by simp [Instr.index, asIntOf, run_und hu, h0, h1, run_sizeOf hd, hr], rest⟩
    · exact .inl hk
  · exact .inl hk

/-! ### len -/
def alen (P : TT) (h : Heap) (t : TypeId) (x : AV) (K : AV → Prop) (stop : Prop) : Prop :=
  match P.underlying t, x with
  | some .string, .str s => Know (s.size ≤ 9223372036854775807) (K (.int .i64 s.size))
  | some (.slice _), .sl n _ _ => Know (n ≤ 9223372036854775807) (K (.int .i64 n))
  | some (.slice _), .nils => K (.int .i64 0)
  | some (.slice _), .row id => match h id with
    | .row _ _ n _ => Know (n ≤ 9223372036854775807) (K (.int .i64 n))
    | .mat _ _ n _ _ _ _ _ _ _ => Know (n ≤ 9223372036854775807) (K (.int .i64 n))
    | _ => stop
  | some (.slice _), .mrow id i => match h id with
    | .mat _ _ _ _ _ _ _ len _ _ => Know (len i ≤ 9223372036854775807) (K (.int .i64 (len i)))
    | _ => stop
  | some (.map _ _), .obj id => match h id with
    | .mp m => K (.int .i64 m.size)
    | _ => stop
  | _, _ => stop

theorem alen_ok (R : Rel C env h ι a w) {t : TypeId} {x : AV} {v : Value} {K : Env → Heap → AV → Prop} {stop : Prop} (ty : TypeId) (hx : VR w (okB C h ι w) x (rf h ι) v)
    (hk : alen C.T h t x (K env h) stop) : stop ∨ Out C a w (Builtin.len_ #[t] ty #[v]) K := by
  unfold alen at hk
  split at hk
  · rename_i s hu
    obtain ⟨rfl, hs⟩ : v = .string s ∧ s.size ≤ maxLen := hx
    exact .inr (Out.same R (hk.h hs) (by simp [Builtin.len_, run_und hu]; rfl) rfl)
  · rename_i e n sz get hu
    obtain ⟨A, c, rfl, hnc, hc, _, _⟩ := hx
    exact .inr (Out.same R (hk.h (by simp only [maxLen] at hc; omega)) (by simp [Builtin.len_, run_und hu]; rfl) rfl)
  · rename_i e hu
    have hv : v = .slice none 0 0 := hx
    subst hv
    exact .inr (Out.same R hk (by simp [Builtin.len_, run_und hu]; rfl) rfl)
  · rename_i e id hu
    split at hk
    · rename_i e' sz n get hh
      have ho := R.obj id
      rw [hh] at ho
      obtain ⟨xs, hown, hone, hcells⟩ := ho
      have hvv : v = ι id 0 := hx
      rcases hown.2 with ⟨hv, hn0⟩ | ⟨g, cap, cur, hv, hB, hg, hnc, hcap, hcs, htake⟩
      · rw [hvv, hv]; subst hn0
        exact .inr (Out.same R (hk.h (by omega)) (by simp [Builtin.len_, run_und hu]; rfl) rfl)
      · rw [hvv, hv]
        exact .inr (Out.same R (hk.h (by simp only [maxLen] at hcap; omega)) (by simp [Builtin.len_, run_und hu]; rfl) rfl)
    · rename_i e' sz n get0 o ei szi len get hole hh
      have ho := R.obj id
      rw [hh] at ho
      obtain ⟨_, ⟨xs, hown, hone, _⟩, _⟩ := ho
      have hvv : v = ι id 0 := hx
      rcases hown.2 with ⟨hv, hn0⟩ | ⟨g, cap, cur, hv, hB, hg, hnc, hcap, hcs, htake⟩
      · rw [hvv, hv]; subst hn0
        exact .inr (Out.same R (hk.h (by omega)) (by simp [Builtin.len_, run_und hu]; rfl) rfl)
      · rw [hvv, hv]
        exact .inr (Out.same R (hk.h (by simp only [maxLen] at hcap; omega)) (by simp [Builtin.len_, run_und hu]; rfl) rfl)
    · exact .inl hk
  · rename_i e id k0 hu
    split at hk
    · rename_i e' sz n get0 o ei szi len get hole hh
      have ho := R.obj id
      obtain ⟨hvv, h3⟩ := hx
      rw [hh] at ho h3
      obtain ⟨_, _, hrows, _⟩ := ho
      obtain ⟨_, ys, hy, hy1, hyc⟩ := hrows k0 h3.1 h3.2
      rcases hy.2 with ⟨hv, hn0⟩ | ⟨g, cap, cur, hv, hB, hg, hnc, hcap, hcs, htake⟩
      · rw [hvv, hv]
        exact .inr (Out.same R (hk.h (by omega)) (by simp [Builtin.len_, run_und hu]; rfl) (by rw [hn0]; rfl))
      · rw [hvv, hv]
        exact .inr (Out.same R (hk.h (by simp only [maxLen] at hcap; omega)) (by simp [Builtin.len_, run_und hu]; rfl) rfl)
    · exact .inl hk
  · rename_i kt vt id hu
    split at hk
    · rename_i m hh
      have ho := R.obj id
      rw [hh] at ho
      obtain ⟨g, es, clock, hv, hg, he⟩ := ho
      have hvv : v = ι id 0 := hx
      have hsz : es.size = m.size := by rw [← m.size_eq, ← he]; simp
      refine .inr (Out.same R hk ?_ rfl)
      rw [hvv, hv]
      simp [Builtin.len_, run_und hu, MapKept.run_getObj_map hg, hsz]; rfl
    · exact .inl hk
  · exact .inl hk
end

end Go.Proofs.YtfodjmemdkibpaaDoor.V
