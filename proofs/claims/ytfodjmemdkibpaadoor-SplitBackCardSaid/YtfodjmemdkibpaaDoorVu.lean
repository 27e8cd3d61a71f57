/-
More words: lists of lists, each one's own; small helps for the walks' leaves.
-/
import Derived.Test.YtfodjmemdkibpaaDoorVs
namespace Go.Proofs.YtfodjmemdkibpaaDoor.V
open Go Go.RowKit
set_option linter.unusedSimpArgs false
set_option linter.unusedVariables false

/-- Lists of lists, each one's own. -/
def Ty.M {α : Type} (T : Ty α) (eo ei : Nat) (ls : List (List α)) : MO := .mat eo 1 ls.length (fun _ _ => .u) 0 ei T.sz (fun i => (ls.getD i []).length) (fun i a b => T.G (ls.getD i []) a b) none

theorem MOle.mat' {e sz n o ei szi : Nat} {g0 g0' : Nat → Nat → AV} {len len' : Nat → Nat} {g g' : Nat → Nat → Nat → AV} {hole : Option Nat} {n' : Nat} (hn : n = n') (h0 : ∀ i j, i < n → j < sz → j ≠ o → Le (g0 i j) (g0' i j))
    (h : ∀ i, i < n → hole ≠ some i → len i = len' i ∧ ∀ a b, a < len i → b < szi → Le (g i a b) (g' i a b)) : MOle (.mat e sz n g0 o ei szi len g hole) (.mat e sz n' g0' o ei szi len' g' hole) := ⟨rfl, rfl, hn, rfl, rfl, rfl, rfl, h0, h⟩

theorem Ty.M_nils {α : Type} (T : Ty α) (eo ei n : Nat) (g0 : Nat → Nat → AV) (g : Nat → Nat → Nat → AV) : MOle (.mat eo 1 n g0 0 ei T.sz (fun _ => 0) g none) (T.M eo ei (List.replicate n [])) := by
  refine MOle.mat' (by simp) (fun i j hi hj hne => absurd hj (by omega)) (fun i hi _ => ⟨?_, fun a b ha => absurd ha (Nat.not_lt_zero _)⟩)
  simp [List.getD, hi]

theorem Ty.M_plug {α : Type} (T : Ty α) (eo ei : Nat) (ls : List (List α)) (i m : Nat) (l : List α) (g0 : Nat → Nat → AV) (getq : Nat → Nat → AV) (hi : i < ls.length) (hm : m = l.length) (hg : ∀ a b, a < m → b < T.sz → Le (getq a b) (T.G l a b)) :
    MOle (.mat eo 1 ls.length g0 0 ei T.sz (updIn (fun i => (ls.getD i []).length) i m) (updIn (fun i a b => T.G (ls.getD i []) a b) i getq) none) (T.M eo ei (ls.set i l)) := by
  refine MOle.mat' (by simp) (fun i j hi hj hne => absurd hj (by omega)) (fun k hk _ => ?_)
  by_cases e : k = i
  · subst e
    have e1 : (ls.set k l).getD k [] = l := by simp [List.getD, hi]
    rw [e1]
    exact ⟨by simp [updIn, hm], fun a b ha hb => by simp only [updIn, if_true] at ha ⊢; exact hg a b ha hb⟩
  · have e1 : (ls.set i l).getD k [] = ls.getD k [] := by simp [List.getD, List.getElem?_set_ne (Ne.symm e)]
    rw [e1]
    exact ⟨by simp [updIn, e], fun a b ha hb => by simp only [updIn, if_neg e]; exact Le.refl _⟩

theorem Ty.M_set {α : Type} (T : Ty α) (eo ei : Nat) (ls : List (List α)) (i a : Nat) (x : α) (cs : List AV) (g0 : Nat → Nat → AV) (ha : a < (ls.getD i []).length) (hcs : cs.length = T.sz) (hc : ∀ (j : Nat) y, cs[j]? = some y → Le y (T.enc x j)) :
    MOle (.mat eo 1 ls.length g0 0 ei T.sz (fun i => (ls.getD i []).length) (updIn (fun i a b => T.G (ls.getD i []) a b) i (updRow (T.G (ls.getD i [])) a 0 cs)) none) (T.M eo ei (ls.set i ((ls.getD i []).set a x))) := by
  refine MOle.mat' (by simp) (fun i j hi hj hne => absurd hj (by omega)) (fun k hk _ => ?_)
  by_cases e : k = i
  · subst e
    have e1 : (ls.set k ((ls.getD k []).set a x)).getD k [] = (ls.getD k []).set a x := by simp [List.getD, hk]
    rw [e1]
    refine ⟨by simp, fun a' b ha' hb => ?_⟩
    simp only [updIn, if_true]
    have := (Ty.set T 0 (ls.getD k []) a x ha cs hcs hc).2.2.2 a' b ha' hb
    exact this
  · have e1 : (ls.set i ((ls.getD i []).set a x)).getD k [] = ls.getD k [] := by simp [List.getD, List.getElem?_set_ne (Ne.symm e)]
    rw [e1]
    exact ⟨rfl, fun a b ha hb => by simp only [updIn, if_neg e]; exact Le.refl _⟩

/-- Lists of lists that are only read. -/
def tL {α : Type} (T : Ty α) : Ty (List α) := ⟨1, fun l _ => T.L l, []⟩
theorem Le.tt' {b : Bool} (h : b = true) : Le (.bool b) .tt := by subst h; exact fun _ _ _ _ h => h
theorem Le.ff' {b : Bool} (h : b = false) : Le (.bool b) .ff := by subst h; exact fun _ _ _ _ h => h
theorem Le.one {x y : AV} (h : Le x y) : ∀ (j : Nat) z, [x][j]? = some z → Le z y := by
  intro j z hz
  cases j with
  | zero => cases hz; exact h
  | succ j => cases hz

/-- Types whose values hold no memory. -/
def Ty.Flat {α : Type} (T : Ty α) : Prop := ∀ x j, j < T.sz → flat (T.enc x j) = true
theorem tI_flat : tI.Flat := fun _ _ _ => rfl
theorem tB_flat : tB.Flat := fun _ _ _ => rfl
theorem tS_flat : tS.Flat := fun _ _ _ => rfl
theorem Ty.R_flat {α : Type} {T : Ty α} (hT : T.Flat) {e : Nat} {l : List α} : FlatM (T.R e l) := fun i j _ hj => hT _ j hj
theorem Ty.M_flat {α : Type} {T : Ty α} (hT : T.Flat) {eo ei : Nat} {ls : List (List α)} : FlatM (T.M eo ei ls) := ⟨fun i j _ hj hne => absurd hj (by omega), fun i a b _ _ hb => hT _ b hb⟩
theorem flat_nil : ∀ m ∈ ([] : List MO), FlatM m := fun m hm => by cases hm
theorem flat_cons {m : MO} {l : List MO} (h1 : FlatM m) (h2 : ∀ m ∈ l, FlatM m) : ∀ x ∈ m :: l, FlatM x := fun x hx => by
  rcases List.mem_cons.mp hx with e | h
  · subst e; exact h1
  · exact h2 x h

/-! ### a list turned from its head on -/
def mapTo {α : Type} (f : α → α) (l : List α) (c : Nat) : List α := (l.take c).map f ++ l.drop c
theorem mapTo_zero {α : Type} (f : α → α) (l : List α) : mapTo f l 0 = l := by simp [mapTo]
theorem mapTo_len {α : Type} (f : α → α) (l : List α) (c : Nat) : (mapTo f l c).length = l.length := by
  simp only [mapTo, List.length_append, List.length_map, List.length_take, List.length_drop]; omega
theorem mapTo_all {α : Type} (f : α → α) (l : List α) : mapTo f l l.length = l.map f := by simp [mapTo]
theorem mapTo_at {α : Type} (f : α → α) (l : List α) (c : Nat) (d : α) (h : c < l.length) : (mapTo f l c).getD c d = l.getD c d := by
  unfold mapTo
  rw [List.getD, List.getElem?_append_right (by simp; omega)]
  simp [List.getD, Nat.min_eq_left (Nat.le_of_lt h)]
theorem mapTo_set {α : Type} (f : α → α) (l : List α) (c : Nat) (d : α) (h : c < l.length) : (mapTo f l c).set c (f (l.getD c d)) = mapTo f l (c + 1) := by
  refine List.ext_getElem (by rw [List.length_set, mapTo_len, mapTo_len]) fun i h1 h2 => ?_
  rw [List.getElem_set]
  rw [mapTo_len] at h2
  by_cases e : c = i
  · subst e
    rw [if_pos rfl]
    simp only [mapTo]
    rw [List.getElem_append_left (by simp; omega)]
    simp [List.getD, h]
  · rw [if_neg e]
    rcases Nat.lt_or_ge i c with h3 | h3
    · simp only [mapTo]
      rw [List.getElem_append_left (by simp; omega), List.getElem_append_left (by simp; omega)]
      simp
    · simp only [mapTo]
      rw [List.getElem_append_right (by simp; omega), List.getElem_append_right (by simp; omega)]
      simp only [List.getElem_drop, List.length_map, List.length_take]
      congr 1
      omega

/-! ### answers of several parts -/
def tupL (l : List AV) : AV := .tup l.length (fun j => l.getD j .u)
theorem ArgsLe.get {xs ys : List AV} (h : ArgsLe xs ys) (j : Nat) (hj : j < xs.length) : Le (xs.getD j .u) (ys.getD j .u) := by
  obtain ⟨h1, h2⟩ := h.at
  have hj2 : j < ys.length := by omega
  obtain ⟨x, hx, hle⟩ := h2 j ys[j] (List.getElem?_eq_getElem hj2)
  rw [List.getD, hx, List.getD, List.getElem?_eq_getElem hj2]
  exact hle
theorem Le.tupL {xs ys : List AV} (h : ArgsLe xs ys) : Le (V.tupL xs) (V.tupL ys) := by
  unfold V.tupL
  rw [h.at.1]
  exact Le.tup fun j hj => h.get j hj
theorem resT {env : Env} {h : Heap} {t u : Nat} {ts : List Nat} {ys : List AV} (hle : ArgsLe ((t :: u :: ts).map fun t => fz h (env t)) ys) : Le (fz h (resAV env (t :: u :: ts))) (V.tupL ys) := by
  have h1 := hle.at.1
  unfold V.tupL
  rw [h1, List.length_map]
  refine Le.tup fun j hj => ?_
  have := hle.get j (by simpa using hj)
  rw [List.getD, List.getElem?_map, List.getElem?_eq_getElem hj] at this
  show Le (fz h (env ((t :: u :: ts).getD j 0))) _
  rw [List.getD, List.getElem?_eq_getElem hj]
  exact this
theorem resF {env : Env} {ids : List Nat} {t u : Nat} {ts : List Nat} {ys : List AV} (hle : ArgsLe ((t :: u :: ts).map fun t => mapRef (memL ids) (idxL ids) (env t)) ys) : Le (mapRef (memL ids) (idxL ids) (resAV env (t :: u :: ts))) (V.tupL ys) := by
  have h1 := hle.at.1
  unfold V.tupL
  rw [h1, List.length_map]
  refine Le.tup fun j hj => ?_
  have := hle.get j (by simpa using hj)
  rw [List.getD, List.getElem?_map, List.getElem?_eq_getElem hj] at this
  show Le (mapRef (memL ids) (idxL ids) (env ((t :: u :: ts).getD j 0))) _
  rw [List.getD, List.getElem?_eq_getElem hj]
  exact this

/-- Code that several ways reach (behind a label): shown once, under whatever its items turn out to be. -/
theorem Run.cutAt {C : Ctx} {env : Env} {h : Heap} {k0 : List Item} (kk : List Item) (A : Ctx → List Item → Prop) (main : A C kk → Run C k0 env h) (g : A C kk) : Run C k0 env h := main g
/-- Behind a goto's label. -/
theorem Run.skipSeq {C : Ctx} {env : Env} {h : Heap} {c : Code} {k : List Item} (hr : Run C (.code c :: k) env h) : Run C (.code (.seq .skip c) :: k) env h := Run.quiet (fun b a cs w => step_seq) (Run.quiet (fun b a cs w => step_skip) hr)
/-- A function whose one answer is an aggregate that lies in a cell. -/
theorem Run.leaveC {C : Ctx} {env : Env} {h : Heap} {k : List Item} {fn : Func} {t : Nat} {ty : TypeId} {m : Nat} {get : Nat → AV} {r : AV} (hk : k = [] ∨ ∃ k', k = .code .ret :: k') (hR : C.R = Post C.S C.w0 r) (hf : C.P.funcs[C.f]? = some fn) (hres : fn.results = #[.cell t ty])
    (hp : placeAt h (env t) = some (m, get)) (hg : isAggT C.T ty = some true) (hm : C.T.cellsOf ty ≤ m) (hle : Le (fz h (.agg (C.T.cellsOf ty) get)) r) : Run C k env h := by
  refine ⟨fun ι a w b cs hb hkd R => ?_⟩
  obtain ⟨ad, had, hc⟩ := placeAt_ok R hp (R.env t)
  let v : Value := .agg ((List.range (C.T.cellsOf ty)).map fun j => (w.cell? (ad.add j)).getD undef).toArray
  have hv : VR w (okB C h ι w) (.agg (C.T.cellsOf ty) get) (rf h ι) v := by
    refine ⟨_, rfl, by simp, fun j hj => ?_⟩
    obtain ⟨cv, c1, c2, c3⟩ := hc j (by omega)
    exact ⟨cv, by simp [hj, c1], c2, c3⟩
  have hrun : (results fn a.tmps).run C.P w = .ok v w := by
    have hl : (loadVar ty ad).run C.P w = .ok v w := run_loadVar_agg hg _ (fun j hj => by obtain ⟨cv, c1, _⟩ := hc j (by omega); rw [c1]; rfl)
    have hm2 : (resM a.tmps (.cell t ty)).run C.P w = .ok v w := by
      show (asAddr (a.tmps.getD t undef) >>= fun ad => loadVar ty ad).run C.P w = _
      rw [had]
      simp only [asAddr, Sem.run_bind, Sem.run_pure, Result.andThen_ok]
      exact hl
    rw [results_eq, hres]
    have : (#[ResultVar.cell t ty].mapM (resM a.tmps)).run C.P w = .ok #[v] w := by
      rw [show (#[ResultVar.cell t ty] : Array ResultVar) = [ResultVar.cell t ty].toArray from rfl, List.mapM_toArray, Sem.run_map]
      simp only [List.mapM_cons, List.mapM_nil, Sem.run_bind, Sem.run_pure, Result.andThen_ok, hm2]
    rw [Sem.run_bind, this]
    rfl
  refine ⟨.returned _, w, { b.at a k with mode := .returning }, ?_, ?_, hb, rfl, R.defers, hkd, fn, by show C.P.funcs[b.fn]? = _; rw [hb]; exact hf, hrun⟩
  · rw [hR]
    refine ⟨_, rfl, R.below, ?_⟩
    refine hle _ _ _ _ (fz_ok R (fun b hb' => ⟨hb'.2.1, hb'.1⟩) (fun id hl g hg => ?_) _ _ hv)
    have := R.base id hl g hg
    exact ⟨.inr this.1, this.2⟩
  · rcases hk with rfl | ⟨k', rfl⟩
    · exact Steps.one step_end
    · exact Steps.one step_ret
end Go.Proofs.YtfodjmemdkibpaaDoor.V
