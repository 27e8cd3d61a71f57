/-
Literals of structs and slices, make, append, slicing, conversions, walks over a text.
-/
import Derived.Test.YtfodjmemdkibpaaDoorVe
namespace Go.Proofs.YtfodjmemdkibpaaDoor.V
open Go Go.RowKit
set_option linter.unusedSimpArgs false
set_option linter.unusedVariables false

section
variable {C : Ctx} {env : Env} {h : Heap} {ι : Loc} {a : Act} {w : World}

/-- Cells that are told by a list of abstract values. -/
def CL (w : World) (ok : Nat → Prop) (r : Ref) (cs : Array Value) (l : List AV) : Prop :=
  cs.size = l.length ∧ ∀ (j : Nat) (y : AV), l[j]? = some y → ∃ cv, cs[j]? = some cv ∧ cv.oneCell' = true ∧ VR w ok y r cv

theorem foldl_set (vs : List Value) : ∀ (k off : Nat) (cells : Array Value) (q : Nat), off + k + vs.length ≤ cells.size →
    ((vs.zipIdx k).foldl (fun cs (x : Value × Nat) => cs.setIfInBounds (off + x.2) x.1) cells)[q]? = if off + k ≤ q ∧ q < off + k + vs.length then vs[q - (off + k)]? else cells[q]? := by
  induction vs with
  | nil => intro k off cells q _; simp; intro h1 h2; omega
  | cons v vs ih =>
    intro k off cells q hle
    simp only [List.length_cons] at hle
    rw [List.zipIdx_cons, List.foldl_cons, ih (k + 1) off _ q (by simp; omega)]
    by_cases h0 : q = off + k
    · subst h0
      rw [if_neg (by omega), if_pos ⟨Nat.le_refl _, by simp⟩]
      have : off + k < cells.size := by omega
      simp [this]
    · by_cases h1 : off + (k + 1) ≤ q ∧ q < off + (k + 1) + vs.length
      · rw [if_pos h1, if_pos (by simp only [List.length_cons]; omega)]
        have : q - (off + k) = (q - (off + (k + 1))) + 1 := by omega
        rw [this, List.getElem?_cons_succ]
      · rw [if_neg h1, if_neg (by simp only [List.length_cons]; omega)]
        simp [Array.getElem?_setIfInBounds, Ne.symm h0]

theorem foldl_set_size (vs : List (Value × Nat)) : ∀ (off : Nat) (cells : Array Value), (vs.foldl (fun cs (x : Value × Nat) => cs.setIfInBounds (off + x.2) x.1) cells).size = cells.size := by
  induction vs with
  | nil => intro off cells; rfl
  | cons v vs ih => intro off cells; rw [List.foldl_cons, ih]; simp

theorem CL.set {ok : Nat → Prop} {r : Ref} {cs : Array Value} {l0 : List AV} {v : Value} {l : List AV} {off : Nat} (h0 : CL w ok r cs l0) (hv : CL w ok r v.cells l) (hle : off + l.length ≤ l0.length) :
    CL w ok r (v.cells.zipIdx.foldl (fun cs (x : Value × Nat) => cs.setIfInBounds (off + x.2) x.1) cs) (setL l0 off l) := by
  have hz : v.cells.zipIdx.foldl (fun cs (x : Value × Nat) => cs.setIfInBounds (off + x.2) x.1) cs = (v.cells.toList.zipIdx 0).foldl (fun cs (x : Value × Nat) => cs.setIfInBounds (off + x.2) x.1) cs := by
    rw [← Array.foldl_toList, Array.toList_zipIdx]
  rw [hz]
  have hvl : v.cells.toList.length = l.length := by simpa using hv.1
  refine ⟨by rw [foldl_set_size, h0.1]; simp [setL]; omega, fun j y hy => ?_⟩
  rw [foldl_set v.cells.toList 0 off cs j (by rw [hvl, h0.1]; omega)]
  unfold setL at hy
  rw [getElem?_three l0 l off j hle] at hy
  simp only [Nat.add_zero, hvl]
  split at hy
  · rename_i hin
    rw [if_pos hin]
    obtain ⟨cv, c1, c2⟩ := hv.2 _ _ hy
    exact ⟨cv, by simpa using c1, c2⟩
  · rename_i hin
    rw [if_neg hin]
    exact h0.2 _ _ hy

/-! ### struct values -/
def bparts (P : TT) (fs : List Field) : List (Nat × AV) → List AV → Option (List AV)
  | [], l => some l
  | (i, x) :: rest, l =>
    match fs[i]?, cellsAV x with
    | some F, some xs => match P.underlying F.type with
      | some _ => cond (Nat.beq xs.length (P.cellsOf F.type) && Nat.ble (F.offset + xs.length) l.length) (bparts P fs rest (setL l F.offset xs)) none
      | none => none
    | _, _ => none

theorem bparts_ok (R : Rel C env h ι a w) (fs : Array Field) (places : Array (Nat × Nat)) (hpl : ∀ (i : Nat) (F : Field), fs[i]? = some F → places[i]? = some (F.offset, C.T.cellsOf F.type)) :
    ∀ (parts : List (Nat × AV)) (vs : List (Nat × Value)) (l0 l : List AV) (cs : Array Value), parts.length = vs.length →
      (∀ (k : Nat) p q, parts[k]? = some p → vs[k]? = some q → p.1 = q.1 ∧ VR w (okB C h ι w) p.2 (rf h ι) q.2) →
      CL w (okB C h ι w) (rf h ι) cs l0 → bparts C.T fs.toList parts l0 = some l →
      ∃ cs', Instr.fill (places[·]?) cs vs = some cs' ∧ CL w (okB C h ι w) (rf h ι) cs' l := by
  intro parts
  induction parts with
  | nil =>
    intro vs l0 l cs hlen _ hcl hb
    cases vs with
    | nil => cases hb; exact ⟨cs, rfl, hcl⟩
    | cons _ _ => cases hlen
  | cons p parts ih =>
    intro vs l0 l cs hlen hvs hcl hb
    cases vs with
    | nil => cases hlen
    | cons q vs =>
      obtain ⟨i, x⟩ := p
      obtain ⟨i', v⟩ := q
      obtain ⟨e, hx⟩ := hvs 0 _ _ rfl rfl
      simp only at e hx
      subst e
      simp only [bparts] at hb
      cases hF : fs.toList[i]? with
      | none => rw [hF] at hb; cases hb
      | some F =>
        cases hxs : cellsAV x with
        | none => rw [hF, hxs] at hb; cases hb
        | some xs =>
          rw [hF, hxs] at hb
          simp only at hb
          cases hu : C.T.underlying F.type with
          | none => rw [hu] at hb; cases hb
          | some d =>
            rw [hu] at hb
            simp only at hb
            cases hbb : (Nat.beq xs.length (C.T.cellsOf F.type) && Nat.ble (F.offset + xs.length) l0.length) with
            | false => rw [hbb] at hb; cases hb
            | true =>
              rw [hbb, cond_true] at hb
              rw [Bool.and_eq_true] at hbb
              have h1 : xs.length = C.T.cellsOf F.type := Nat.eq_of_beq_eq_true hbb.1
              have h2 : F.offset + xs.length ≤ l0.length := Nat.ble_eq ▸ hbb.2
              have hv := cellsAV_ok R hxs hx
              have hcl' := CL.set hcl hv h2
              obtain ⟨cs', hf, hr⟩ := ih vs _ l _ (by simpa using hlen) (fun k p q hp hq => hvs (k + 1) p q hp hq) hcl' hb
              refine ⟨cs', ?_, hr⟩
              have hpi := hpl i F (by simpa using hF)
              simp only [Instr.fill, hpi]
              rw [if_neg (by simp only [bne_iff_ne, ne_eq, Bool.or_eq_true, decide_eq_true_eq, not_or, Decidable.not_not]; exact ⟨by rw [hv.1, h1], by rw [hv.1, hcl.1]; omega⟩)]
              exact hf

def undAll (P : TT) (fs : List Field) : Bool := fs.all fun F => (P.underlying F.type).isSome

def abuild (P : TT) (t : TypeId) (parts : List (Nat × AV)) (K : AV → Prop) (stop : Prop) : Prop :=
  match P.underlying t, P.zero t with
  | some (.struct fs), some l0 => match undAll P fs.toList, bparts P fs.toList parts l0 with
    | true, some l => force l.length (fun n => K (.agg n (fun j => l.getD j .u))) stop
    | _, _ => stop
  | _, _ => stop

theorem und_all {C : Ctx} {fs : List Field} {w : World} : (∀ F ∈ fs, ∃ d, C.T.underlying F.type = some d) → (fs.mapM fun (f : Field) => (do pure (f.offset, ← sizeOf f.type) : Sem (Nat × Nat))).run C.P w = .ok (fs.map fun f => (f.offset, C.T.cellsOf f.type)) w := by
  induction fs with
  | nil => intro _; rfl
  | cons F fs ih =>
    intro hh
    obtain ⟨d, hd⟩ := hh F (by simp)
    have hi := ih (fun G hG => hh G (by simp [hG]))
    simp only [List.mapM_cons, Sem.run_bind, run_sizeOf hd, Result.andThen_ok, hi, Sem.run_pure, List.map_cons]

theorem abuild_ok (R : Rel C env h ι a w) {t : TypeId} {parts : List (Nat × AV)} {vs : Array (Nat × Value)} {K : Env → Heap → AV → Prop} {stop : Prop} (hlen : parts.length = vs.size)
    (hvs : ∀ (k : Nat) p q, parts[k]? = some p → vs[k]? = some q → p.1 = q.1 ∧ VR w (okB C h ι w) p.2 (rf h ι) q.2) (hk : abuild C.T t parts (K env h) stop) : stop ∨ Out C a w (Instr.build t vs) K := by
  unfold abuild at hk
  split at hk
  · rename_i fs l0 hu hz
    split at hk
    · rename_i l hal hb
      obtain ⟨i, z, hi, hzz, hs, hc⟩ := zeroL_ok (C.zeroes hz).1
      have hmap := und_all (C := C) (fs := fs.toList) (w := w) (fun F hF => by
        have := List.all_eq_true.mp hal F hF
        exact Option.isSome_iff_exists.mp this)
      obtain ⟨cs', hf, hr⟩ := bparts_ok R fs (fs.map fun f => (f.offset, C.T.cellsOf f.type)) (fun i F hF => by simp [hF]) parts vs.toList l0 l z.cells (by simpa using hlen)
        (fun k p q hp hq => hvs k p q hp (by simpa using hq)) ⟨hs, fun j y hy => hc w _ _ j y hy⟩ hb
      rcases force_ok hk with hk | hk
      · refine .inr (Out.same R hk (v := .agg cs') ?_ ⟨cs', rfl, hr.1, fun j hj => ?_⟩)
        · have hm : (fs.mapM fun (f : Field) => (do pure (f.offset, ← sizeOf f.type) : Sem (Nat × Nat))).run C.P w = .ok (fs.map fun f => (f.offset, C.T.cellsOf f.type)) w := by
            rw [← Array.toArray_toList (xs := fs), List.mapM_toArray]
            simp only [Sem.run_map, hmap, Result.andThen_ok]
            congr 1
            apply Array.ext'
            simp
          simp only [Instr.build, zeroValue, typeInfo, hi, hzz, Sem.run_bind, Sem.run_pure, Result.andThen_ok, run_und hu, hm, hf, program, Sem.run]
        · obtain ⟨cv, c1, c2, c3⟩ := hr.2 j l[j] (List.getElem?_eq_getElem hj)
          exact ⟨cv, c1, c2, by simpa [List.getD, List.getElem?_eq_getElem hj] using c3⟩
      · exact .inl hk
    · exact .inl hk
  · exact .inl hk
end

end Go.Proofs.YtfodjmemdkibpaaDoor.V
