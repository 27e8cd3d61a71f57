/-
Slices that are made: literals, make, append; slicing; conversions; walks over a text.
-/
import Derived.Test.YtfodjmemdkibpaaDoorVf
namespace Go.Proofs.YtfodjmemdkibpaaDoor.V
open Go Go.RowKit
set_option linter.unusedSimpArgs false
set_option linter.unusedVariables false

section
variable {C : Ctx} {env : Env} {h : Heap} {ι : Loc} {a : Act} {w : World}

/-- A row is made in a block of its own. -/
theorem Rel.newRow (R : Rel C env h ι a w) (d : Nat) (e sz n : Nat) (get : Nat → Nat → AV) (cs : Array Value) (hs : cs.size = n * sz) (hn : n ≤ maxLen)
    (h1 : ∀ u ∈ cs.toList, u.oneCell' = true) (hc : ∀ i j, i < n → j < sz → ∃ cv, cs[i * sz + j]? = some cv ∧ VR w (okB C h ι w) (get i j) noref cv) :
    Rel C (scrubE d env) (upd (upd (scrubH d h) d .dead) d (.row e sz n get)) (upd ι d (fun _ => .slice (some ⟨w.heap.size, 0, none⟩) n n)) a (w.alloc (.cells cs e)) := by
  refine (R.make d d (.row e sz n get) _ _ (below_alloc C R.below _) (fun b hb => Below.heap_alloc _ _ _ hb.1)
    (fun id _ _ hl g hg => Below.heap_alloc _ _ _ (R.base id hl g hg).2) rfl (fun g hg => by cases hg; exact ⟨R.below.size, by simp⟩)
    (fun g hg hb => by cases hg; exact absurd hb.1 (Nat.lt_irrefl _)) (fun id _ _ hl g hg e => by cases e; exact absurd (R.base id hl _ hg).2 (Nat.lt_irrefl _)) ?_).1
  intro ok r hok hS hr
  refine ⟨cs.toList, World.ownsRow_lit w cs n R.below.size hn hs, h1, fun i j hi hj => ?_⟩
  obtain ⟨cv, c1, c3⟩ := hc i j hi hj
  exact ⟨cv, by simpa using c1, VR.mono hok (fun b hb => Below.heap_alloc _ _ _ hb.1) _ _ _ _ (fun _ _ h => h) c3⟩

/-! ### a slice written out -/
/-- The cells of the parts, which come in their order, each of 'sz' cells. -/
def sparts (sz : Nat) : Nat → List (Nat × AV) → Option (List (List AV))
  | _, [] => some []
  | k, (i, x) :: rest => match cellsAV x with
    | some l => cond (Nat.beq i k && Nat.beq l.length sz && l.all noRef) ((sparts sz (k + 1) rest).map (l :: ·)) none
    | none => none

theorem sparts_ok (R : Rel C env h ι a w) (sz : Nat) : ∀ (parts : List (Nat × AV)) (vs : List (Nat × Value)) (k : Nat) (ls : List (List AV)) (cs : Array Value), parts.length = vs.length →
    (∀ (k : Nat) p q, parts[k]? = some p → vs[k]? = some q → p.1 = q.1 ∧ VR w (okB C h ι w) p.2 (rf h ι) q.2) → sparts sz k parts = some ls → (k + parts.length) * sz ≤ cs.size →
    ls.length = parts.length ∧ (∀ l ∈ ls, l.length = sz) ∧ ∃ cs', Instr.fill (fun i => some (i * sz, sz)) cs vs = some cs' ∧ cs'.size = cs.size ∧ (∀ q, q < k * sz → cs'[q]? = cs[q]?) ∧
      ∀ i j, i < ls.length → j < sz → ∃ cv, cs'[(k + i) * sz + j]? = some cv ∧ cv.oneCell' = true ∧ VR w (okB C h ι w) ((ls.getD i []).getD j .u) noref cv := by
  intro parts
  induction parts with
  | nil =>
    intro vs k ls cs hlen _ hsp _
    cases vs with
    | nil => cases hsp; exact ⟨rfl, by simp, cs, rfl, rfl, fun _ _ => rfl, by simp⟩
    | cons _ _ => cases hlen
  | cons p parts ih =>
    intro vs k ls cs hlen hvs hsp hsize
    cases vs with
    | nil => cases hlen
    | cons q vs =>
      obtain ⟨i, x⟩ := p
      obtain ⟨i', v⟩ := q
      obtain ⟨e, hx⟩ := hvs 0 _ _ rfl rfl
      simp only at e hx
      subst e
      simp only [sparts] at hsp
      cases hl : cellsAV x with
      | none => rw [hl] at hsp; cases hsp
      | some l =>
        rw [hl] at hsp
        simp only at hsp
        cases hbb : (Nat.beq i k && Nat.beq l.length sz && l.all noRef) with
        | false => rw [hbb] at hsp; cases hsp
        | true =>
          rw [hbb, cond_true] at hsp
          rw [Bool.and_eq_true, Bool.and_eq_true] at hbb
          have hik : i = k := Nat.eq_of_beq_eq_true hbb.1.1
          have hls : l.length = sz := Nat.eq_of_beq_eq_true hbb.1.2
          subst hik
          obtain ⟨hvs1, hvs2⟩ := cellsAV_ok R hl hx
          cases hrest : sparts sz (i + 1) parts with
          | none => rw [hrest] at hsp; cases hsp
          | some ls' =>
            rw [hrest] at hsp
            cases hsp
            simp only [List.length_cons] at hsize hlen
            have hsz2 : (i + 1 + parts.length) * sz ≤ cs.size := by rw [Nat.add_assoc, Nat.add_comm 1]; exact hsize
            have hi1 : (i + 1) * sz ≤ cs.size := Nat.le_trans (Nat.mul_le_mul_right _ (by omega)) hsize
            have hi1' : i * sz + sz ≤ cs.size := by rw [Nat.add_mul, Nat.one_mul] at hi1; exact hi1
            have hz : v.cells.zipIdx.foldl (fun cs (x : Value × Nat) => cs.setIfInBounds (i * sz + x.2) x.1) cs = (v.cells.toList.zipIdx 0).foldl (fun cs (x : Value × Nat) => cs.setIfInBounds (i * sz + x.2) x.1) cs := by
              rw [← Array.foldl_toList, Array.toList_zipIdx]
            have hvl : v.cells.toList.length = sz := by simpa [hls] using hvs1
            have hget := fun q => foldl_set v.cells.toList 0 (i * sz) cs q (by rw [hvl]; omega)
            have hsize' : ((v.cells.toList.zipIdx 0).foldl (fun cs (x : Value × Nat) => cs.setIfInBounds (i * sz + x.2) x.1) cs).size = cs.size := foldl_set_size _ _ _
            obtain ⟨i1, i2, cs', f1, f2, f3, f4⟩ := ih vs (i + 1) ls' ((v.cells.toList.zipIdx 0).foldl (fun cs (x : Value × Nat) => cs.setIfInBounds (i * sz + x.2) x.1) cs) (by omega) (fun k p q hp hq => hvs (k + 1) p q hp hq) hrest
              (by rw [hsize']; exact hsz2)
            refine ⟨by simp [i1], fun l' hl' => ?_, cs', ?_, by rw [f2, hsize'], fun q hq => ?_, fun i3 j hi3 hj => ?_⟩
            · cases hl' with
              | head => exact hls
              | tail _ h' => exact i2 l' h'
            · simp only [Instr.fill]
              rw [if_neg (by simp only [bne_iff_ne, ne_eq, Bool.or_eq_true, decide_eq_true_eq, not_or, Decidable.not_not]; exact ⟨by rw [hvs1, hls], by rw [hvs1, hls]; omega⟩), hz]
              exact f1
            · rw [f3 q (by rw [Nat.add_mul]; omega), hget q, if_neg (by omega)]
            · cases i3 with
              | zero =>
                rw [Nat.add_zero, f3 _ (by rw [Nat.add_mul]; omega), hget, if_pos (by rw [hvl]; omega)]
                have hjl : j < l.length := by omega
                obtain ⟨cv, c1, c2, c3⟩ := hvs2 j l[j] (List.getElem?_eq_getElem hjl)
                refine ⟨cv, ?_, c2, ?_⟩
                · have : i * sz + j - (i * sz + 0) = j := by omega
                  rw [this]; simpa using c1
                · simp only [List.getD_cons_zero]
                  rw [List.getD, List.getElem?_eq_getElem hjl]
                  exact noRef_ok (List.all_eq_true.mp hbb.2 _ (List.getElem_mem hjl)) c3
              | succ i3 =>
                obtain ⟨cv, c1, c2, c3⟩ := f4 i3 j (by simpa using hi3) hj
                refine ⟨cv, ?_, c2, by simpa using c3⟩
                have : i + (i3 + 1) = i + 1 + i3 := by omega
                rw [this]; exact c1

def abuildSlice (P : TT) (t d len : Nat) (parts : List (Nat × AV)) (env : Env) (h : Heap) (K : Env → Heap → AV → Prop) (stop : Prop) : Prop :=
  match P.underlying t with
  | some (.slice e) => match P.underlying e, P.zero e with
    | some _, some z => force (P.cellsOf e) (fun sz => match sparts sz 0 parts with
      | some ls => cond (Nat.beq parts.length len && Nat.ble (len * sz) 16777216 && Nat.beq z.length sz && Nat.blt 0 sz)
          (K (scrubE d env) (upd (upd (scrubH d h) d .dead) d (.row e sz len (fun i j => (ls.getD i []).getD j .u))) (.row d)) stop
      | none => stop) stop
    | _, _ => stop
  | _ => stop

theorem abuildSlice_ok (R : Rel C env h ι a w) {t d len : Nat} {parts : List (Nat × AV)} {vs : Array (Nat × Value)} {K : Env → Heap → AV → Prop} {stop : Prop} (hlen : parts.length = vs.size)
    (hvs : ∀ (k : Nat) p q, parts[k]? = some p → vs[k]? = some q → p.1 = q.1 ∧ VR w (okB C h ι w) p.2 (rf h ι) q.2) (hk : abuildSlice C.T t d len parts env h K stop) :
    stop ∨ Out C a w (Instr.buildSlice t len vs) K := by
  unfold abuildSlice at hk
  split at hk
  · rename_i e hu
    split at hk
    · rename_i de z hue hz
      rcases force_ok hk with hk | hk
      · split at hk
        · rename_i ls hsp
          cases hbb : (Nat.beq parts.length len && Nat.ble (len * C.T.cellsOf e) 16777216 && Nat.beq z.length (C.T.cellsOf e) && Nat.blt 0 (C.T.cellsOf e)) with
          | false => rw [hbb] at hk; exact .inl hk
          | true =>
            rw [hbb, cond_true] at hk
            simp only [Bool.and_eq_true] at hbb
            have h1 : parts.length = len := Nat.eq_of_beq_eq_true hbb.1.1.1
            have h2 : len * C.T.cellsOf e ≤ 16777216 := Nat.ble_eq ▸ hbb.1.1.2
            have h3 : z.length = C.T.cellsOf e := Nat.eq_of_beq_eq_true hbb.1.2
            have h4 : 0 < C.T.cellsOf e := by simpa [Nat.blt_eq] using hbb.2
            obtain ⟨i, zv, hi, hzz, hs, hc⟩ := zeroL_ok (C.zeroes hz).1
            have hlist : ∀ (k : Nat) p q, parts[k]? = some p → vs.toList[k]? = some q → p.1 = q.1 ∧ VR w (okB C h ι w) p.2 (rf h ι) q.2 := fun k p q hp hq => hvs k p q hp (by simpa using hq)
            obtain ⟨k1, k2, cs', f1, f2, f3, f4⟩ := sparts_ok R (C.T.cellsOf e) parts vs.toList 0 ls ((Array.range (len * C.T.cellsOf e)).map (zv.cells[· % zv.cells.size]!)) (by simpa using hlen)
              hlist hsp (by simp [h1])
            have hcs : cs'.size = len * C.T.cellsOf e := by rw [f2]; simp
            have hlen2 : ls.length = len := by omega
            have hone : ∀ u ∈ cs'.toList, u.oneCell' = true := by
              intro u hu'
              obtain ⟨q, hq⟩ := List.getElem?_of_mem hu'
              have hql : q < len * C.T.cellsOf e := by
                rcases Nat.lt_or_ge q (len * C.T.cellsOf e) with h' | h'
                · exact h'
                · rw [List.getElem?_eq_none (by rw [Array.length_toList, hcs]; exact h')] at hq; cases hq
              have hqi : q / C.T.cellsOf e < ls.length := by rw [hlen2]; exact Nat.div_lt_of_lt_mul (by rw [Nat.mul_comm]; exact hql)
              obtain ⟨cv, c1, c2, _⟩ := f4 (q / C.T.cellsOf e) (q % C.T.cellsOf e) hqi (Nat.mod_lt _ h4)
              rw [Nat.zero_add, Nat.mul_comm, Nat.div_add_mod] at c1
              have : cs'.toList[q]? = some cv := by simpa using c1
              rw [this] at hq; cases hq; exact c2
            have R' := R.newRow d e (C.T.cellsOf e) len (fun i j => (ls.getD i []).getD j .u) cs' hcs (by
                have : len * 1 ≤ len * C.T.cellsOf e := Nat.mul_le_mul_left _ h4
                simp only [maxLen]; omega) hone
              (fun i j hi hj => by obtain ⟨cv, c1, _, c3⟩ := f4 i j (by omega) hj; exact ⟨cv, by simpa using c1, c3⟩)
            refine .inr ⟨.slice (some ⟨w.heap.size, 0, none⟩) len len, _, _, _, _, _, ?_, R', ?_, hk⟩
            · by_cases h0 : len * C.T.cellsOf e = 0
              · have hemp : ((Array.range (len * C.T.cellsOf e)).map (zv.cells[· % zv.cells.size]!)) = ((Array.range (len * C.T.cellsOf e)).map ((#[] : Array Value)[· % (#[] : Array Value).size]!)) := by simp [h0]
                rw [hemp] at f1
                simp only [Instr.buildSlice, Sem.run_bind, run_und hu, run_sizeOf hue, Result.andThen_ok, if_neg (show ¬ len * C.T.cellsOf e > 2 ^ 24 by omega), if_pos h0, Sem.run_pure, f1]
                simp [newRow, newObj, Sem.run]
              · simp only [Instr.buildSlice, Sem.run_bind, run_und hu, run_sizeOf hue, Result.andThen_ok, if_neg (show ¬ len * C.T.cellsOf e > 2 ^ 24 by omega), if_neg h0, zeroValue, typeInfo, program, hi, hzz, Sem.run, Sem.run_pure, f1]
                simp [newRow, newObj, Sem.run]
            · show Value.slice _ _ _ = upd ι d _ d 0
              rw [upd_same]
        · exact .inl hk
      · exact .inl hk
    · exact .inl hk
  · exact .inl hk
end

end Go.Proofs.YtfodjmemdkibpaaDoor.V
