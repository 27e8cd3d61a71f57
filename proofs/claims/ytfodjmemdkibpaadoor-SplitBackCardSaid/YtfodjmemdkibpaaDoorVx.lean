/-
Texts gone through rune by rune.
-/
import Derived.Test.YtfodjmemdkibpaaDoorVr
namespace Go.Proofs.YtfodjmemdkibpaaDoor.V
open Go Go.RowKit
set_option linter.unusedSimpArgs false
set_option linter.unusedVariables false

def arange (P : TT) (t : TypeId) (d : Nat) (x : AV) (env : Env) (h : Heap) (K : Env → Heap → AV → Prop) (stop : Prop) : Prop :=
  match P.underlying t, x with
  | some .string, .str s => K (scrubE d env) (upd (upd (scrubH d h) d .dead) d (.iter s 0)) (.obj d)
  | _, _ => stop

/-- The next rune: where it stands, which it is. -/
def nextAV (s : ByteArray) (p : Nat) : AV := .tup 3 (fun j => match j with | 0 => .tt | 1 => .int .i64 p | _ => .int .i32 (Utf8.decode s p).1)
def anext (x : AV) (b : Bool) (h : Heap) (K : Heap → AV → Prop) (stop : Prop) : Prop :=
  match x, b with
  | .obj id, true => match h id with
    | .iter s p => AskB (decide (p < s.size)) (K (upd h id (.iter s (p + (Utf8.decode s p).2))) (nextAV s p)) (K h (.tup 1 (fun _ => .ff)))
    | _ => stop
  | _, _ => stop

section
variable {C : Ctx} {env : Env} {h : Heap} {ι : Loc} {a : Act} {w : World}

theorem arange_ok (R : Rel C env h ι a w) {t d : Nat} {x : AV} {v : Value} {K : Env → Heap → AV → Prop} {stop : Prop} (hx : VR w (okB C h ι w) x (rf h ι) v) (hk : arange C.T t d x env h K stop) : stop ∨ Out C a w (Instr.range t v) K := by
  unfold arange at hk
  split at hk
  · rename_i s ht
    obtain ⟨rfl, _⟩ : v = .string s ∧ s.size ≤ maxLen := hx
    have R' := (R.make d d (.iter s 0) (.pointer (some ⟨w.heap.size, 0, none⟩)) (w.alloc (.stringIter s 0)) (below_alloc C R.below _) (fun b hb => Below.heap_alloc _ _ _ hb.1)
      (fun id _ _ hl g hg => Below.heap_alloc _ _ _ (R.base id hl g hg).2) rfl (fun g hg => by cases hg; exact ⟨R.below.size, by simp⟩)
      (fun g hg hb => by cases hg; exact absurd hb.1 (Nat.lt_irrefl _)) (fun id _ _ hl g hg e => by cases e; exact absurd (R.base id hl _ hg).2 (Nat.lt_irrefl _))
      (fun ok r hok hS hr => ⟨_, rfl, heap_alloc_new w _⟩)).1
    refine .inr ⟨.pointer (some ⟨w.heap.size, 0, none⟩), _, _, _, _, _, ?_, R', ?_, hk⟩
    · simp [Instr.range, run_underlying (C.und ht), newObj, Sem.run]
    · show _ = upd ι d _ d 0
      rw [upd_same]
  · exact .inl hk

theorem anext_ok (R : Rel C env h ι a w) {x : AV} {b : Bool} {t : TypeId} {v : Value} {K : Env → Heap → AV → Prop} {stop : Prop} (hx : VR w (okB C h ι w) x (rf h ι) v) (hk : anext x b h (K env) stop) : stop ∨ Out C a w (Instr.next v b t) K := by
  unfold anext at hk
  split at hk
  · rename_i id
    split at hk
    · rename_i s p hh
      have ho := R.obj id
      rw [hh] at ho
      obtain ⟨g, hι, hg⟩ := ho
      have hv : v = .pointer (some ⟨g, 0, none⟩) := (show v = ι id 0 from hx).trans hι
      subst hv
      have hl : h id ≠ .dead := by rw [hh]; simp
      have hb := R.base id hl g (owns_zero (by rw [hι]; rfl))
      by_cases hp : p < s.size
      · have hk := hk.t (decide_eq_true hp)
        have hne : ∀ b, b ≠ g → (w.heap.setIfInBounds g (.stringIter s (p + (Utf8.decode s p).2)))[b]? = w.heap[b]? := fun b hb => by rw [Array.getElem?_setIfInBounds, if_neg (Ne.symm hb)]
        have R' : Rel C env (upd h id (.iter s (p + (Utf8.decode s p).2))) ι a { w with heap := w.heap.setIfInBounds g (.stringIter s (p + (Utf8.decode s p).2)) } := by
          refine R.set id (.iter s (p + (Utf8.decode s p).2)) _ ⟨rfl, rfl, rfl, by simp, fun k hk => hne k (by have := hb.1; omega)⟩ hl (fun b hb' _ => hne b (hb' g (by rw [hι]; rfl))) (by trivial) (fun r ok _ _ _ => ⟨g, hι, ?_⟩)
          show (w.heap.setIfInBounds g _)[g]? = _
          rw [Array.getElem?_setIfInBounds, if_pos rfl, if_pos hb.2]
        refine .inr ⟨.tuple #[.bool true, goInt p, .int .i32 (Utf8.decode s p).1], _, ι, env, _, _, ?_, R', ?_, hk⟩
        · simp [Instr.next, getObj, setObj, Sem.run, hg, hp]
        · refine ⟨_, rfl, rfl, fun j hj => ?_⟩
          match j, hj with
          | 0, _ => exact ⟨_, rfl, rfl⟩
          | 1, _ => exact ⟨_, rfl, rfl⟩
          | 2, _ => exact ⟨_, rfl, rfl⟩
      · have hk := hk.f (decide_eq_false hp)
        refine .inr ⟨.tuple #[.bool false], w, ι, env, h, _, ?_, R, ?_, hk⟩
        · simp [Instr.next, getObj, setObj, Sem.run, hg, hp]
        · refine ⟨_, rfl, rfl, fun j hj => ?_⟩
          match j, hj with
          | 0, _ => exact ⟨_, rfl, rfl⟩
    · exact .inl hk
  · exact .inl hk
end

end Go.Proofs.YtfodjmemdkibpaaDoor.V
