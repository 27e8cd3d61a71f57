/-
The walk's own words, rules and proofs: V8.
-/
import Derived.Test.YtfodjmemdkibpaaDoorMD
namespace Go.Proofs.YtfodjmemdkibpaaDoor.V
open Go Go.RowKit
set_option linter.unusedSimpArgs false
set_option linter.unusedVariables false

/-- The walk: it stops at a condition that is not known (s), and at a list of things to do that is not longer than d. -/
def aexecS (C : Ctx) (s : Bool) (d : Nat) : Nat → List Item → Env → Heap → Prop
  | 0, k, env, h => Run C k env h
  | n + 1, k, env, h => cond (Nat.ble k.length d) (Run C k env h) (match s, k with
    | true, .code (.cond c x y) :: k' => match ev env c with
      | .bool b => Run C (.code (.cond c x y) :: k') env h
      | _ => astep C (aexecS C s d n) (.code (.cond c x y) :: k') env h
    | _, k => astep C (aexecS C s d n) k env h)
theorem aexecS_ok {C : Ctx} {s : Bool} {d : Nat} : ∀ (n : Nat) {k : List Item} {env : Env} {h : Heap}, aexecS C s d n k env h → Run C k env h := by
  intro n
  induction n with
  | zero => intro k env h hx; exact hx
  | succ n ih =>
    intro k env h hx
    unfold aexecS at hx
    cases hb : Nat.ble k.length d with
    | true => rw [hb] at hx; exact hx
    | false =>
      rw [hb, cond_false] at hx
      split at hx
      · split at hx
        · exact hx
        · exact astep_ok (fun k env h => ih) _ env h hx
      · exact astep_ok (fun k env h => ih) _ env h hx
section
variable {C : Ctx} {k : List Item} {env : Env} {h : Heap}
theorem Run.goS (s : Bool) (d : Nat) (hx : aexecS C s d 400 k env h) : Run C k env h := aexecS_ok 400 hx
theorem Run.cond2 {c : Operand} {x y : Code} {b : Bool} (hc : ev env c = .bool b) (ht : b = true → Run C (.code x :: k) (toldE c env .tt) h) (hf : b = false → Run C (.code y :: k) (toldE c env .ff) h) : Run C (.code (.cond c x y) :: k) env h := by
  refine astep_ok (E := fun k env h => Run C k env h) (fun k env h hx => hx) _ _ _ ?_
  show (match ev env c with
    | .tt => Run C (.code x :: k) env h
    | .ff => Run C (.code y :: k) env h
    | .bool b => AskB b (Run C (.code x :: k) (toldE c env .tt) h) (Run C (.code y :: k) (toldE c env .ff) h)
    | _ => Run C (.code (.cond c x y) :: k) env h)
  rw [hc]
  exact ⟨ht, hf⟩
/-- Both branches come to what is told of the state behind them. -/
theorem Run.ifs {α : Type} {c : Operand} {x y : Code} {b : Bool} (E : α → List (Nat × AV)) (H : α → List (Nat × MO)) (I : α → Prop) (hc : ev env c = .bool b)
    (ht : b = true → (∀ a, I a → Run C k (lst (E a)) (lstH (H a))) → Run C (.code x :: k) (toldE c env .tt) h)
    (hf : b = false → (∀ a, I a → Run C k (lst (E a)) (lstH (H a))) → Run C (.code y :: k) (toldE c env .ff) h)
    (rest : ∀ a, I a → Run C k (lst (E a)) (lstH (H a))) : Run C (.code (.cond c x y) :: k) env h :=
  Run.cond2 hc (fun e => ht e rest) (fun e => hf e rest)
/-- The slots of 'ks' stay as they are, each looked at. -/
theorem Run.ifk {α : Type} {c : Operand} {x y : Code} {b : Bool} (ks : List Nat) (E : α → List (Nat × AV)) (H : α → List (Nat × MO)) (I : α → Prop) (hc : ev env c = .bool b)
    (hx : aforce env ks fun l => ((∀ a, I a → Run C k (lst (l ++ E a)) (lstH (H a))) → (b = true → Run C (.code x :: k) (toldE c env .tt) h) ∧ (b = false → Run C (.code y :: k) (toldE c env .ff) h)) ∧ (∀ a, I a → Run C k (lst (l ++ E a)) (lstH (H a)))) : Run C (.code (.cond c x y) :: k) env h := by
  obtain ⟨l, hl, hx⟩ := aforce_ok ks hx
  exact Run.cond2 hc (hx.1 hx.2).1 (hx.1 hx.2).2
end
/-! ### []byte(s): the call's own -/
theorem heap_drew {w : World} {o : Obj} {b : Nat} (h : b < w.heap.size) : (w.drew.alloc o).heap[b]? = w.heap[b]? := heap_alloc_old w.drew _ h
theorem Run.toBytesR {C : Ctx} {env : Env} {h : Heap} {o : Oper} {ops : Array Oper} {i : Nat} {rest : List Nat} {k : List Item} {src dst e d : TypeId} {x : Operand} (s : ByteArray) (ho : ops.toList[i]? = some o) (hc : o.op = .convert src dst x) (hdst' : o.dst = some d)
    (hd : okD C.N o.dst = true) (hr : ready env ops o = true) (hx : ev env x = .str s)
    (hsrc : C.P.underlying src = some .string) (hdst : C.P.underlying dst = some (.slice e)) (he : C.P.underlying e = some (.int .u8))
    (next : Run C (.inRegion ops rest :: k) (putE (scrubE d env) o.dst (.row d)) (upd (upd (scrubH d h) d .dead) d (.row e 1 s.size (bytesG s)))) : Run C (.inRegion ops (i :: rest) :: k) env h :=
  Run.opG (fun env' h' z => env' = scrubE d env ∧ h' = upd (upd (scrubH d h) d .dead) d (.row e 1 s.size (bytesG s)) ∧ z = .row d) ho hd hr (fun ι a w R => by
    have hv := ev_ok R x
    rw [hx] at hv
    obtain ⟨hv', hmax⟩ : a.eval x = .string s ∧ s.size ≤ maxLen := hv
    have hge := grownCap_ge w s.size 0 e
    have hmx := grownCap_le_maxLen w s.size 0 e hmax
    have hbl : Below C.B w (w.drew.alloc (.cells (bytesRow s (grownCap w s.size 0 e)) e ((bytesRow s (grownCap w s.size 0 e)).size, (bytesRow s (grownCap w s.size 0 e)).size + 1))) := (((Below.refl w.heap.size w).drew).alloc (Nat.le_refl _) _).mono R.below.size
    have hbs : (bytesRow s (grownCap w s.size 0 e)).size = grownCap w s.size 0 e := by
      unfold bytesRow
      have h9 : s.data.size = s.size := rfl
      simp only [Array.size_append, Array.size_map, Array.size_replicate]
      omega
    have R' := (R.make d d (.row e 1 s.size (bytesG s)) (.slice (some ⟨w.heap.size, 0, none⟩) s.size (grownCap w s.size 0 e)) _ hbl (fun b hb => heap_drew hb.1)
      (fun id _ _ hl g hg => heap_drew (R.base id hl g hg).2) rfl (fun g hg => by cases hg; exact ⟨R.below.size, by show _ < (w.heap.push _).size; simp⟩)
      (fun g hg hb => by cases hg; exact absurd hb.1 (Nat.lt_irrefl _)) (fun id _ _ hl g hg e => by cases e; exact absurd (R.base id hl _ hg).2 (Nat.lt_irrefl _))
      (fun ok r hok hS hr => by
        refine ⟨(bytesRow s (grownCap w s.size 0 e)).toList.take (s.size * 1), ⟨?_, .inr ⟨w.heap.size, grownCap w s.size 0 e, _, rfl, R.below.size, ⟨_, heap_alloc_new w.drew _, .inr (Nat.le_refl _)⟩, hge, hmx, by rw [hbs]; omega, rfl⟩⟩, ?_, ?_⟩
        · rw [List.length_take, Array.length_toList, hbs]; omega
        · intro u hu
          have hu := List.mem_of_mem_take hu
          unfold bytesRow at hu
          simp only [Array.toList_append, List.mem_append, Array.toList_map, List.mem_map, Array.toList_replicate, List.mem_replicate] at hu
          rcases hu with ⟨b, _, rfl⟩ | ⟨_, rfl⟩ <;> rfl
        · intro i j hi hj
          obtain rfl : j = 0 := by omega
          have hi' : i < s.data.size := hi
          refine ⟨.int .u8 (s.data[i].toNat : Int), ?_, ?_⟩
          · rw [List.getElem?_take_of_lt (by omega)]
            have := bytesRow_at s (grownCap w s.size 0 e) i hi'
            rw [← Array.getElem?_toList] at this
            simpa using this
          · show Value.int .u8 _ = .int .u8 (bt s i)
            unfold bt
            rw [List.getD, List.getElem?_eq_getElem (by simpa using hi')]; simp)).1
    refine ⟨.value (.slice (some ⟨w.heap.size, 0, none⟩) s.size (grownCap w s.size 0 e)), .slice (some ⟨w.heap.size, 0, none⟩) s.size (grownCap w s.size 0 e), _, _, _, _, .row d, ?_, .inl rfl, R', ?_, rfl, rfl, rfl⟩
    · rw [show (execOp a.eval o) = (do pure (.value (← convert src dst (a.eval x))) : Sem Next) by simp [execOp, hc]]
      rw [hv']
      simp [run_bytes_of_string w src dst e s hsrc hdst he]
    · show _ = upd ι d _ d 0
      rw [upd_same]) (fun env' h' y ⟨e1, e2, e3⟩ => by subst e1; subst e2; subst e3; exact next)
/-! ### small words on lists -/
theorem one0 {P : Nat → Prop} (h : P 0) : ∀ j, j < 1 → P j
  | 0, _ => h
  | j + 1, hj => absurd hj (by omega)
theorem drop_at {α : Type} (l : List α) (j : Nat) (z : α) (h : j < l.length) : l.drop j = l.getD j z :: l.drop (j + 1) := by
  rw [List.drop_eq_getElem_cons h, List.getD, List.getElem?_eq_getElem h]; rfl
theorem take_at {α : Type} (l : List α) (j : Nat) (z : α) (h : j < l.length) : l.take (j + 1) = l.take j ++ [l.getD j z] := by
  rw [List.take_succ_eq_append_getElem h, List.getD, List.getElem?_eq_getElem h]; rfl
theorem set_same {α : Type} (l : List α) (i : Nat) (z : α) : l.set i (l.getD i z) = l := by
  refine List.ext_getElem (by simp) fun j h1 h2 => ?_
  rw [List.getElem_set]
  by_cases e : i = j
  · subst e; rw [if_pos rfl, List.getD, List.getElem?_eq_getElem h2]; rfl
  · rw [if_neg e]
theorem getD_mem' {α : Type} {l : List α} {z : α} (i : Nat) (h : i < l.length) : l.getD i z ∈ l := by
  rw [List.getD, List.getElem?_eq_getElem h]; exact List.getElem_mem h
end Go.Proofs.YtfodjmemdkibpaaDoor.V

