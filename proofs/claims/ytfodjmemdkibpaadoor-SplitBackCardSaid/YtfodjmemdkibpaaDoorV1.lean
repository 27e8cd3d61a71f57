/-
Structs held against one another, field by field.
-/
import Derived.Test.YtfodjmemdkibpaaDoorVx
import Derived.Test.YtfodjmemdkibpaaDoorV3
import Derived.Laws.StructEq
import Derived.Laws.Pointers
import Derived.Lib.Builder
namespace Go.Proofs.YtfodjmemdkibpaaDoor.V
open Go Go.RowKit
set_option linter.unusedSimpArgs false
set_option linter.unusedVariables false

def eqC (T : TT) (t : TypeId) (x y : AV) : Option Bool := match T.underlying t with
  | some (.int _) => (match x, y with | .int k a, .int k' b => if k = k' then some (decide (a = b)) else none | _, _ => none)
  | some .string => (match x, y with | .str a, .str b => some (decide (a = b)) | _, _ => none)
  | some .bool => (match avB x, avB y with | some a, some b => some (a == b) | _, _ => none)
  | _ => none
def eqFs (T : TT) (n n' : Nat) (g g' : Nat → AV) : List Field → Option Bool
  | [] => some true
  | f :: fs => match cond (Nat.blt f.offset n && Nat.blt f.offset n') (eqC T f.type (g f.offset) (g' f.offset)) none, eqFs T n n' g g' fs with
    | some a, some b => some (a && b)
    | _, _ => none
/-- Pointers: against nil; one place against itself. -/
def eqP (T : TT) (t : TypeId) (x y : AV) : Option Bool := match T.underlying t with
  | some (.pointer e) => (match x, y with
    | .nilp, .nilp => some true
    | .box _ _, .nilp => some false
    | .box i a, .box j b => cond (Nat.beq i j && Nat.beq a b) (match T.zero e with | some _ => some true | none => none) none
    | _, _ => none)
  | _ => none
def aeqT (T : TT) (t : TypeId) (op : BinOp) (x y : AV) : Option AV := match eqP T t x y with
  | some b => (match op with
    | .eql => some (if b then .tt else .ff)
    | .neq => some (if b then .ff else .tt)
    | _ => none)
  | none => match x, y with
  | .agg n g, .agg n' g' => match T.underlying t, T.peq t with
    | some (.struct fs), true => (match eqFs T n n' g g' fs.toList, op with
      | some b, .eql => some (.bool b)
      | some b, .neq => some (.bool !b)
      | _, _ => none)
    | _, _ => none
  | _, _ => none

theorem eqC_ok {C : Ctx} {t : TypeId} {x y : AV} {v u : Value} {b : Bool} {w : World} {ok : Nat → Prop} {r : Ref} (d : Nat) (h : eqC C.T t x y = some b) (hx : VR w ok x r v) (hy : VR w ok y r u) :
    (Op.equalIn (d + 1) t v u).run C.P w = .ok b w ∧ isAggT C.T t = some false := by
  unfold eqC at h
  split at h
  · rename_i k0 hd
    split at h
    · rename_i k a k' b'
      split at h
      · rename_i e
        subst e
        cases h
        cases hx; cases hy
        exact ⟨run_equalIn_int w d t _ _ _ _ (C.und hd), by unfold isAggT; rw [hd]⟩
      · cases h
    · cases h
  · rename_i hd
    split at h
    · cases h
      obtain ⟨rfl, _⟩ := hx
      obtain ⟨rfl, _⟩ := hy
      exact ⟨by rw [run_equalIn_string w d t _ _ (C.und hd), bytes_eq], by unfold isAggT; rw [hd]⟩
    · cases h
  · rename_i hd
    split at h
    · rename_i a b' h1 h2
      cases h
      have := avB_ok h1 hx; subst this
      have := avB_ok h2 hy; subst this
      exact ⟨run_equalIn_bool' w d t _ _ (C.und hd), by unfold isAggT; rw [hd]⟩
    · cases h
  · cases h

theorem eqFs_ok {C : Ctx} {n n' : Nat} {g g' : Nat → AV} {xs ys : Array Value} {w : World} {ok : Nat → Prop} {r : Ref} (d : Nat) (hx : VR w ok (.agg n g) r (.agg xs)) (hy : VR w ok (.agg n' g') r (.agg ys)) :
    ∀ (fs : List Field) (b : Bool), (fs.all (fun f => f.name != "_")) = true → eqFs C.T n n' g g' fs = some b → (Op.eqFields (d + 1) xs ys fs).run C.P w = .ok b w := by
  obtain ⟨cs, e1, s1, c1⟩ := hx
  obtain ⟨cs', e2, s2, c2⟩ := hy
  cases e1; cases e2
  intro fs
  induction fs with
  | nil => intro b _ h; cases h; rfl
  | cons f fs ih =>
    intro b hn h
    rw [List.all_cons, Bool.and_eq_true] at hn
    unfold eqFs at h
    cases hc : (Nat.blt f.offset n && Nat.blt f.offset n') with
    | false => rw [hc] at h; simp at h
    | true =>
      rw [hc, cond_true] at h
      rw [Bool.and_eq_true, Nat.blt_eq, Nat.blt_eq] at hc
      cases h1 : eqC C.T f.type (g f.offset) (g' f.offset) with
      | none => rw [h1] at h; simp at h
      | some b1 =>
        cases h2 : eqFs C.T n n' g g' fs with
        | none => rw [h1, h2] at h; simp at h
        | some b2 =>
          rw [h1, h2] at h
          cases h
          obtain ⟨x, x1, x2, x3⟩ := c1 f.offset hc.1
          obtain ⟨y, y1, y2, y3⟩ := c2 f.offset hc.2
          obtain ⟨q1, q2⟩ := eqC_ok d h1 x3 y3
          have hne : f.name ≠ "_" := by simpa using hn.1
          have p1 : (part f.type xs f.offset).run C.P w = .ok x w := by
            unfold part
            rw [Sem.run_bind, run_isAgg q2]
            simp [x1]
          have p2 : (part f.type ys f.offset).run C.P w = .ok y w := by
            unfold part
            rw [Sem.run_bind, run_isAgg q2]
            simp [y1]
          unfold Op.eqFields
          rw [if_pos hne, Sem.run_bind, p1]
          simp only [Result.andThen_ok]
          rw [Sem.run_bind, p2]
          simp only [Result.andThen_ok]
          rw [Sem.run_bind, q1]
          simp only [Result.andThen_ok]
          cases b1
          · rfl
          · simpa using ih b2 hn.2 h2

theorem run_eqGuard_ptr {P : Program} (w : World) (op : BinOp) (t : TypeId) (x y : Operand) (a b : Option Addr) : (eqGuard op t x y (.pointer a) (.pointer b)).run P w = .ok () w := by
  cases op <;> simp [eqGuard]
theorem eqP_ok {C : Ctx} {t : TypeId} {x y : AV} {v u : Value} {b : Bool} {w : World} {ok : Nat → Prop} {hp : Heap} {ι : Loc} (h : eqP C.T t x y = some b) (hx : VR w ok x (rf hp ι) v) (hy : VR w ok y (rf hp ι) u) :
    (∃ a c, v = .pointer a ∧ u = .pointer c) ∧ (binOp .eql t v u).run C.P w = .ok (.bool b) w ∧ (binOp .neq t v u).run C.P w = .ok (.bool (!b)) w := by
  unfold eqP at h
  split at h
  · rename_i e hd
    have hu := C.und hd
    have hu2 : C.P.underlying t = some (.pointer (C.P.pointee t)) := by
      have : C.P.pointee t = e := by unfold Program.pointee; rw [hu]
      rw [this]; exact hu
    split at h
    · cases h; cases hx; cases hy
      exact ⟨⟨_, _, rfl, rfl⟩, run_eql_pointer_nil w t none hu2, run_neq_pointer_nil w t none hu2⟩
    · cases h; cases hy
      obtain ⟨g, h1, rfl⟩ := hx
      exact ⟨⟨_, _, rfl, rfl⟩, run_eql_pointer_nil w t (some _) hu2, run_neq_pointer_nil w t (some _) hu2⟩
    · rename_i i a j b'
      cases hb : (Nat.beq i j && Nat.beq a b') with
      | false => rw [hb] at h; cases h
      | true =>
        rw [hb, cond_true] at h
        rw [Bool.and_eq_true] at hb
        have e1 := Nat.eq_of_beq_eq_true hb.1
        have e2 := Nat.eq_of_beq_eq_true hb.2
        subst e1; subst e2
        split at h
        · rename_i l hz
          cases h
          obtain ⟨g, h1, rfl⟩ := hx
          obtain ⟨g', h1', rfl⟩ := hy
          rw [h1] at h1'
          cases h1'
          obtain ⟨ti, zv, hi, _⟩ := zeroL_ok (C.zeroes hz).1
          have hn := Lib.run_neq_ptr_same w ((⟨g, 0, none⟩ : Addr).add a) hu hi
          refine ⟨⟨_, _, rfl, rfl⟩, ?_, hn⟩
          have h2 : ∀ d : Nat, (Op.equalIn (d + 1) t (.pointer (some ((⟨g, 0, none⟩ : Addr).add a))) (.pointer (some ((⟨g, 0, none⟩ : Addr).add a)))).run C.P w = .ok true w := fun d => by
            simp [Op.equalIn, run_underlying hu, sizeOf, typeInfo, hi, run_sameAddr_same]
          simp only [binOp]
          simp [Op.equal, Op.maxDepth, h2 9999]
        · cases h
    · cases h
  · cases h

theorem aeqT_ok {C : Ctx} {t : TypeId} {op : BinOp} {x y z : AV} {v u : Value} {w : World} {ok : Nat → Prop} {hp : Heap} {ι : Loc} (h : aeqT C.T t op x y = some z) (hx : VR w ok x (rf hp ι) v) (hy : VR w ok y (rf hp ι) u) (X Y : Operand) :
    ∃ m, (do eqGuard op t X Y v u; binOp op t v u : Sem Value).run C.P w = .ok m w ∧ VR w ok z (rf hp ι) m := by
  unfold aeqT at h
  split at h
  · rename_i b hb
    split at h
    · cases h
      obtain ⟨⟨a, c, rfl, rfl⟩, h1, _⟩ := eqP_ok hb hx hy
      refine ⟨.bool b, ?_, ?_⟩
      · rw [Sem.run_bind, run_eqGuard_ptr]; simp only [Result.andThen_ok]; exact h1
      · cases b <;> rfl
    · cases h
      obtain ⟨⟨a, c, rfl, rfl⟩, _, h1⟩ := eqP_ok hb hx hy
      refine ⟨.bool (!b), ?_, ?_⟩
      · rw [Sem.run_bind, run_eqGuard_ptr]; simp only [Result.andThen_ok]; exact h1
      · cases b <;> rfl
    · cases h
  split at h
  · rename_i n g n' g'
    split at h
    · rename_i fs hd hp
      have hx0 := hx
      have hy0 := hy
      obtain ⟨xs, e1, _, _⟩ := hx0
      obtain ⟨ys, e2, _, _⟩ := hy0
      subst e1; subst e2
      have hq : peqP C.P t = true := by
        unfold TT.peq at hp
        cases hg : C.T.get t with
        | none => rw [hg] at hp; cases hp
        | some ti => rw [hg] at hp; exact C.tok.pe t ti hg hp
      have hu := C.und hd
      unfold peqP at hq
      rw [hu] at hq
      simp only [Bool.and_eq_true, Bool.not_eq_true'] at hq
      obtain ⟨⟨hn, hs⟩, heq⟩ := hq
      have hfo : C.P.fieldsOf t = fs := by unfold Program.fieldsOf; rw [hu]
      have hst : C.P.underlying t = some (.struct (C.P.fieldsOf t)) := by rw [hfo]; exact hu
      have hg := run_eqGuard_agg w op t X Y xs ys heq
      split at h
      · rename_i b hb
        cases h
        refine ⟨.bool b, ?_, rfl⟩
        rw [Sem.run_bind, hg]
        simp only [Result.andThen_ok]
        rw [run_eql_struct, run_equalIn_agg w 9999 t xs ys hst hs, hfo, eqFs_ok 9998 hx hy fs.toList b hn hb]
        rfl
      · rename_i b hb
        cases h
        refine ⟨.bool !b, ?_, rfl⟩
        rw [Sem.run_bind, hg]
        simp only [Result.andThen_ok]
        rw [run_neq_struct, run_equalIn_agg w 9999 t xs ys hst hs, hfo, eqFs_ok 9998 hx hy fs.toList b hn hb]
        rfl
      · cases h
    · cases h
  · cases h
end Go.Proofs.YtfodjmemdkibpaaDoor.V
