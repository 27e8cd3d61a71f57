/-
One operation at a time: what it makes of abstract values, and that the model's own run agrees.
-/
import Derived.Test.YtfodjmemdkibpaaDoorVa
namespace Go.Proofs.YtfodjmemdkibpaaDoor.V
open Go Go.RowKit
set_option linter.unusedSimpArgs false
set_option linter.unusedVariables false

structure AskB (b : Bool) (p q : Prop) : Prop where
  t : b = true → p
  f : b = false → q
structure Need (p q : Prop) : Prop where
  l : p
  r : q
structure Know (p q : Prop) : Prop where
  h : p → q

/-- A truth that is not known. -/
structure Any (F : Bool → Prop) : Prop where
  all : ∀ b, F b

def ev (env : Env) : Operand → AV
  | .tmp t => env t
  | .const v => cv v
  | .global g => GL g
  | .func _ => .u

theorem cv_ok {w : World} {ok : Nat → Prop} {r : Ref} (v : Value) : VR w ok (cv v) r v := by
  unfold cv
  split <;> try rfl
  rename_i s
  cases h : Nat.ble s.size maxLen with
  | true => exact ⟨rfl, Nat.ble_eq ▸ h⟩
  | false => trivial
  trivial

theorem ev_ok {C : Ctx} {env : Env} {h : Heap} {ι : Loc} {a : Act} {w : World} (R : Rel C env h ι a w) (x : Operand) :
    VR w (okB C h ι w) (ev env x) (rf h ι) (a.eval x) := by
  cases x with
  | tmp t => exact R.env t
  | const v => exact cv_ok v
  | global g => exact VR.mono (fun b hb => ⟨Nat.lt_of_lt_of_le hb.1 R.below.size, .inl hb.2, fun id hl hg => Nat.not_lt.mpr (R.base id hl b hg).1 hb.1⟩) (fun b hb => R.below.block b hb.1) _ _ _ _ (fun _ _ h => False.elim h) (C.glob g)
  | func f => trivial

/-- A value, looked at before it is handed on. -/
def fv (x : AV) (K : AV → Prop) : Prop := match x with
  | .u => K .u | .sk => K .sk | .tt => K .tt | .ff => K .ff | .bool b => K (.bool b) | .int k n => K (.int k n) | .str s => K (.str s) | .nils => K .nils
  | .sl n sz get => K (.sl n sz get) | .iadr m get => K (.iadr m get) | .agg n get => K (.agg n get) | .tup n get => K (.tup n get)
  | .nilp => K .nilp | .nilif => K .nilif | .row id => K (.row id) | .radr id sz i j => K (.radr id sz i j) | .box id off => K (.box id off) | .obj id => K (.obj id) | .mrow id i => K (.mrow id i) | .madr id i sz a b => K (.madr id i sz a b) | .ptr => K .ptr
theorem fv_eq (x : AV) (K : AV → Prop) : fv x K = K x := by cases x <;> rfl

/-! ### numbers, bools, strings -/
def avB : AV → Option Bool
  | .tt => some true
  | .ff => some false
  | .bool b => some b
  | _ => none
theorem avB_ok {w : World} {ok : Nat → Prop} {r : Ref} {x : AV} {v : Value} {b : Bool} (h : avB x = some b) (hv : VR w ok x r v) : v = .bool b := by
  cases x <;> simp [avB] at h <;> subst h <;> exact hv

def abin (op : BinOp) (x y : AV) (K : AV → Prop) (stop : Prop) : Prop :=
  match x, y with
  | .int k a, .int k' b =>
    match op with
    | .shl => Need (0 ≤ b) (K (.int k (k.wrap (a * 2 ^ (min b.toNat k.bits)))))
    | .shr => Need (0 ≤ b) (K (.int k (a.fdiv (2 ^ (min b.toNat k.bits)))))
    | _ => if k = k' then
      match op with
      | .add => K (.int k (k.wrap (a + b)))
      | .sub => K (.int k (k.wrap (a - b)))
      | .mul => K (.int k (k.wrap (a * b)))
      | .quo => Need (b ≠ 0) (K (.int k (k.wrap (a.tdiv b))))
      | .rem => Need (b ≠ 0) (K (.int k (a.tmod b)))
      | .and => K (.int k (k.wrap ((BitVec.ofInt k.bits a) &&& (BitVec.ofInt k.bits b)).toNat))
      | .or => K (.int k (k.wrap ((BitVec.ofInt k.bits a) ||| (BitVec.ofInt k.bits b)).toNat))
      | .xor => K (.int k (k.wrap ((BitVec.ofInt k.bits a) ^^^ (BitVec.ofInt k.bits b)).toNat))
      | .andNot => K (.int k (k.wrap ((BitVec.ofInt k.bits a) &&& ~~~(BitVec.ofInt k.bits b)).toNat))
      | .eql => K (.bool (decide (a = b)))
      | .neq => K (.bool (!decide (a = b)))
      | .lss => K (.bool (decide (a < b)))
      | .leq => K (.bool (decide (a ≤ b)))
      | .gtr => K (.bool (decide (b < a)))
      | .geq => K (.bool (decide (b ≤ a)))
      | _ => stop
      else stop
  | .str a, .str b =>
    match op with
    | .add => Need (a.size + b.size ≤ 9223372036854775807) (K (.str (a ++ b)))
    | .eql => K (.bool (decide (a = b)))
    | .neq => K (.bool (!decide (a = b)))
    | .lss => K (.bool (Op.bytesLess a.data.toList b.data.toList))
    | .geq => K (.bool (!Op.bytesLess a.data.toList b.data.toList))
    | .leq => K (.bool (Op.bytesLess a.data.toList b.data.toList || decide (a = b)))
    | .gtr => K (.bool (!(Op.bytesLess a.data.toList b.data.toList || decide (a = b))))
    | _ => stop
  | x, y => match avB x, avB y, op with
    | some a, some b, .eql => K (.bool (a == b))
    | some a, some b, .neq => K (.bool (a != b))
    | _, _, _ => stop

theorem bytes_eq (a b : ByteArray) : (a.toList == b.toList) = decide (a = b) := by
  rw [ByteArray.toList_eq, ByteArray.toList_eq]
  by_cases h : a = b
  · simp [h]
  · have h2 : ¬ a.data.toList = b.data.toList := fun e => h (ByteArray.ext (Array.ext' e))
    rw [decide_eq_false h]; exact beq_eq_false_iff_ne.mpr h2

section
variable {P : Program} {w : World} {ok : Nat → Prop} {r : Ref} {K : AV → Prop} {stop : Prop} {s : Sem Value}
theorem got_int {k : IntKind} {n : Int} (hk : K (.int k n)) (hr : s.run P w = .ok (.int k n) w) : stop ∨ ∃ z m, s.run P w = .ok m w ∧ VR w ok z r m ∧ K z := .inr ⟨.int k n, _, hr, rfl, hk⟩
theorem got_bool {b : Bool} (hk : K (.bool b)) (hr : s.run P w = .ok (.bool b) w) : stop ∨ ∃ z m, s.run P w = .ok m w ∧ VR w ok z r m ∧ K z := .inr ⟨.bool b, _, hr, rfl, hk⟩
theorem got_str {b : ByteArray} (hk : K (.str b)) (hs : b.size ≤ maxLen) (hr : s.run P w = .ok (.string b) w) : stop ∨ ∃ z m, s.run P w = .ok m w ∧ VR w ok z r m ∧ K z := .inr ⟨.str b, _, hr, ⟨rfl, hs⟩, hk⟩
end

def boolTy (P : TT) (t : TypeId) : Bool := match P.underlying t with | some .bool => true | _ => false
theorem boolTy_ok {C : Ctx} {t : TypeId} (h : boolTy C.T t = true) : C.P.underlying t = some .bool := by
  unfold boolTy at h
  split at h
  · rename_i hu; exact C.und hu
  · cases h

theorem abin_ok {P : Program} {w : World} {ok : Nat → Prop} {r : Ref} {op : BinOp} {x y : AV} {K : AV → Prop} {stop : Prop} (t : TypeId) (hb : P.underlying t = some .bool ∨ avB x = none)
    (h : abin op x y K stop) {v u : Value} (hx : VR w ok x r v) (hy : VR w ok y r u) (X Y : Operand) :
    stop ∨ ∃ z m, (do eqGuard op t X Y v u; binOp op t v u : Sem Value).run P w = .ok m w ∧ VR w ok z r m ∧ K z := by
  unfold abin at h
  split at h
  · rename_i k a k' b
    have hx' : v = .int k a := hx
    have hy' : u = .int k' b := hy
    subst hx'; subst hy'
    have hg : ∀ op, (eqGuard op t X Y (.int k a) (.int k' b)).run P w = .ok () w := by
      intro op; cases op <;> simp [eqGuard]
    simp only [Sem.run_bind, hg, Result.andThen_ok]
    split at h
    · have h0 := h.l
      exact got_int h.r (by simp [binOp, Op.shift, Int.not_lt.mpr h0])
    · have h0 := h.l
      exact got_int h.r (by simp [binOp, Op.shift, Int.not_lt.mpr h0])
    · split at h
      · rename_i hne1 hne2 hk
        subst hk
        split at h
        · exact got_int h (by simp [binOp, Op.intArith])
        · exact got_int h (by simp [binOp, Op.intArith])
        · exact got_int h (by simp [binOp, Op.intArith])
        · exact got_int h.r (by simp [binOp, Op.intDiv, h.l])
        · exact got_int h.r (by simp [binOp, Op.intDiv, h.l])
        · exact got_int h (by simp [binOp, Op.intBits])
        · exact got_int h (by simp [binOp, Op.intBits])
        · exact got_int h (by simp [binOp, Op.intBits])
        · exact got_int h (by simp [binOp, Op.intBits])
        · refine got_bool h ?_
          by_cases e : a = b <;> simp [binOp, Op.intCmp, e]
        · refine got_bool h ?_
          by_cases e : a = b <;> simp [binOp, Op.intCmp, e]
        · exact got_bool h (by simp [binOp, Op.intCmp])
        · exact got_bool h (by simp [binOp, Op.intCmp])
        · exact got_bool h (by simp [binOp, Op.intCmp])
        · exact got_bool h (by simp [binOp, Op.intCmp])
        · exact .inl h
      · exact .inl h
  · rename_i a b
    obtain ⟨rfl, ha⟩ : v = .string a ∧ a.size ≤ maxLen := hx
    obtain ⟨rfl, hbb⟩ : u = .string b ∧ b.size ≤ maxLen := hy
    have hg : ∀ op, (eqGuard op t X Y (.string a) (.string b)).run P w = .ok () w := by
      intro op; cases op <;> simp [eqGuard]
    simp only [Sem.run_bind, hg, Result.andThen_ok]
    split at h
    · have h0 := h.l
      refine got_str h.r (by simpa [maxLen] using h0) ?_
      have : ¬ ((a.size + b.size : Nat) : Int) > IntKind.i64.max := by
        have : IntKind.i64.max = 9223372036854775807 := by decide
        omega
      simp only [binOp, Op.stringOp]
      rw [if_neg this]; rfl
    · exact got_bool h (by simp only [binOp, Op.stringOp, bytes_eq]; rfl)
    · exact got_bool h (by simp only [binOp, Op.stringOp, bytes_eq]; rfl)
    · exact got_bool h (by simp only [binOp, Op.stringOp]; rw [ByteArray.toList_eq, ByteArray.toList_eq]; rfl)
    · exact got_bool h (by simp only [binOp, Op.stringOp]; rw [ByteArray.toList_eq, ByteArray.toList_eq]; rfl)
    · exact got_bool h (by simp only [binOp, Op.stringOp]; rw [bytes_eq, ByteArray.toList_eq, ByteArray.toList_eq]; rfl)
    · exact got_bool h (by simp only [binOp, Op.stringOp]; rw [bytes_eq, ByteArray.toList_eq, ByteArray.toList_eq]; rfl)
    · exact .inl h
  · split at h
    · rename_i hxa _ a b h1 h2 
      have := avB_ok h1 hx; subst this
      have := avB_ok h2 hy; subst this
      have ht : P.underlying t = some .bool := by
        rcases hb with hb | hb
        · exact hb
        · rw [hb] at h1; cases h1
      exact got_bool h (by simp [eqGuard, binOp, run_equal_bool w t a b ht])
    · rename_i hxa _ a b h1 h2
      have := avB_ok h1 hx; subst this
      have := avB_ok h2 hy; subst this
      have ht : P.underlying t = some .bool := by
        rcases hb with hb | hb
        · exact hb
        · rw [hb] at h1; cases h1
      exact got_bool h (by cases a <;> cases b <;> simp [eqGuard, binOp, run_equal_bool w t _ _ ht])
    · exact .inl h

end Go.Proofs.YtfodjmemdkibpaaDoor.V
