/-
The texts MD, Vt, BXo, ME, BWa, BRa, BWb, BRk, BWc, BRe, BRt, BWd, BWi, BRw, BWj, BRq, BRv, BWk, BWq, BWr, BTa, BXz, BTb, of each what the law needs.
-/
import Derived.Test.YteklnpgiloebcaaDoorQAP1
import Derived.Test.YteklnpgiloebcaaDoorRows
import Derived.ProofKit
import Derived.OpenShut
import Derived.ShutString
import Derived.ChangeOld
import Derived.SizedLaws
import Derived.JoinedCond
import Derived.ChangeArms
import Derived.Lib.Builder
import Derived.Laws.Externs
import Derived.Lib.UnsafeStr
import Derived.Lib.BufferRead
import Derived.Lib.Bytealg
import Derived.Laws.Small
import Derived.Laws.IdiomStrings
import Derived.Laws.AppendOwn
import Derived.Lib.TrimU
import Derived.Test.YteklnpgiloebcaaDoorProg
import Derived.Test.YteklnpgiloebcaaDoorCards
import Derived.Test.YteklnpgiloebcaaDoorTie
import Derived.Lib.LaidIn
import Derived.Lib.ItoaNum
import Derived.Lib.LaidU8
import Derived.Lay
import Derived.Deep.DeepHandedRow
import Derived.Deep.DeepWitnessRowRef
import Derived.Lib.DecodeN
import Derived.Lib.RuneCountTail
import Derived.Lib.MapLaws
namespace Go.Proofs.YteklnpgiloebcaaDoor.V
set_option linter.unusedVariables false
set_option linter.unusedSimpArgs false
open Go Go.RowKit

/-- A store that turns one object and nothing else. -/
def astoreN (P : TT) (t : TypeId) (x y : AV) (h : Heap) (K : Nat → MO → Prop) (stop : Prop) : Prop :=
  match P.underlying t with
  | some _ => match cellsAV y with
    | some l => (match x with
      | .madr id i sz a b => match h id with
        | .mat e sz0 n get0 o ei szi len get hole => cond (Nat.beq l.length (P.cellsOf t) && Nat.ble (b + l.length) sz && l.all noRef)
            (K id (.mat e sz0 n get0 o ei szi len (updIn get i (updRow (get i) a b l)) hole)) stop
        | _ => stop
      | .box id off => match h id with
        | .box t' l0 => cond (Nat.beq l.length (P.cellsOf t)) (cond (Nat.ble (off + l.length) l0.length) (K id (.box t' (setL l0 off l))) stop) stop
        | _ => stop
      | .radr id sz i j => match h id with
        | .row e sz' n get => cond (Nat.beq l.length (P.cellsOf t)) (cond (Nat.ble (j + l.length) sz && l.all noRef) (K id (.row e sz' n (updRow get i j l))) stop) stop
        | _ => stop
      | _ => stop)
    | none => stop
  | none => stop

/-! ### what is asked of the list itself -/
def hasEdge (o : Oper) (j : Nat) : Bool := o.after.toList.any fun e => Region.binds .any e && Nat.beq e.on j
def drawStatW (ops : Array Oper) : Bool := (List.range ops.size).all fun i => match ops.toList[i]? with
  | none => false
  | some o => (o.after.toList.all fun e => !Region.binds .any e || Nat.blt e.on i) &&
    (((looks ops o).all fun s => (List.range ops.size).all fun j => match dstOf ops j with
      | some d => !(Nat.beq d s) || hasEdge o j
      | none => true) &&
    ((List.range ops.size).all fun j => Nat.beq j i || match dstOf ops j, o.dst with
      | some d, some d' => !(Nat.beq d d')
      | _, _ => true))

/-! ### the walk, in the text's order -/
def isSt (o : Oper) : Option (TypeId × Operand × Operand) := match o.op, o.guard, o.dst with
  | .store t x y, none, none => some (t, x, y)
  | _, _, _ => none
def rdsOf (o : Oper) (env : Env) : List Nat := o.op.operands.toList.flatMap fun y => idOf (ev env y)
def rdsQ (o : Oper) (env : Env) : Option (List Nat) := match calls? o with
  | some _ => none
  | none => some (rdsOf o env)
def clear (id : Nat) : Option (List Nat) → Bool
  | some l => !memL id l
  | none => false
where memL (id : Nat) : List Nat → Bool
  | [] => false
  | x :: l => cond (Nat.beq id x) true (memL id l)
def okS (o : Oper) (id : Nat) (p : Nat × Option (List Nat)) : Bool := cond (hasEdge o p.1) true (clear id p.2)
def okQ (o : Oper) (rd : Option (List Nat)) (s : Nat × Nat) : Bool := cond (hasEdge o s.1) true (clear s.2 rd)

def aqW (C : Ctx) (ops : Array Oper) (k : List Item) : List Oper → Nat → Env → Heap → List (Nat × Option (List Nat)) → List (Nat × Nat) → Prop
  | [], _, env, h, _, _ => aexec C 400 k env h
  | o :: rest, i, env, h, past, sts => match isSt o with
    | some (t, x, y) => fv (ev env x) fun x => fv (ev env y) fun y => astoreN C.T t x y h (fun id m => cond (sts.all (fun s => hasEdge o s.1) && past.all (okS o id)) (aqW C ops k rest (i + 1) env (upd h id m) past ((i, id) :: sts)) False) False
    | none => withDst o fun dst => cond (okD C dst) (match o.guard with
      | none => cond (sts.all (okQ o (rdsQ o env))) (aqStep C h o dst env (fun env' => aqW C ops k rest (i + 1) env' h ((i, rdsQ o env) :: past) sts)) False
      | some (j, want) => match dstOf ops j with
        | some d => match env d with
          | .tt => cond want (cond (sts.all (okQ o (rdsQ o env))) (aqStep C h o dst env (fun env' => aqW C ops k rest (i + 1) env' h ((i, rdsQ o env) :: past) sts)) False) (aqW C ops k rest (i + 1) (putE env dst .sk) h ((i, some []) :: past) sts)
          | .ff => cond want (aqW C ops k rest (i + 1) (putE env dst .sk) h ((i, some []) :: past) sts) (cond (sts.all (okQ o (rdsQ o env))) (aqStep C h o dst env (fun env' => aqW C ops k rest (i + 1) env' h ((i, rdsQ o env) :: past) sts)) False)
          | .sk => aqW C ops k rest (i + 1) (putE env dst .sk) h ((i, some []) :: past) sts
          | _ => False
        | none => False) False

/-! ### what the walk says, whatever the order -/
inductive Rec where
  | st (id : Nat)
  | q (rd : Option (List Nat))

def StSem (C : Ctx) (h h' : Heap) (t : TypeId) (x y : Operand) (E : Env) : Prop :=
  ∀ env ι a w, Rel C env h ι a w → VR w (okB C h ι w) (ev E x) (rf h ι) (a.eval x) → VR w (okB C h ι w) (ev E y) (rf h ι) (a.eval y) →
    ∃ w' ι', (Instr.storeAt t (a.eval x) (a.eval y)).run C.P w = .ok () w' ∧ Rel C env h' ι' a w'

def OpW (C : Ctx) (ops : Array Oper) (E : Env) (Hs : Nat → Heap) (rec : Nat → Rec) (j : Nat) : Prop :=
  ∃ o, ops[j]? = some o ∧ match rec j with
    | .st id => o.dst = none ∧ (∃ m, Hs (j + 1) = upd (Hs j) id m) ∧ ∃ t x y, o.op = .store t x y ∧ o.guard = none ∧ StSem C (Hs j) (Hs (j + 1)) t x y E
    | .q rd => okD C o.dst = true ∧ Hs (j + 1) = Hs j ∧
      ((GuardSem ops E o true ∧ ∃ x, (∀ h', (∀ id, clear id rd = false → h' id = Hs j id) → Quiet C h' o (ev E) x) ∧ ∀ d, o.dst = some d → Le x (E d)) ∨ (GuardSem ops E o false ∧ ∀ d, o.dst = some d → Le .sk (E d)))

def Pair (o : Oper) (j' : Nat) : Rec → Rec → Bool
  | .st _, .st _ => hasEdge o j'
  | .st id, .q rd => okS o id (j', rd)
  | .q rd, .st id => okQ o rd (j', id)
  | .q _, .q _ => true

section
variable {C : Ctx} {ops : Array Oper}

/-! ### in any order -/
def drawStatWX (ops : Array Oper) : Bool := drawStatW ops && ops.toList.all fun o => !memOp o
end

end Go.Proofs.YteklnpgiloebcaaDoor.V

namespace Go.Proofs.YteklnpgiloebcaaDoor.V
set_option linter.unusedVariables false
set_option linter.unusedSimpArgs false
open Go Go.RowKit

structure Both (p q : Prop) : Prop where
  one : p
  two : q

/-- Does i wait for j, itself or by way of others? -/
def reachB (ops : Array Oper) : Nat → Nat → Nat → Bool
  | 0, _, _ => false
  | f + 1, i, j => match ops.toList[i]? with
    | some o => (o.after.toList.any fun e => Region.binds .any e && Nat.beq e.on j) || o.after.toList.any fun e => Region.binds .any e && reachB ops f e.on j
    | none => false
def Closed (ops : Array Oper) (listed : Array Bool) : Prop := ∀ (i : Nat) o, ops[i]? = some o → listed.getD i false = true → ∀ e ∈ o.after, Region.binds .any e = true → listed.getD e.on false = true
theorem getD_mono {listed : Array Bool} {i j : Nat} (h : listed.getD j false = true) : (listed.setIfInBounds i true).getD j false = true := by
  rw [Array.getD_eq_getD_getElem?] at h ⊢
  rw [Array.getElem?_setIfInBounds]
  split
  · split
    · rfl
    · subst_vars
      rename_i h2
      rw [Array.getElem?_eq_none (by omega)] at h; cases h
  · exact h
theorem Closed.set {ops : Array Oper} {listed : Array Bool} {i : Nat} (hc : Closed ops listed) (hpre : ∀ o, ops[i]? = some o → ∀ e ∈ o.after, Region.binds .any e = true → listed.getD e.on false = true) : Closed ops (listed.setIfInBounds i true) := by
  intro i2 o ho hl e he hb
  by_cases h : i = i2
  · subst h; exact getD_mono (hpre o ho e he hb)
  · refine getD_mono (hc i2 o ho ?_ e he hb)
    rw [Array.getD_eq_getD_getElem?, Array.getElem?_setIfInBounds, if_neg h] at hl
    rw [Array.getD_eq_getD_getElem?]; exact hl
theorem reach_listed {ops : Array Oper} {listed : Array Bool} (hc : Closed ops listed) {j : Nat} : ∀ (f i : Nat), (∀ o, ops[i]? = some o → ∀ e ∈ o.after, Region.binds .any e = true → listed.getD e.on false = true) → reachB ops f i j = true → listed.getD j false = true := by
  intro f
  induction f with
  | zero => intro i _ h; cases h
  | succ f ih =>
    intro i hpre h
    unfold reachB at h
    cases ho : ops.toList[i]? with
    | none => rw [ho] at h; cases h
    | some o =>
      have ho' : ops[i]? = some o := by simpa using ho
      rw [ho] at h
      simp only [Bool.or_eq_true] at h
      rcases h with h | h
      · obtain ⟨e, he, h3⟩ := List.any_eq_true.mp h
        rw [Bool.and_eq_true] at h3
        rw [← Nat.eq_of_beq_eq_true h3.2]
        exact hpre o ho' e (by simpa using he) h3.1
      · obtain ⟨e, he, h3⟩ := List.any_eq_true.mp h
        rw [Bool.and_eq_true] at h3
        have hl := hpre o ho' e (by simpa using he) h3.1
        exact ih e.on (fun o2 ho2 => hc e.on o2 ho2 hl) h3.2

structure Stat2 (ops : Array Oper) (p m : Nat) : Prop where
  le : p < ops.size
  mp : m ≤ p
  edge : ∀ (i : Nat) o, ops[i]? = some o → ∀ e ∈ o.after, Region.binds .any e = true → e.on < i
  look : ∀ (i : Nat) o, i < p → ops[i]? = some o → ∀ s ∈ looks ops o, ∀ j, j < p → dstOf ops j = some s → ∃ e ∈ o.after, Region.binds .any e = true ∧ e.on = j
  one : ∀ i j d, i < p → j < p → dstOf ops i = some d → dstOf ops j = some d → i = j
  tail : ∀ (i : Nat), p ≤ i → i < ops.size → ∀ j, j < i → ¬ (i = p ∧ j = m) → reachB ops 40 i j = true

def drawStat2 (ops : Array Oper) (p m : Nat) : Bool := Nat.blt p ops.size && Nat.ble m p && (List.range ops.size).all fun i => match ops.toList[i]? with
  | none => false
  | some o => (o.after.toList.all fun e => !Region.binds .any e || Nat.blt e.on i) &&
    cond (Nat.blt i p) (!storeOp o && ((looks ops o).all fun s => (List.range p).all fun j => match dstOf ops j with
      | some d => !(Nat.beq d s) || (o.after.toList.any fun e => Region.binds .any e && Nat.beq e.on j)
      | none => true) &&
    ((List.range p).all fun j => Nat.beq j i || match dstOf ops j, o.dst with
      | some d, some d' => !(Nat.beq d d')
      | _, _ => true)) ((List.range i).all fun j => (Nat.beq i p && Nat.beq j m) || reachB ops 40 i j)

theorem Stat2.of {ops : Array Oper} {p m : Nat} (hs : drawStat2 ops p m = true) : Stat2 ops p m := by
  unfold drawStat2 at hs
  rw [Bool.and_eq_true, Bool.and_eq_true] at hs
  obtain ⟨⟨hle, hmp⟩, hs⟩ := hs
  have key : ∀ (i : Nat) o, ops[i]? = some o → (o.after.toList.all fun e => !Region.binds .any e || Nat.blt e.on i) = true ∧
    cond (Nat.blt i p) (!storeOp o && ((looks ops o).all fun s => (List.range p).all fun j => match dstOf ops j with
      | some d => !(Nat.beq d s) || (o.after.toList.any fun e => Region.binds .any e && Nat.beq e.on j)
      | none => true) &&
    ((List.range p).all fun j => Nat.beq j i || match dstOf ops j, o.dst with
      | some d, some d' => !(Nat.beq d d')
      | _, _ => true)) ((List.range i).all fun j => (Nat.beq i p && Nat.beq j m) || reachB ops 40 i j) = true := by
    intro i o ho
    have hi : i < ops.size := (Array.getElem?_eq_some_iff.1 ho).1
    have := List.all_eq_true.mp hs i (List.mem_range.mpr hi)
    have ho' : ops.toList[i]? = some o := by simpa using ho
    rw [ho'] at this
    simpa only [Bool.and_eq_true] using this
  have hlt : ∀ i, i < p → Nat.blt i p = true := fun i hi => by rw [Nat.blt_eq]; exact hi
  refine ⟨by simpa [Nat.blt_eq] using hle, Nat.ble_eq ▸ hmp, ?_, ?_, ?_, ?_⟩
  · intro i o ho e he hb
    have := List.all_eq_true.mp (key i o ho).1 e (by simpa using he)
    rw [hb] at this
    simpa [Nat.blt_eq] using this
  · intro i o hip ho s hs' j hjp hj
    have h0 := (key i o ho).2
    rw [hlt i hip, cond_true, Bool.and_eq_true, Bool.and_eq_true] at h0
    have h1 := List.all_eq_true.mp h0.1.2 s hs'
    have h2 := List.all_eq_true.mp h1 j (List.mem_range.mpr hjp)
    rw [hj] at h2
    simp only [Nat.beq_refl, Bool.not_true, Bool.false_or] at h2
    obtain ⟨e, he, h3⟩ := List.any_eq_true.mp h2
    rw [Bool.and_eq_true] at h3
    exact ⟨e, by simpa using he, h3.1, Nat.eq_of_beq_eq_true h3.2⟩
  · intro i j d hip hjp hi hj
    have hi' := hi
    unfold dstOf at hi'
    cases ho : ops.toList[i]? with
    | none => rw [ho] at hi'; cases hi'
    | some o =>
      rw [ho] at hi'
      have hd : o.dst = some d := hi'
      have h0 := (key i o (by simpa using ho)).2
      rw [hlt i hip, cond_true, Bool.and_eq_true] at h0
      have h1 := List.all_eq_true.mp h0.2 j (List.mem_range.mpr hjp)
      rw [hj, hd] at h1
      simp only [Nat.beq_refl, Bool.not_true, Bool.or_false] at h1
      exact (Nat.eq_of_beq_eq_true h1).symm
  · intro i hip hi j hj hne
    obtain ⟨o, ho⟩ : ∃ o, ops[i]? = some o := ⟨_, Array.getElem?_eq_getElem hi⟩
    have h0 := (key i o ho).2
    have : Nat.blt i p = false := by rw [Bool.eq_false_iff]; intro e; rw [Nat.blt_eq] at e; omega
    rw [this, cond_false] at h0
    have h1 := List.all_eq_true.mp h0 j (List.mem_range.mpr hj)
    rw [Bool.or_eq_true] at h1
    rcases h1 with h1 | h1
    · rw [Bool.and_eq_true] at h1
      exact absurd ⟨Nat.eq_of_beq_eq_true h1.1, Nat.eq_of_beq_eq_true h1.2⟩ hne
    · exact h1

section
variable {C : Ctx} {h : Heap} {ops : Array Oper}

theorem sched_tail2 {p m0 : Nat} (S : Stat2 ops p m0) : ∀ (m q : Nat) (listed : Array Bool) (l : List Nat), m = ops.size - q → p ≤ q → q ≤ ops.size → listed.size = ops.size → (∀ j, j < q → listed.getD j true = true) → (∀ j, q ≤ j → j < ops.size → listed.getD j true = false) →
    Closed ops listed → Sched ops listed l → l = List.range' q (ops.size - q) := by
  intro m
  induction m with
  | zero =>
    intro q listed l hm hpq hqs hsz h1 h2 hcl hs
    have hq : q = ops.size := by omega
    subst hq
    rw [Nat.sub_self]
    cases l with
    | nil => rfl
    | cons i rest => obtain ⟨hi, hil, _⟩ := hs; rw [h1 i hi] at hil; cases hil
  | succ m ih =>
    intro q listed l hm hpq hqs hsz h1 h2 hcl hs
    have hq : q < ops.size := by omega
    cases l with
    | nil => have := hs q hq; rw [h2 q (Nat.le_refl _) hq] at this; cases this
    | cons i rest =>
      obtain ⟨hi, hil, hpre, hs'⟩ := hs
      have hqi : q ≤ i := by
        rcases Nat.lt_or_ge i q with h' | h'
        · rw [h1 i h'] at hil; cases hil
        · exact h'
      have hiq : i = q := by
        rcases Nat.lt_or_ge q i with h' | h'
        · exfalso
          have hmp := S.mp
          have := reach_listed hcl 40 i hpre (S.tail i (by omega) hi q h' (by omega))
          rw [getD_two (b := true) (by omega), h2 q (Nat.le_refl _) hq] at this; cases this
        · omega
      subst hiq
      have e1 : ops.size - i = (ops.size - (i + 1)) + 1 := by omega
      rw [e1, List.range'_succ]
      congr 1
      refine ih (i + 1) (listed.setIfInBounds i true) rest (by omega) (by omega) (by omega) (by simpa using hsz) (fun j hj => ?_) (fun j hj1 hj2 => ?_) (hcl.set hpre) hs'
      · rw [getD_set]
        split
        · rfl
        · exact h1 j (by omega)
      · rw [getD_set, if_neg (by omega)]
        exact h2 j (by omega) hj2

theorem any_ok3 {p : Nat} (S : Stat2 ops p p) {k : List Item} {E : Env} (hall : ∀ j, j < p → OpSem C h ops E j) (next : Run C (.inRegion ops (List.range' p (ops.size - p)) :: k) E h) :
    ∀ (l : List Nat) (listed : Array Bool), listed.size = ops.size → (∀ j, p ≤ j → j < ops.size → listed.getD j true = false) → Closed ops listed → Sched ops listed l → Run C (.inRegion ops l :: k) (envX ops p E listed) h := by
  have hple := S.le
  have fin : ∀ (l : List Nat) (listed : Array Bool), listed.size = ops.size → (∀ j, p ≤ j → j < ops.size → listed.getD j true = false) → (∀ j, j < p → listed.getD j true = true) → Closed ops listed → Sched ops listed l → Run C (.inRegion ops l :: k) (envX ops p E listed) h := by
    intro l listed hsz h2 h1 hcl hs
    rw [sched_tail2 S _ p listed l rfl (Nat.le_refl _) (by omega) hsz h1 h2 hcl hs]
    refine Run.weaken (fun s => ?_) (fun _ => MOle.refl _) next
    unfold envX
    rw [unl_false (fun j hj _ => h1 j hj)]
    exact Le.refl _
  intro l
  induction l with
  | nil =>
    intro listed hsz h2 hcl hs
    refine fin [] listed hsz h2 (fun j hj => hs j (by omega)) hcl hs
  | cons i rest ih =>
    intro listed hsz h2 hcl hs
    by_cases hip : p ≤ i
    · have hs0 := hs
      obtain ⟨hi, hil, hpre, hs'⟩ := hs
      have hwait : ∀ j, j < i → listed.getD j true = true := fun j hj => by
        have := reach_listed hcl 40 i hpre (S.tail i hip hi j hj (by omega))
        rw [getD_two (b := false) (by omega)]; exact this
      exact fin (i :: rest) listed hsz h2 (fun j hj => hwait j (by omega)) hcl hs0
    have hip : i < p := by omega
    obtain ⟨hi, hil, hpre, hs'⟩ := hs
    obtain ⟨o, ho, hd, hsem⟩ := hall i hip
    have hdsti : dstOf ops i = o.dst := by unfold dstOf; rw [show ops.toList[i]? = some o by simpa using ho]; rfl
    have hlk : ∀ s ∈ looks ops o, envX ops p E listed s = E s := by
      intro s hs2
      unfold envX
      rw [unl_false (fun j hjp hj => ?_)]
      · rfl
      · obtain ⟨e, h1, h2, h3⟩ := S.look i o hip ho s hs2 j hjp hj
        have := hpre o ho e h1 h2
        rw [h3] at this
        have hjl : j < listed.size := by rw [hsz]; exact dstOf_lt hj
        rw [getD_two (b := false) hjl]; exact this
    have hrec := ih (listed.setIfInBounds i true) (by simpa using hsz) (fun j h1 h3 => by rw [getD_set, if_neg (by omega)]; exact h2 j h1 h3) (hcl.set hpre) hs'
    have hw : ∀ (want' : Bool), GuardSem ops E o want' → ∀ ι a w, Rel C (envX ops p E listed) h ι a w → Region.wanted o (yielded ops a.tmps) = want' := by
      intro want' hgs ι a w R
      unfold GuardSem at hgs
      split at hgs
      · rename_i hg; rw [hgs]; exact wanted_none hg _
      · rename_i j want hg
        obtain ⟨d, hj, hbb⟩ := hgs
        have hv := R.env d
        rw [hlk d (looks_guard hg hj)] at hv
        rcases hbb with ⟨b, hb, rfl⟩ | ⟨hb, rfl⟩
        · have hv := hb _ _ _ _ hv
          have hy : yielded ops a.tmps j = some b := by
            have hj' : (ops[j]?).bind (·.dst) = some d := by unfold dstOf at hj; simpa using hj
            unfold yielded
            rw [hj']
            rw [Array.getD_eq_getD_getElem?] at hv
            simp only [Option.bind_some]
            cases hq2 : a.tmps[d]? with
            | none => rw [hq2] at hv; cases hv
            | some u => rw [hq2] at hv; simp only [Option.getD_some] at hv; subst hv; rfl
          exact wanted_some hg hy
        · exact wanted_sk hg (yield_sk hj (hb _ _ _ _ hv))
    have hle : ∀ (x : AV), (∀ d, o.dst = some d → Le x (E d)) → ∀ s, Le (putE (envX ops p E listed) o.dst x s) (envX ops p E (listed.setIfInBounds i true) s) := by
      intro x hx s
      by_cases hsd : o.dst = some s
      · rw [hsd]
        simp only [putE, upd_same]
        unfold envX
        cases unl ops p (listed.setIfInBounds i true) s with
        | true => exact Le.u _
        | false => exact hx s hsd
      · have e1 : putE (envX ops p E listed) o.dst x s = envX ops p E listed s := by
          cases hq : o.dst with
          | none => rfl
          | some d => exact upd_other _ _ (fun e => hsd (by rw [hq, e]))
        rw [e1]
        unfold envX
        cases hu : unl ops p (listed.setIfInBounds i true) s with
        | true => exact Le.u _
        | false =>
          have : unl ops p listed s = false := by
            refine unl_false fun j hjp hj => ?_
            unfold unl at hu
            rw [List.any_eq_false] at hu
            have := hu j (List.mem_range.mpr hjp)
            simp only [hj, beq_self_eq_true, Bool.and_true, Bool.not_eq_true, Bool.not_eq_false'] at this
            rw [getD_set] at this
            by_cases hij : i = j
            · subst hij; exact absurd (hdsti ▸ hj) hsd
            · rwa [if_neg hij] at this
          rw [this]; exact Le.refl _
    rcases hsem with ⟨hgs, x, hq, hx⟩ | ⟨hgs, hx⟩
    · refine Run.of_step fun ι a w b cs _ R => ?_
      obtain ⟨v, w', ι', hst, R', hv⟩ := hq _ ι a w R (fun y hy => by
        have := ev_ok R y
        cases y with
        | tmp s => have e : ev (envX ops p E listed) (.tmp s) = ev E (.tmp s) := hlk s (looks_tmp hy)
                   rw [e] at this; exact this
        | const v => exact this
        | global g => exact this
        | func f => exact this) b k cs ops i rest ho (hw true hgs ι a w R)
      exact ⟨_, h, ι', _, w', _, hst, (R'.put hv hd).weaken (hle x hx) (fun _ => MOle.refl _), hrec⟩
    · exact skip_ok ho hd (hw false hgs) (Run.weaken (hle .sk hx) (fun _ => MOle.refl _) hrec)


/-- Where the first statement stands that makes memory or stores. -/
def pfxM : List Oper → Nat → Nat
  | [], i => i
  | o :: rest, i => cond (storeOp o) i (pfxM rest (i + 1))

theorem Run.drawT {id : Nat} {k : List Item} {env : Env} (hm : C.P.follows .mixedOrders = true) (hs : drawStat2 ops (pfxM ops.toList 0) (pfxM ops.toList 0) = true)
    (hq : (fun p => aq C h ops (ops.toList.take p) env (fun E => aexec C 400 (.inRegion ops (List.range' p (ops.size - p)) :: k) E h)) (pfxM ops.toList 0)) :
    Run C (.code (.region id ops true) :: k) env h := by
  generalize pfxM ops.toList 0 = p at hs hq
  have S := Stat2.of hs
  refine ⟨fun ι a w b cs hb hkd R => ?_⟩
  obtain ⟨E, hE, hE1, hE2⟩ := aq_ok (⟨by have := S.le; omega, S.edge, S.look, S.one⟩ : Stat0 ops p) (ops.toList.take p) 0 (by simp) env ι a w _ R hq
  have hf : ∀ j, j < ops.size → (Array.replicate ops.size false).getD j true = false := fun j hj => by simp [hj]
  have hrun := any_ok3 S (fun j hj => hE2 j (Nat.zero_le _) hj) (aexec_ok 400 hE) (Region.schedule (C.P.follows .mixedOrders) ops (w.tape w.drawn (.order b.fn id))) (Array.replicate ops.size false) (by simp)
    (fun j _ hj => hf j hj) (fun i o ho hl => by rw [Array.getD_eq_getD_getElem?, Array.getElem?_replicate] at hl; split at hl <;> cases hl) (sched_of hm S.edge _)
  have Rd : Rel C env h ι a { w with drawn := w.drawn + 1 } := R.grow ((Below.refl _ _).drew)
  have R' : Rel C (envX ops p E (Array.replicate ops.size false)) h ι a { w with drawn := w.drawn + 1 } := Rd.weaken (fun s => by
    unfold envX
    cases hu : unl ops p (Array.replicate ops.size false) s with
    | true => exact Le.u _
    | false =>
      refine (hE1 s fun j _ hjp hj => ?_).1
      unfold unl at hu
      rw [List.any_eq_false] at hu
      have := hu j (List.mem_range.mpr hjp)
      have hjl := dstOf_lt hj
      simp [hj, hjl] at this) (fun _ => MOle.refl _)
  obtain ⟨e, w2, fr, h1, h2, h3⟩ := hrun.run ι a _ b cs hb hkd R'
  exact ⟨e, w2, fr, h1, Comes.of_steps (.one step_region_draw) h2, h3⟩

end
end Go.Proofs.YteklnpgiloebcaaDoor.V

namespace Go.Proofs.YteklnpgiloebcaaDoor.V
set_option linter.unusedVariables false
set_option linter.unusedSimpArgs false
open Go Go.RowKit

/-! ### references told anew -/
/-! ### contracts -/
def objsH (objs : List MO) : Heap := fun k => objs.getD k .dead

/-- Where what a call answers may lie: in what its arguments lead to, or in new memory that is not among what is handed over. -/
def okF (S : Nat → Prop) (B : Nat) (objs : List MO) (ι : Loc) (w' : World) (b : Nat) : Prop := b < w'.heap.size ∧ (S b ∨ B ≤ b) ∧ ∀ k, objsH objs k ≠ .dead → ¬ owns (objsH objs k) (ι k) b

structure Fresh (S : Nat → Prop) (B : Nat) (objs : List MO) (ι : Loc) (w' : World) : Prop where
  obj : ∀ k, MR B w' (okF S B objs ι w') (rf (objsH objs) ι) (objsH objs k) (ι k)
  one : ∀ k i, (ι k i).oneCell' = true
  base : ∀ k, objsH objs k ≠ .dead → ∀ g, owns (objsH objs k) (ι k) g → B ≤ g ∧ g < w'.heap.size
  apart : ∀ k k', objsH objs k ≠ .dead → objsH objs k' ≠ .dead → k ≠ k' → ∀ g, owns (objsH objs k) (ι k) g → ¬ owns (objsH objs k') (ι k') g

def PostF (S : Nat → Prop) (w : World) (r : AV) (objs : List MO) (e : Ending) (w' : World) : Prop :=
  ∃ v ι, e = .returned v ∧ Below w.heap.size w w' ∧ Fresh S w.heap.size objs ι w' ∧ VR w' (okF S w.heap.size objs ι w') r (rf (objsH objs) ι) v

/-- Called with what reads as 'args', the function returns what reads as 'r', with new memory that is the caller's own; nothing that was there has changed. -/
structure FnF (P : Program) (f : FuncId) (args : List AV) (r : AV) (objs : List MO) : Prop where
  there : ∃ fn, P.funcs[f]? = some fn ∧ fn.name ≠ "runtime.NumGoroutine" ∧ fn.body.isNone = false
  calls : ∀ (S : Nat → Prop) (w : World) (vs : Array Value), (∀ b, S b → b < w.heap.size) → GlobOk S w → args.length = vs.size →
    (∀ (i : Nat) x v, args[i]? = some x → vs[i]? = some v → VR w S x noref v) → Calls P f vs w (PostF S w r objs)

section
variable {C : Ctx} {env : Env} {h : Heap} {ι : Loc} {a : Act} {w : World}

/-- What is handed over: the objects 'ids', told as 'objs'. -/
def handed (ids : List Nat) (objs : List MO) (h : Heap) : Prop := match ids, objs with
  | [], [] => True
  | id :: ids, m :: objs => MOle (h id) m ∧ handed ids objs h
  | _, _ => False

def memL (ids : List Nat) (id : Nat) : Bool := match ids with
  | [] => false
  | x :: l => cond (Nat.beq id x) true (memL l id)
/-! ### calling them -/
/-! ### answers that hold no memory but their own -/
def FlatM : MO → Prop
  | .row _ sz n get => ∀ i j, i < n → j < sz → flat (get i j) = true
  | .mat _ sz n get0 o _ szi len get _ => (∀ i j, i < n → j < sz → j ≠ o → flat (get0 i j) = true) ∧ ∀ i a b, i < n → a < len i → b < szi → flat (get i a b) = true
  | .box _ l => ∀ x ∈ l, flat x = true
  | .frame _ _ => False
  | .clo _ l => ∀ x ∈ l, flat x = true
  | _ => True

/-! ### what is given up may be read for ever -/
def repl (z : Nat) (y : AV) (g : Nat → AV) : AV → AV
  | .row id => cond (Nat.beq id z) y (.row id)
  | .radr id sz i j => cond (Nat.beq id z) .u (.radr id sz i j)
  | .box id off => cond (Nat.beq id z) .u (.box id off)
  | .obj id => cond (Nat.beq id z) .u (.obj id)
  | .mrow id i => cond (Nat.beq id z) (g i) (.mrow id i)
  | .madr id i sz a b => cond (Nat.beq id z) .u (.madr id i sz a b)
  | .agg n get => .agg n (fun j => repl z y g (get j))
  | .tup n get => .tup n (fun j => repl z y g (get j))
  | x => x
theorem repl_scr (z : Nat) (y : AV) (g : Nat → AV) : Scr (repl z y g) := by
  refine ⟨fun _ _ => rfl, fun _ _ => rfl, fun x h1 h2 h3 => ?_⟩
  cases x <;> first
    | rfl
    | exact absurd rfl (h2 _ _)
    | exact absurd rfl (h3 _ _)
    | exact absurd rfl (h1 (fun _ => .dead) (fun _ _ => .nilIface) _)
    | (exfalso; exact h1 (fun _ => .dead) (fun _ _ => .nilIface) _ ⟨rfl, trivial⟩)
    | (exfalso; exact h1 (fun _ => .dead) (fun _ _ => .slice (some ⟨0, 0, none⟩) 0 0) _ ⟨0, 0, 0, rfl, rfl, trivial⟩)
    | (exfalso; exact h1 (fun _ => .dead) (fun _ _ => .pointer (some ⟨0, 0, none⟩)) _ ⟨0, rfl, rfl⟩)

theorem Rel.freeze (R : Rel C env h ι a w) (z : Nat) (hl : h z ≠ .dead) {y : AV} {g : Nat → AV}
    (hy : ∀ ok, (∀ b, okB C h ι w b → ok b) → (∀ b, owns (h z) (ι z) b → ok b) → ∀ r, VR w ok y r (ι z 0))
    (hg : ∀ ok, (∀ b, okB C h ι w b → ok b) → (∀ b, owns (h z) (ι z) b → ok b) → ∀ r i, (match h z with | .mat _ _ n _ _ _ _ _ _ hole => i < n ∧ hole ≠ some i | _ => True) → VR w ok (g i) r (ι z (i + 1))) :
    Rel C (fun i => repl z y g (env i)) (upd (upd (fun id => scrM (repl z y g) (h id)) z .dead) z .dead) (upd ι z (ι z)) a w := by
  have S := repl_scr z y g
  have hι : ∀ id, upd ι z (ι z) id = ι id := fun id => by
    by_cases e : id = z
    · subst e; rw [upd_same]
    · rw [upd_other _ _ e]
  have hoz : ∀ b, owns .dead (ι z) b → owns (h z) (ι z) b := fun b hb => owns_zero hb
  refine (R.remake S z z .dead (ι z) w (Below.refl _ _) (fun _ _ => rfl) (fun _ _ _ _ _ _ => rfl) (R.one z) (fun g' hg' => R.base z hl g' (hoz g' hg')) (fun g' hg' hok => hok.2.2 z hl (hoz g' hg'))
    (fun id hd _ hl2 g' hg' hg2 => R.apart id z hl2 hl hd g' hg' (hoz g' hg2)) (fun hok x v hr => ?_) (fun hok => trivial)).1
  have hokz : ∀ b, owns (h z) (ι z) b → okB C (upd (upd (fun id => scrM (repl z y g) (h id)) z .dead) z .dead) (upd ι z (ι z)) w b := by
    intro b hb
    have := R.base z hl b hb
    refine ⟨this.2, .inr this.1, fun id hl2 hg' => ?_⟩
    by_cases e : id = z
    · subst e; rw [upd_same] at hl2; exact hl2 rfl
    · rw [upd_other _ _ e, upd_other _ _ e, upd_other _ _ e, owns_scrM] at hg'
      rw [upd_other _ _ e, upd_other _ _ e] at hl2
      exact R.apart id z (fun e2 => hl2 (scrM_dead.mpr e2)) hl e b hg' hb
  have hmem : ∀ id, id ≠ z → upd (upd (fun id => scrM (repl z y g) (h id)) z .dead) z .dead id = scrM (repl z y g) (h id) := fun id e => by rw [upd_other _ _ e, upd_other _ _ e]
  cases x with
  | row id =>
    by_cases e : id = z
    · subst e
      simp only [repl, Nat.beq_refl, cond_true]
      rw [show v = ι id 0 from hr]
      exact hy _ hok hokz _
    · simp only [repl, beq_ne e, cond_false, VR]
      exact (show v = ι id 0 from hr).trans (by rw [hι])
  | obj id =>
    by_cases e : id = z
    · subst e; simp only [repl, Nat.beq_refl, cond_true, VR]
    · simp only [repl, beq_ne e, cond_false, VR]
      exact (show v = ι id 0 from hr).trans (by rw [hι])
  | box id off =>
    by_cases e : id = z
    · subst e; simp only [repl, Nat.beq_refl, cond_true, VR]
    · simp only [repl, beq_ne e, cond_false, VR]
      obtain ⟨g', h1, h2⟩ := hr
      exact ⟨g', by rw [hι]; exact h1, h2⟩
  | radr id sz i j =>
    by_cases e : id = z
    · subst e; simp only [repl, Nat.beq_refl, cond_true, VR]
    · simp only [repl, beq_ne e, cond_false, VR]
      obtain ⟨g', n, c, h1, h2, h3⟩ := hr
      refine ⟨g', n, c, by rw [hι]; exact h1, h2, ?_⟩
      rw [hmem id e]
      cases hq : h id <;> rw [hq] at h3 <;> first | trivial | exact h3
  | mrow id i =>
    by_cases e : id = z
    · subst e
      simp only [repl, Nat.beq_refl, cond_true]
      rw [hr.1]
      exact hg _ hok hokz _ i hr.2
    · simp only [repl, beq_ne e, cond_false, VR]
      refine ⟨hr.1.trans (by rw [hι]), ?_⟩
      have h3 := hr.2
      rw [hmem id e]
      cases hq : h id <;> rw [hq] at h3 <;> first | trivial | exact h3
  | madr id i sz a b =>
    by_cases e : id = z
    · subst e; simp only [repl, Nat.beq_refl, cond_true, VR]
    · simp only [repl, beq_ne e, cond_false, VR]
      obtain ⟨g', n, c, h1, h2, h3⟩ := hr
      refine ⟨g', n, c, by rw [hι]; exact h1, h2, ?_⟩
      rw [hmem id e]
      cases hq : h id <;> rw [hq] at h3 <;> first | trivial | exact h3
  | _ => exact absurd hr (by simp [rf])

/-- An own row is given up: from now on it is a slice like any other. -/
theorem Run.freeze {k : List Item} (z : Nat) {e sz n : Nat} {get : Nat → Nat → AV} (hz : h z = .row e sz n get)
    (hr : Run C k (fun i => repl z (.sl n sz get) (fun _ => .u) (env i)) (upd (upd (fun id => scrM (repl z (.sl n sz get) (fun _ => .u)) (h id)) z .dead) z .dead)) : Run C k env h :=
  ⟨fun ι a w b cs hb hkd R => hr.run _ a w b cs hb hkd (R.freeze z (by rw [hz]; simp) (fun ok h1 h2 r => row_sl R hz h1 h2 r) (fun _ _ _ _ _ _ => trivial))⟩
end

end Go.Proofs.YteklnpgiloebcaaDoor.V

namespace Go.Proofs.YteklnpgiloebcaaDoor.V
set_option linter.unusedVariables false
set_option linter.unusedSimpArgs false
open Go Go.RowKit

/-- Lists of lists, each one's own. -/
def Ty.M {α : Type} (T : Ty α) (eo ei : Nat) (ls : List (List α)) : MO := .mat eo 1 ls.length (fun _ _ => .u) 0 ei T.sz (fun i => (ls.getD i []).length) (fun i a b => T.G (ls.getD i []) a b) none

/-- Lists of lists that are only read. -/
def tL {α : Type} (T : Ty α) : Ty (List α) := ⟨1, fun l _ => T.L l, []⟩
theorem Le.tt' {b : Bool} (h : b = true) : Le (.bool b) .tt := by subst h; exact fun _ _ _ _ h => h
theorem Le.one {x y : AV} (h : Le x y) : ∀ (j : Nat) z, [x][j]? = some z → Le z y := by
  intro j z hz
  cases j with
  | zero => cases hz; exact h
  | succ j => cases hz

/-! ### a list turned from its head on -/
/-! ### answers of several parts -/
def tupL (l : List AV) : AV := .tup l.length (fun j => l.getD j .u)
theorem ArgsLe.get {xs ys : List AV} (h : ArgsLe xs ys) (j : Nat) (hj : j < xs.length) : Le (xs.getD j .u) (ys.getD j .u) := by
  obtain ⟨h1, h2⟩ := h.at
  have hj2 : j < ys.length := by omega
  obtain ⟨x, hx, hle⟩ := h2 j ys[j] (List.getElem?_eq_getElem hj2)
  rw [List.getD, hx, List.getD, List.getElem?_eq_getElem hj2]
  exact hle
theorem resT {env : Env} {h : Heap} {t u : Nat} {ts : List Nat} {ys : List AV} (hle : ArgsLe ((t :: u :: ts).map fun t => fz h (env t)) ys) : Le (fz h (resAV env (t :: u :: ts))) (V.tupL ys) := by
  have h1 := hle.at.1
  unfold V.tupL
  rw [h1, List.length_map]
  refine Le.tup fun j hj => ?_
  have := hle.get j (by simpa using hj)
  rw [List.getD, List.getElem?_map, List.getElem?_eq_getElem hj] at this
  show Le (fz h (env ((t :: u :: ts).getD j 0))) _
  rw [List.getD, List.getElem?_eq_getElem hj]
  exact this
/-- Code that several ways reach (behind a label): shown once, under whatever its items turn out to be. -/
theorem Run.cutAt {C : Ctx} {env : Env} {h : Heap} {k0 : List Item} (kk : List Item) (A : Ctx → List Item → Prop) (main : A C kk → Run C k0 env h) (g : A C kk) : Run C k0 env h := main g
/-- Behind a goto's label. -/
theorem Run.skipSeq {C : Ctx} {env : Env} {h : Heap} {c : Code} {k : List Item} (hr : Run C (.code c :: k) env h) : Run C (.code (.seq .skip c) :: k) env h := Run.quiet (fun b a cs w => step_seq) (Run.quiet (fun b a cs w => step_skip) hr)
end Go.Proofs.YteklnpgiloebcaaDoor.V

namespace Go.Proofs.YteklnpgiloebcaaDoor.V
set_option linter.unusedVariables false
set_option linter.unusedSimpArgs false
open Go
set_option maxRecDepth 100000
end Go.Proofs.YteklnpgiloebcaaDoor.V

namespace Go.Proofs.YteklnpgiloebcaaDoor.V
set_option linter.unusedVariables false
set_option linter.unusedSimpArgs false
open Go Go.RowKit Go.ChangeShapes Go.WideShapes Go.ChangeAt

/-- Cells that read as x. -/
def CellsAt {α : Type} (w : World) (T : Ty α) (x : α) (off : Nat) (cs : List Value) : Prop := ∀ j, j < T.sz → ∃ cv, cs[off + j]? = some cv ∧ cv.oneCell' = true ∧ VR w (fun b => b < w.heap.size) (T.enc x j) noref cv

structure Dec (P : Program) (t : TypeId) {α : Type} (T : Ty α) (bk : α → Nat) : Prop where
  size : P.cellsOf t = T.sz
  read : ∀ {H : Type} (enc : TypeId × Value → H) (w : World) (fuel : Nat) (cs : List Value) (d : DataW H) ps, DataW.trod enc P w 0 (fun _ => true) true fuel t cs = some (d, ps) →
    ∃ x : α, CellsAt w T x 0 cs ∧ bk x ≤ Rows.uptoBulk d

theorem cells_one1 {α : Type} {w : World} {T : Ty α} {x : α} {v : Value} (hs : T.sz = 1) (h1 : v.oneCell' = true) (hv : VR w (fun b => b < w.heap.size) (T.enc x 0) noref v) : CellsAt w T x 0 [v] := by
  intro j hj
  have : j = 0 := by omega
  subst this
  exact ⟨v, rfl, h1, hv⟩
def tK (k : IntKind) : Ty Int := ⟨1, fun x _ => .int k x, 0⟩
theorem Dec.int {P : Program} {t : TypeId} {k : IntKind} (hu : P.underlying t = some (.int k)) (hc : P.cellsOf t = 1) : Dec P t (tK k) (fun _ => 1) := by
  refine ⟨hc, fun enc w fuel cs d ps h => ?_⟩
  obtain ⟨n, rfl, e, _⟩ := DataW.trod_int hu h
  cases e
  exact ⟨n, cells_one1 rfl rfl rfl, by simp [Rows.uptoBulk]⟩
theorem Dec.bool {P : Program} {t : TypeId} (hu : P.underlying t = some .bool) (hc : P.cellsOf t = 1) : Dec P t tB (fun _ => 1) := by
  refine ⟨hc, fun enc w fuel cs d ps h => ?_⟩
  obtain ⟨n, rfl, e⟩ := DataW.trod_bool hu h
  cases e
  exact ⟨n, cells_one1 rfl rfl rfl, by simp [Rows.uptoBulk]⟩
theorem Dec.str {P : Program} {t : TypeId} (hu : P.underlying t = some .string) (hc : P.cellsOf t = 1) : Dec P t tS (fun x => x.size + 1) := by
  refine ⟨hc, fun enc w fuel cs d ps h => ?_⟩
  obtain ⟨n, rfl, e, hs⟩ := DataW.trod_string hu h
  cases e
  exact ⟨n, cells_one1 rfl rfl ⟨rfl, hs⟩, by simp [Rows.uptoBulk]⟩

def sumL {α : Type} (bk : α → Nat) : List α → Nat
  | [] => 0
  | x :: l => bk x + sumL bk l
theorem sumL_append {α : Type} (bk : α → Nat) (l m : List α) : sumL bk (l ++ m) = sumL bk l + sumL bk m := by
  induction l with
  | nil => simp [sumL]
  | cons x l ih => simp only [List.cons_append, sumL, ih]; omega
theorem bulkAll_append {H : Type} (l r : List (DataW H)) : Rows.uptoBulkAll (l ++ r) = Rows.uptoBulkAll l + Rows.uptoBulkAll r := by
  induction l with
  | nil => simp [Rows.uptoBulkAll]
  | cons y l ih => simp only [List.cons_append, Rows.uptoBulkAll, ih]; omega
theorem Dec.slice {P : Program} {t e : TypeId} {α : Type} {T : Ty α} {bk : α → Nat} (hu : P.underlying t = some (.slice e)) (hc : P.cellsOf t = 1) (hz : 0 < T.sz) (D : Dec P e T bk) : Dec P t (tL T) (fun l => sumL bk l + 1) := by
  refine ⟨hc, fun enc w fuel cs d ps h => ?_⟩
  rcases DataW.trod_slice hu h with ⟨rfl, ed⟩ | ⟨a, len, cap, elems, rest, n, rfl, rfl, ed, hb, hl, hcap, hlen, hel, _, _⟩
  · cases ed
    exact ⟨[], cells_one1 rfl rfl (Ty.nil T _ _ _ _ rfl), by simp [Rows.uptoBulk, sumL]⟩
  · cases ed
    have key : ∀ m, m ≤ len → ∃ l : List α, l.length = m ∧ (∀ i, i < m → ∃ cs, w.cells? 0 (a.add (i * P.cellsOf e)) (P.cellsOf e) = some cs ∧ CellsAt w T (l.getD i T.z) 0 cs) ∧ sumL bk l ≤ Rows.uptoBulkAll ((elems.take m).map (·.1)) := by
      intro m
      induction m with
      | zero => intro _; exact ⟨[], rfl, fun i hi => absurd hi (Nat.not_lt_zero _), by simp [sumL]⟩
      | succ m ih =>
        intro hm
        obtain ⟨l, h1, h2, h3⟩ := ih (by omega)
        have he := hel m (by omega)
        rw [List.getElem?_eq_getElem (by omega : m < elems.length)] at he
        simp only [Option.bind_eq_some_iff] at he
        obtain ⟨csm, hcs, htr⟩ := he
        obtain ⟨x, hx, hbx⟩ := D.read enc w n csm elems[m].1 elems[m].2 htr
        refine ⟨l ++ [x], by simp [h1], fun i hi => ?_, ?_⟩
        · rcases Nat.lt_or_ge i m with h' | h'
          · obtain ⟨cs, h4, h5⟩ := h2 i h'
            refine ⟨cs, h4, ?_⟩
            rw [show (l ++ [x]).getD i T.z = l.getD i T.z by simp [List.getD, List.getElem?_append_left (by omega : i < l.length)]]
            exact h5
          · have : i = m := by omega
            subst this
            refine ⟨csm, hcs, ?_⟩
            rw [show (l ++ [x]).getD i T.z = x by simp [List.getD, List.getElem?_append_right (by omega : l.length ≤ i), h1]]
            exact hx
        · have ht : elems.take (m + 1) = elems.take m ++ [elems[m]] := by rw [List.take_add_one, List.getElem?_eq_getElem (by omega : m < elems.length)]; rfl
          rw [sumL_append, ht, List.map_append, bulkAll_append]
          simp only [sumL, List.map_cons, List.map_nil, Rows.uptoBulkAll]
          omega
    obtain ⟨l, h1, h2, h3⟩ := key len (Nat.le_refl _)
    refine ⟨l, cells_one1 rfl rfl ⟨some a, cap, by rw [h1], by omega, hcap, (fun e => by cases e), fun hn => ⟨a, rfl, ?_, fun i j hi hj => ?_⟩⟩, ?_⟩
    · obtain ⟨cs, h4, h5⟩ := h2 0 (by omega)
      have := World.cells?_block h4 (by rw [D.size]; exact hz)
      simpa [addr_block] using this
    · obtain ⟨cs, h4, h5⟩ := h2 i (by omega)
      obtain ⟨cv, c1, c2, c3⟩ := h5 j hj
      obtain ⟨_, _, h6⟩ := World.cells?_some h4
      refine ⟨cv, ?_, c2, c3⟩
      have := h6 j (by rw [D.size]; exact hj)
      rw [addr_add, D.size] at this
      rw [this]; simpa using c1
    · rw [List.take_of_length_le (by omega)] at h3
      simp only [Rows.uptoBulk]
      omega

/-! ### structs, field by field -/
structure DecF (P : Program) (fs : List Field) (off : Nat) {α : Type} (T : Ty α) (bk : α → Nat) : Prop where
  read : ∀ {H : Type} (enc : TypeId × Value → H) (w : World) (fuel : Nat) (cs : List Value) (xs : List (DataW H × List MemPlace)), xs.length = fs.length →
    (∀ (i : Nat) (f : Field), fs[i]? = some f → DataW.trod enc P w 0 (fun _ => true) true fuel f.type ((cs.drop f.offset).take (P.cellsOf f.type)) = xs[i]?) →
    ∃ x : α, CellsAt w T x off cs ∧ bk x ≤ Rows.uptoBulkAll (xs.map (·.1))
def tU : Ty Unit := ⟨0, fun _ _ => .u, ()⟩
def tP {α β : Type} (T : Ty α) (U : Ty β) : Ty (α × β) := ⟨T.sz + U.sz, fun x j => cond (Nat.blt j T.sz) (T.enc x.1 j) (U.enc x.2 (j - T.sz)), (T.z, U.z)⟩
theorem DecF.nil {P : Program} {off : Nat} : DecF P [] off tU (fun _ => 0) := ⟨fun enc w fuel cs xs _ _ => ⟨(), fun j hj => absurd hj (Nat.not_lt_zero _), Nat.zero_le _⟩⟩
theorem DecF.cons {P : Program} {f : Field} {fs : List Field} {off : Nat} {α β : Type} {T : Ty α} {U : Ty β} {bk : α → Nat} {bu : β → Nat} (ho : f.offset = off) (D : Dec P f.type T bk) (F : DecF P fs (off + T.sz) U bu) :
    DecF P (f :: fs) off (tP T U) (fun x => bk x.1 + bu x.2) := by
  refine ⟨fun enc w fuel cs xs hl h => ?_⟩
  cases xs with
  | nil => simp at hl
  | cons y ys =>
    have h0 := h 0 f rfl
    obtain ⟨x, hx, hbx⟩ := D.read enc w fuel _ y.1 y.2 (by rw [h0]; rfl)
    obtain ⟨u, hu, hbu⟩ := F.read enc w fuel cs ys (by simpa using hl) (fun i g hg => by simpa using h (i + 1) g (by simpa using hg))
    refine ⟨(x, u), fun j hj => ?_, by simp only [List.map_cons, Rows.uptoBulkAll]; omega⟩
    unfold tP at hj ⊢
    simp only at hj ⊢
    by_cases hjt : j < T.sz
    · rw [show Nat.blt j T.sz = true by rw [Nat.blt_eq]; exact hjt, cond_true]
      obtain ⟨cv, c1, c2, c3⟩ := hx j hjt
      refine ⟨cv, ?_, c2, c3⟩
      rw [Nat.zero_add, List.getElem?_take_of_lt (by rw [D.size]; exact hjt), List.getElem?_drop, ho] at c1
      exact c1
    · rw [show Nat.blt j T.sz = false by rw [Bool.eq_false_iff]; intro e; rw [Nat.blt_eq] at e; exact hjt e, cond_false]
      obtain ⟨cv, c1, c2, c3⟩ := hu (j - T.sz) (by omega)
      exact ⟨cv, by rw [show off + j = off + T.sz + (j - T.sz) by omega]; exact c1, c2, c3⟩
theorem Dec.struct {P : Program} {t : TypeId} {fs : Array Field} {α : Type} {T : Ty α} {bk : α → Nat} (hu : P.underlying t = some (.struct fs)) (hc : P.cellsOf t = T.sz) (F : DecF P fs.toList 0 T bk) : Dec P t T (fun x => bk x + 1) := by
  refine ⟨hc, fun enc w fuel cs d ps h => ?_⟩
  obtain ⟨xs, n, rfl, ed, hl, hlx, hf⟩ := DataW.trod_struct hu h
  cases ed
  obtain ⟨x, hx, hb⟩ := F.read enc w n cs xs (by simpa using hlx) (fun i f hif => hf i f (by simpa using hif))
  exact ⟨x, hx, by simp only [Rows.uptoBulk]; omega⟩
theorem Dec.map {P : Program} {t : TypeId} {α β : Type} {T : Ty α} {T' : Ty β} {bk : α → Nat} {bk' : β → Nat} (f : α → β) (hs : T'.sz = T.sz) (hle : ∀ x j, j < T.sz → Le (T.enc x j) (T'.enc (f x) j)) (hb : ∀ x, bk' (f x) ≤ bk x) (D : Dec P t T bk) : Dec P t T' bk' := by
  refine ⟨D.size.trans hs.symm, fun enc w fuel cs d ps h => ?_⟩
  obtain ⟨x, hx, hbx⟩ := D.read enc w fuel cs d ps h
  refine ⟨f x, fun j hj => ?_, Nat.le_trans (hb x) hbx⟩
  obtain ⟨cv, c1, c2, c3⟩ := hx j (by omega)
  exact ⟨cv, c1, c2, hle x j (by omega) _ _ _ _ c3⟩

/-! ### arguments -/
structure Arg (P : Program) (t : TypeId) {α : Type} (E : α → AV) (bk : α → Nat) : Prop where
  read : ∀ {H : Type} (enc : TypeId × Value → H) (W : World) (base : Nat) (v : Value) (d : DataW H) ps, Value.okWide P W .any base t v → DataW.Trod enc P W 0 (fun _ => true) true t v d ps →
    ∃ x : α, VR W (fun b => b < W.heap.size) (E x) noref v ∧ bk x ≤ Rows.uptoBulk d
theorem Arg.of_one {P : Program} {t : TypeId} {α : Type} {T : Ty α} {bk : α → Nat} (hs : T.sz = 1) (D : Dec P t T bk) (hv : ∀ W base v, Value.okWide P W .any base t v → v.cells = #[v]) : Arg P t (fun x => T.enc x 0) bk := by
  refine ⟨fun enc W base v d ps ok ⟨fuel, h⟩ => ?_⟩
  rw [hv W base v ok] at h
  obtain ⟨x, hx, hb⟩ := D.read enc W fuel _ d ps h
  obtain ⟨cv, c1, _, c3⟩ := hx 0 (by omega)
  cases c1
  exact ⟨x, c3, hb⟩
theorem Arg.slice {P : Program} {t e : TypeId} {α : Type} {T : Ty α} {bk : α → Nat} (hu : P.underlying t = some (.slice e)) (hc : P.cellsOf t = 1) (hz : 0 < T.sz) (D : Dec P e T bk) : Arg P t (fun l => T.L l) (fun l => sumL bk l + 1) :=
  Arg.of_one (T := tL T) rfl (Dec.slice hu hc hz D) fun W base v ok => by obtain ⟨a, l, c, rfl⟩ := okWide_slice hu ok; rfl
theorem Arg.int {P : Program} {t : TypeId} (hu : P.underlying t = some (.int .i64)) (hc : P.cellsOf t = 1) : Arg P t (fun n : Int => .int .i64 n) (fun _ => 1) :=
  Arg.of_one (T := tK .i64) rfl (Dec.int hu hc) fun W base v ok => by obtain ⟨a, rfl⟩ := okWide_int hu ok; rfl
structure ArgsD (P : Program) (ts : List TypeId) (G : List AV → Nat → Prop) : Prop where
  read : ∀ {H : Type} (enc : TypeId × Value → H) (W : World) (base : Nat) (vs : List Value) (ds : List (DataW H)) ps, (∀ (j : Nat) t v, ts[j]? = some t → vs[j]? = some v → Value.okWide P W .any base t v) →
    DataW.TrodAll enc P W 0 (fun _ => true) true ts vs ds ps →
    ∃ avs b, G avs b ∧ b ≤ Rows.uptoBulkAll ds ∧ avs.length = vs.length ∧ ∀ (i : Nat) x v, avs[i]? = some x → vs[i]? = some v → VR W (fun b => b < W.heap.size) x noref v
theorem ArgsD.nil {P : Program} : ArgsD P [] (fun avs b => avs = [] ∧ b = 0) := by
  refine ⟨fun enc W base vs ds ps ok h => ?_⟩
  obtain ⟨rfl, rfl, rfl⟩ := trodAll_nil h
  exact ⟨[], 0, ⟨rfl, rfl⟩, Nat.zero_le _, rfl, fun i x v hx => by cases hx⟩
theorem ArgsD.cons {P : Program} {t : TypeId} {ts : List TypeId} {α : Type} {E : α → AV} {bk : α → Nat} {G : List AV → Nat → Prop} (A : Arg P t E bk) (As : ArgsD P ts G) : ArgsD P (t :: ts) (fun avs b => ∃ x avs' b', avs = E x :: avs' ∧ b = bk x + b' ∧ G avs' b') := by
  refine ⟨fun enc W base vs ds ps ok h => ?_⟩
  obtain ⟨v, vs', d, ds', p, q, rfl, rfl, rfl, hd, hrest⟩ := trodAll_cons h
  obtain ⟨x, hx, hb⟩ := A.read enc W base v d p (ok 0 t v rfl rfl) hd
  obtain ⟨avs, b, hG, hb2, hlen, hall⟩ := As.read enc W base vs' ds' q (fun j t v h1 h2 => ok (j + 1) t v (by simpa using h1) (by simpa using h2)) hrest
  refine ⟨E x :: avs, bk x + b, ⟨x, avs, b, rfl, rfl, hG⟩, by simp only [Rows.uptoBulkAll]; omega, by simp [hlen], fun i y u hy hu => ?_⟩
  cases i with
  | zero => cases hy; cases hu; exact hx
  | succ i => exact hall i y u hy hu

/-- The law's call: true, and nothing that was there has turned. -/
theorem ArgsD.calls {P : Program} {f : FuncId} {ts : List TypeId} {G : List AV → Nat → Prop} (A : ArgsD P ts G) {B : Nat} (hfn : ∀ avs b, G avs b → b ≤ B → Fn P f avs .tt) {H : Type} (enc : TypeId × Value → H) (W : World) (base : Nat) (args : Array Value) (ds : List (DataW H)) ps (gl : GlobOk (fun b => b < W.heap.size) W)
    (ok : ∀ (j : Nat) t v, ts[j]? = some t → args[j]? = some v → Value.okWide P W .any base t v) (h : DataW.TrodAll enc P W 0 (fun _ => true) true ts args.toList ds ps) (hB : Rows.uptoBulkAll ds ≤ B) :
    Calls P f args W fun e W' => e = .returned (.bool true) ∧ Below W.heap.size W W' := by
  obtain ⟨avs, b, hG, hb, hlen, hall⟩ := A.read enc W base args.toList ds ps (fun j t v h1 h2 => ok j t v h1 (by simpa using h2)) h
  refine ((hfn avs b hG (by omega)).calls (fun b => b < W.heap.size) W args (fun b hb => hb) gl (by simpa using hlen) (fun i x v hx hv => hall i x v hx (by simpa using hv))).mono ?_
  rintro e W' ⟨v, rfl, hbel, hv⟩
  have : v = .bool true := hv
  subst this
  exact ⟨rfl, hbel⟩
/-- The arguments read as they did. -/
theorem stay {P : Program} (hl : laidOutB P = true) {H : Type} {enc : TypeId × Value → H} {W W' : World} (hb : Below W.heap.size W W') : ∀ {ts : List TypeId}, (ts.all fun t => P.readableRec t && Nat.blt t P.types.size) = true → ∀ {vs : List Value} {ds : List (DataW H)} {ps : List MemPlace},
    DataW.TrodAll enc P W 0 (fun _ => true) true ts vs ds ps → DataW.TrodAll enc P W' 0 (fun b => decide (b < W.heap.size)) true ts vs ds ps
  | [], _, vs, ds, ps, h => by obtain ⟨rfl, rfl, rfl⟩ := trodAll_nil h; exact trodAll_mk0
  | t :: ts, ht, vs, ds, ps, h => by
    obtain ⟨v, vs', d, ds', p, q, rfl, rfl, rfl, hd, hrest⟩ := trodAll_cons h
    rw [List.all_cons, Bool.and_eq_true, Bool.and_eq_true] at ht
    refine trodAll_cons_mk (Below.trod hl ht.1.1 (by simpa [Nat.blt_eq] using ht.1.2) hd hb ?_) (stay hl hb ht.2 hrest)
    obtain ⟨m, hm⟩ := hd
    exact DataW.trod_lt m _ _ _ hm
end Go.Proofs.YteklnpgiloebcaaDoor.V

namespace Go.Proofs.YteklnpgiloebcaaDoor.V
set_option linter.unusedVariables false
set_option linter.unusedSimpArgs false
open Go Go.RowKit
end Go.Proofs.YteklnpgiloebcaaDoor.V

namespace Go.Proofs.YteklnpgiloebcaaDoor.V
set_option linter.unusedVariables false
set_option linter.unusedSimpArgs false
open Go Go.RowKit

/-- The callee has come back to the caller's slots: a's. -/
def RetQ (C : Ctx) (a : Act) (K : Env → Heap → AV → Prop) (e : Ending) (w' : World) : Prop :=
  ∃ v ι' env' h' x, e = .returned v ∧ Rel C env' h' ι' a w' ∧ VR w' (okB C h' ι' w') x (rf h' ι') v ∧ K env' h' x

/-- What the callee is walked in. -/
def Ctx.sub (C : Ctx) (f : FuncId) (N : Nat) (a : Act) (K : Env → Heap → AV → Prop) : Ctx := { C with N := N, f := f, R := RetQ C a K, kp := ⟨[], [], .normal⟩ }

theorem Run.inline {C : Ctx} {env : Env} {h : Heap} {ops : Array Oper} {i : Nat} {rest : List Nat} {k : List Item} {o : Oper} {f : FuncId} {xs : List Operand} (F : Nat) (fn : Func) (c : Code) (N : Nat)
    (ho : ops.toList[i]? = some o) (hc : calls? o = some (f, xs)) (hf : C.P.funcs[f]? = some fn) (hb : fn.body = some c) (hname : fn.name ≠ "runtime.NumGoroutine") (hN : fn.ntmps = N) (hn : xs.length ≤ N)
    (hd : okD C o.dst = true) (hr : ready env ops o = true)
    (sub : ∀ a : Act, a.tmps.size = C.N → DK C.kp a → Run (C.sub f N a (fun env' h' x => Run C (.inRegion ops rest :: k) (putE env' o.dst x) h')) [.code c] (envOf (xs.map (ev (scrubE F env)))) (upd (upd (scrubH F h) F .dead) F (.frame a.tmps (scrubE F env)))) :
    Run C (.inRegion ops (i :: rest) :: k) env h := by
  subst hN
  refine Run.of_step fun ι a w b cs _ R => ?_
  have ho' : ops[i]? = some o := by simpa using ho
  obtain ⟨R2, hok2, S2⟩ := R.make F F (.frame a.tmps (scrubE F env)) .nilIface w (Below.refl _ _) (fun _ _ => rfl) (fun _ _ _ _ _ _ => rfl) rfl (fun g hg => by cases hg) (fun g hg => by cases hg) (fun _ _ _ _ g _ e => by cases e)
    (fun ok r hok hS hrr => by
      subst hrr
      exact fun j => VR.scrub hS hok (fun _ _ => rfl) _ _ (R.env j))
  have hcalls : Calls C.P f (xs.map a.eval).toArray w (RetQ C a (fun env' h' x => Run C (.inRegion ops rest :: k) (putE env' o.dst x) h')) := by
    intro cs2
    let b2 : Frame := { (default : Frame) with fn := f, kind := .normal }
    have henter : Frame.enter C.P f (xs.map a.eval).toArray .normal = b2.at { tmps := (xs.map a.eval).toArray ++ Array.replicate (fn.ntmps - (xs.map a.eval).toArray.size) undef, defers := [] } [.code c] := by
      simp [Frame.enter, Frame.at, hf, hb, b2]
    rw [henter]
    refine exK ((sub a R.size R.defers).run (upd ι F (fun _ => .nilIface)) _ w b2 cs2 rfl rfl ?_)
    constructor
    · exact R.below
    · exact ⟨rfl, fun _ h => nomatch h⟩
    · show ((xs.map a.eval).toArray ++ Array.replicate (fn.ntmps - (xs.map a.eval).toArray.size) undef).size = fn.ntmps
      simp; omega
    · intro j
      show VR w _ (envOf (xs.map (ev (scrubE F env))) j) _ _
      unfold envOf
      cases hx : xs[j]? with
      | none =>
        have : (xs.map (ev (scrubE F env))).getD j .u = .u := by simp [List.getD, hx]
        rw [this]; trivial
      | some y =>
        have hj : j < xs.length := by
          rcases Nat.lt_or_ge j xs.length with h' | h'
          · exact h'
          · rw [List.getElem?_eq_none h'] at hx; cases hx
        have e1 : (xs.map (ev (scrubE F env))).getD j .u = ev (scrubE F env) y := by simp [List.getD, hx]
        have e2 : ((xs.map a.eval).toArray ++ Array.replicate (fn.ntmps - (xs.map a.eval).toArray.size) undef).getD j undef = a.eval y := by
          rw [Array.getD_eq_getD_getElem?, Array.getElem?_append_left (by simpa using hj)]
          simp [hx]
        rw [e1, e2]
        exact ev_ok R2 y
    · exact R2.obj
    · exact R2.one
    · exact R2.base
    · exact R2.apart
  obtain ⟨v, w', ⟨v', ι', env', h', x, e, R', hv, hk⟩, hst⟩ := step_call (b := b) (k := k) (cs := cs) (rest := rest) ho' (ready_ok hr R) (exec_call hc ⟨fn, hf, hname, by rw [hb]; rfl⟩ a w) hcalls (fun e w' ⟨v, _, _, _, _, h, _⟩ => ⟨v, h⟩)
  cases e
  exact ⟨_, h', ι', _, w', _, hst, R'.put hv hd, hk⟩

/-- Back from a call gone through in place: one answer, or none. -/
theorem Run.back {C : Ctx} {a : Act} {f : FuncId} {N : Nat} {K : Env → Heap → AV → Prop} {env : Env} {h : Heap} {k : List Item} (F : Nat) {E : Env} {fn : Func} {ts : List Nat} (hsz : a.tmps.size = C.N) (hdf : DK C.kp a) (hk : k = [] ∨ ∃ k', k = .code .ret :: k')
    (hfr : h F = .frame a.tmps E) (hf : C.P.funcs[f]? = some fn) (hres : fn.results = (ts.map ResultVar.tmp).toArray) (hK : K E (upd h F .dead) (resAV env ts)) : Run (C.sub f N a K) k env h := by
  refine ⟨fun ι a2 w b cs hb hkd R => ?_⟩
  obtain ⟨R2, hok, hrf⟩ := R.kill F
  have hfo : ∀ i, VR w (okB (C.sub f N a K) h ι w) (E i) (rf h ι) (a.tmps.getD i undef) := by
    have := R.obj F
    rw [hfr] at this
    exact this
  have Rc : Rel C E (upd h F .dead) ι a w := by
    constructor
    · exact R2.below
    · exact hdf
    · exact hsz
    · exact fun i => VR.mono hok (fun _ _ => rfl) _ _ _ _ hrf (hfo i)
    · exact R2.obj
    · exact R2.one
    · exact R2.base
    · exact R2.apart
  have hv : VR w (okB C (upd h F .dead) ι w) (resAV env ts) (rf (upd h F .dead) ι) (resV a2.tmps ts) := by
    match ts, hres with
    | [t], _ => exact R2.env t
    | [], _ => exact ⟨#[], rfl, rfl, fun j hj => by cases hj⟩
    | t :: u :: ts, _ =>
      refine ⟨_, rfl, by simp, fun j hj => ?_⟩
      refine ⟨a2.tmps.getD ((t :: u :: ts).getD j 0) undef, ?_, R2.env _⟩
      rw [List.getElem?_toArray, List.getElem?_map, List.getElem?_eq_getElem hj, List.getD, List.getElem?_eq_getElem hj]
      rfl
  refine ⟨.returned _, w, { b.at a2 k with mode := .returning }, ⟨_, ι, E, upd h F .dead, _, rfl, Rc, hv, hK⟩, ?_, hb, rfl, R.defers.1, hkd, fn, by show C.P.funcs[b.fn]? = _; rw [hb]; exact hf, results_run hres a2.tmps w⟩
  rcases hk with rfl | ⟨k', rfl⟩
  · exact Steps.one step_end
  · exact Steps.one step_ret

/-- One operation that the engine does not know: what it does is handed in. -/
theorem Run.opG {C : Ctx} {env : Env} {h : Heap} {o : Oper} {ops : Array Oper} {i : Nat} {rest : List Nat} {k : List Item} (K : Env → Heap → AV → Prop) (ho : ops.toList[i]? = some o) (hd : okD C o.dst = true) (hr : ready env ops o = true)
    (hop : ∀ ι a w, Rel C env h ι a w → OpOut C a w o K) (hK : ∀ env' h' x, K env' h' x → Run C (.inRegion ops rest :: k) (putE env' o.dst x) h') : Run C (.inRegion ops (i :: rest) :: k) env h :=
  ⟨fun ι a w b cs hb hkd R => by
    obtain ⟨nx, v, w', ι', env', h', x, hr1, hv, R', hx, hk⟩ := hop ι a w R
    have hst := step_op_ok (b := b) (k := k) (cs := cs) (rest := rest) (by simpa using ho) (ready_ok hr R) hr1 hv
    obtain ⟨e, w2, fr, h1, h2, h3⟩ := (hK env' h' x hk).run ι' (a.put o.dst v) w' b cs hb hkd (R'.put hx hd)
    exact ⟨e, w2, fr, h1, Comes.of_steps (.one hst) h2, h3⟩⟩

theorem box_shape {C : Ctx} {env : Env} {h : Heap} {ι : Loc} {a : Act} {w : World} (R : Rel C env h ι a w) {id : Nat} {t : TypeId} {l : List AV} (hb : h id = .box t l) : ∃ g, ι id 0 = .pointer (some ⟨g, 0, none⟩) ∧ w.shape? g = some (t, l.length) := by
  have := R.obj id
  rw [hb] at this
  obtain ⟨g, cs, h1, h2, h3, _⟩ := this
  exact ⟨g, h1, by simp [World.shape?, h2, h3]⟩
/-- A box's address turned to unsafe.Pointer: the address as it is. -/
theorem Run.toUnsafe {C : Ctx} {env : Env} {h : Heap} {o : Oper} {ops : Array Oper} {i : Nat} {rest : List Nat} {k : List Item} {src dst t e : TypeId} {x : Operand} {id : Nat} {l : List AV} {j : TypeInfo} (ho : ops.toList[i]? = some o) (hc : o.op = .convert src dst x) (hd : okD C o.dst = true) (hr : ready env ops o = true)
    (hx : ev env x = .box id 0) (hb : h id = .box e l) (hl : 0 < l.length) (hs : C.P.underlying src = some (.pointer t)) (hds : C.P.underlying dst = some .unsafePointer) (ht : C.P.info? t = some j) (hj : j.size ≠ 0)
    (next : Run C (.inRegion ops rest :: k) (putE env o.dst (.box id 0)) h) : Run C (.inRegion ops (i :: rest) :: k) env h :=
  Run.opG (fun env' h' y => env' = env ∧ h' = h ∧ y = .box id 0) ho hd hr (fun ι a w R => by
    obtain ⟨g, h1, h2⟩ := box_shape R hb
    have hv := ev_ok R x
    rw [hx] at hv
    obtain ⟨g', h3, h4⟩ := hv
    rw [h1] at h3
    cases h3
    have h4' : a.eval x = .pointer (some ⟨g, 0, none⟩) := by rw [h4]; rfl
    refine OpOut.of (s := convert src dst (a.eval x)) (by simp [execOp, hc]) (Out.same R ⟨rfl, rfl, rfl⟩ ?_ ⟨g, h1, h4⟩)
    rw [h4']
    exact Lib.run_to_unsafe w ⟨g, 0, none⟩ hs hds ht hj h2 hl) (fun env' h' y ⟨e1, e2, e3⟩ => by subst e1; subst e2; subst e3; exact next)
/-- unsafe.Pointer to a pointer to what lies there: the address as it is. -/
theorem Run.fromUnsafe {C : Ctx} {env : Env} {h : Heap} {o : Oper} {ops : Array Oper} {i : Nat} {rest : List Nat} {k : List Item} {src dst u e : TypeId} {x : Operand} {id : Nat} {l : List AV} {j : TypeInfo} (ho : ops.toList[i]? = some o) (hc : o.op = .convert src dst x) (hd : okD C o.dst = true) (hr : ready env ops o = true)
    (hx : ev env x = .box id 0) (hb : h id = .box e l) (hs : C.P.underlying src = some .unsafePointer) (hds : C.P.underlying dst = some (.pointer u)) (hu : C.P.info? u = some j) (hlies : liesAt C.P C.P.depth e (l.length / C.P.cellsOf e) 0 u 1 = true)
    (next : Run C (.inRegion ops rest :: k) (putE env o.dst (.box id 0)) h) : Run C (.inRegion ops (i :: rest) :: k) env h :=
  Run.opG (fun env' h' y => env' = env ∧ h' = h ∧ y = .box id 0) ho hd hr (fun ι a w R => by
    obtain ⟨g, h1, h2⟩ := box_shape R hb
    have hv := ev_ok R x
    rw [hx] at hv
    obtain ⟨g', h3, h4⟩ := hv
    rw [h1] at h3
    cases h3
    have h4' : a.eval x = .pointer (some ⟨g, 0, none⟩) := by rw [h4]; rfl
    refine OpOut.of (s := convert src dst (a.eval x)) (by simp [execOp, hc]) (Out.same R ⟨rfl, rfl, rfl⟩ ?_ ⟨g, h1, h4⟩)
    rw [h4']
    exact Lib.run_from_unsafe w ⟨g, 0, none⟩ hs hds hu h2 hlies) (fun env' h' y ⟨e1, e2, e3⟩ => by subst e1; subst e2; subst e3; exact next)

/-- A call of one of the model's own entries that answers a value and leaves the world as it is. -/
theorem exec_extern {P : Program} {f : FuncId} {fn : Func} {o : Oper} {xs : List Operand} {e : Array Value → Sem Value} (ho : calls? o = some (f, xs)) (hf : P.funcs[f]? = some fn) (hname : (fn.name == "runtime.NumGoroutine") = false)
    (hb : fn.body.isNone = true) (hn : Extern.findNext fn = none) (he : Extern.find fn = some e) (a : Act) (w : World) {v : Value} (hv : (e (xs.map a.eval).toArray).run P w = .ok v w) :
    (execOp a.eval o).run P w = .ok (.value v) w := by
  unfold calls? at ho
  split at ho
  · rename_i f' args at_ heq
    cases ho
    have h1 := run_callFunc_extern hf hname hb hn he (args.toList.map a.eval).toArray w
    rw [hv] at h1
    have h2 : (args.toList.map a.eval).toArray = args.map a.eval := by apply Array.ext'; simp
    rw [h2] at h1
    simp only [execOp, heq, resolve, Act.eval, Deferred.ofValue, Sem.run_bind, Sem.run_pure, Result.andThen_ok, invoke]
    first | exact h1 | simpa [Act.eval, Result.andThen] using h1
  · cases ho
/-- internal/abi.NoEscape: what goes in. -/
theorem Run.noEscape {C : Ctx} {env : Env} {h : Heap} {o : Oper} {ops : Array Oper} {i : Nat} {rest : List Nat} {k : List Item} {f : FuncId} {fn : Func} {x : Operand} (ho : ops.toList[i]? = some o) (hc : calls? o = some (f, [x])) (hd : okD C o.dst = true) (hr : ready env ops o = true)
    (hf : C.P.funcs[f]? = some fn) (hname : (fn.name == "runtime.NumGoroutine") = false) (hb : fn.body.isNone = true) (hn : Extern.findNext fn = none) (he : Extern.find fn = some Extern.AbiNoEscape.same)
    (next : Run C (.inRegion ops rest :: k) (putE env o.dst (ev env x)) h) : Run C (.inRegion ops (i :: rest) :: k) env h :=
  Run.opG (fun env' h' y => env' = env ∧ h' = h ∧ y = ev env x) ho hd hr (fun ι a w R =>
    OpOut.same R ⟨rfl, rfl, rfl⟩ (exec_extern hc hf hname hb hn he a w (by exact Lib.run_noEscape w (a.eval x))) (ev_ok R x)) (fun env' h' y ⟨e1, e2, e3⟩ => by subst e1; subst e2; subst e3; exact next)
end Go.Proofs.YteklnpgiloebcaaDoor.V

namespace Go.Proofs.YteklnpgiloebcaaDoor.V
set_option linter.unusedVariables false
set_option linter.unusedSimpArgs false
open Go Go.RowKit
section
variable {C : Ctx} {env : Env} {h : Heap} {ι : Loc} {a : Act} {w : World}
/-- An object is given up, and its own blocks are turned. -/
theorem Rel.killW (R : Rel C env h ι a w) (z : Nat) {w' : World} (hz : h z ≠ .dead) (hb : Below C.B w w') (hsz : w'.heap.size = w.heap.size) (hw : ∀ b, ¬ owns (h z) (ι z) b → w'.heap[b]? = w.heap[b]?) : Rel C env (upd h z .dead) ι a w' := by
  have hdead : ∀ id, upd h z .dead id ≠ .dead → h id ≠ .dead ∧ id ≠ z := by
    intro id hl
    by_cases e : id = z
    · subst e; rw [upd_same] at hl; exact absurd rfl hl
    · rw [upd_other _ _ e] at hl; exact ⟨hl, e⟩
  have hr : ∀ x v, rf h ι x v → rf (upd h z .dead) ι x v := rf_upd (by trivial)
  have hok : ∀ b, okB C h ι w b → okB C (upd h z .dead) ι w' b := fun b hb => ⟨by rw [hsz]; exact hb.1, hb.2.1, fun id hl => by rw [upd_other _ _ (hdead id hl).2]; exact hb.2.2 id (hdead id hl).1⟩
  have hwo : ∀ b, okB C h ι w b → w'.heap[b]? = w.heap[b]? := fun b hb => hw b (hb.2.2 z hz)
  constructor
  · exact R.below.trans hb
  · exact R.defers
  · exact R.size
  · exact fun i => VR.mono hok hwo _ _ _ _ hr (R.env i)
  · intro id
    by_cases e : id = z
    · subst e; rw [upd_same]; trivial
    · rw [upd_other _ _ e]
      by_cases hl : h id = .dead
      · rw [hl]; trivial
      · exact MR.keepR hr hok hwo (fun g hg => hw g (fun hg' => R.apart id z hl hz e g hg hg')) (R.obj id)
  · exact R.one
  · intro id hl; rw [upd_other _ _ (hdead id hl).2, hsz]; exact R.base id (hdead id hl).1
  · intro id id' hl hl'; rw [upd_other _ _ (hdead id hl).2, upd_other _ _ (hdead id' hl').2]; exact R.apart id id' (hdead id hl).1 (hdead id' hl').1

theorem freeze_heap {w : World} {g : Nat} {cs : Array Value} {e : TypeId} {fz : Nat × Nat} (hg : w.heap[g]? = some (.cells cs e fz)) (n : Nat) :
    (w.freeze ⟨g, 0, none⟩ n).heap.size = w.heap.size ∧ ∀ b, b ≠ g → (w.freeze ⟨g, 0, none⟩ n).heap[b]? = w.heap[b]? := by
  unfold World.freeze
  split
  · exact ⟨rfl, fun _ _ => rfl⟩
  · refine ⟨by simp, fun b hb => ?_⟩
    simp only [Array.getElem?_modify]
    rw [if_neg (fun e => hb e.symm)]
end
section
variable {C : Ctx} {env : Env} {h : Heap}
/-- unsafe.String of no byte. -/
theorem Run.unsafeString0 {o : Oper} {ops : Array Oper} {i : Nat} {rest : List Nat} {k : List Item} {c : Call} {x y : Operand} {pt it : TypeId} (ho : ops.toList[i]? = some o) (hc : o.op = .call c) (hcb : c.callee = .builtin .unsafeString) (hca : c.args.toList = [x, y]) (hct : c.argTypes.toList = [pt, it])
    (hd : okD C o.dst = true) (hr : ready env ops o = true) (hx : ev env x = .ptr ∨ ev env x = .nilp) (hy : ev env y = .int .i64 0)
    (next : Run C (.inRegion ops rest :: k) (putE env o.dst (.str .empty)) h) : Run C (.inRegion ops (i :: rest) :: k) env h :=
  Run.opG (fun env' h' z => env' = env ∧ h' = h ∧ z = .str .empty) ho hd hr (fun ι a w R => by
    have hca' := toList_two hca
    have hct' := toList_two hct
    have hv := ev_ok R x
    have hp : ∃ p, a.eval x = .pointer p := by
      rcases hx with hx | hx <;> rw [hx] at hv
      · exact hv
      · exact ⟨none, hv⟩
    obtain ⟨p, hp⟩ := hp
    have hvy := ev_ok R y
    rw [hy] at hvy
    have hvy' : a.eval y = .int .i64 0 := hvy
    refine OpOut.same R ⟨rfl, rfl, rfl⟩ (v := .string .empty) ?_ ⟨rfl, by decide⟩
    simp only [execOp, hc, resolve, hcb, hca', hct', invoke, builtin, Act.eval]
    have := Lib.run_unsafeString_none (P := C.P) w pt it o.type p
    simp [hp, hvy', this]) (fun env' h' y ⟨e1, e2, e3⟩ => by subst e1; subst e2; subst e3; exact next)

/-- unsafe.String of a row's bytes: the row is given up. -/
theorem Run.unsafeString {o : Oper} {ops : Array Oper} {i : Nat} {rest : List Nat} {k : List Item} {c : Call} {x y : Operand} {pt it : TypeId} {q e n : Nat} {get : Nat → Nat → AV} (s : ByteArray) (ho : ops.toList[i]? = some o) (hc : o.op = .call c) (hcb : c.callee = .builtin .unsafeString) (hca : c.args.toList = [x, y]) (hct : c.argTypes.toList = [pt, it])
    (hd : okD C o.dst = true) (hr : ready env ops o = true) (hx : ev env x = .radr q 1 0 0) (hy : ev env y = .int .i64 (n : Int)) (hq : h q = .row e 1 n get) (hs : s.size = n) (hn : n ≠ 0) (hget : ∀ i, i < n → get i 0 = .int .u8 (bt s i))
    (hpt : C.P.underlying pt = some (.pointer e)) (hc1 : C.P.cellsOf e = 1)
    (next : Run C (.inRegion ops rest :: k) (putE env o.dst (.str s)) (upd h q .dead)) : Run C (.inRegion ops (i :: rest) :: k) env h :=
  Run.opG (fun env' h' z => env' = env ∧ h' = upd h q .dead ∧ z = .str s) ho hd hr (fun ι a w R => by
    have hca' := toList_two hca
    have hct' := toList_two hct
    have hlq : h q ≠ .dead := by rw [hq]; simp
    have hv := ev_ok R x
    rw [hx] at hv
    obtain ⟨g, n', cap', hg1, hv, -⟩ := hv
    have hvy := ev_ok R y
    rw [hy] at hvy
    have hvy' : a.eval y = .int .i64 (n : Int) := hvy
    have hoq := R.obj q
    rw [hq] at hoq
    obtain ⟨xs, hown, hone, hcells⟩ := hoq
    have hcell := fun j u hj => hown.cells (g := g) (by rcases hown.2 with ⟨hv0, h0⟩ | ⟨g', cap, cur, hv0, _⟩; exact absurd h0 hn; rw [hg1] at hv0; cases hv0; rw [hg1]; rfl) j u hj
    obtain ⟨g', cap, cur, hv0, hB, hg, hnc, hcm, hcs, htake⟩ : ∃ g' cap cur, ι q 0 = .slice (some ⟨g', 0, none⟩) n cap ∧ C.B ≤ g' ∧ cellsX w g' cur e ∧ n ≤ cap ∧ cap ≤ maxLen ∧ cur.size = cap * 1 ∧ cur.toList.take (n * 1) = xs := by
      rcases hown.2 with ⟨hv0, h0⟩ | hr
      · exact absurd h0 hn
      · exact hr
    have hgg : g' = g := by rw [hg1] at hv0; cases hv0; rfl
    subst hgg
    have hval : a.eval x = .pointer (some ⟨g', 0, none⟩) := by rw [hv]; simp [Addr.add]
    have hlen : s.data.toList.length = n := by rw [← hs]; rfl
    have hrun := Lib.run_unsafeString_row (P := C.P) w pt it o.type e hpt hc1 g' cur.size hg.shape s.data.toList (by intro e0; rw [e0] at hlen; exact hn hlen.symm) (by rw [hlen, hcs]; omega) (by rw [hlen]; simp only [maxLen] at hcm; omega) (fun j u hj => by
      have hjn : j < n := by
        rcases Nat.lt_or_ge j s.data.toList.length with h' | h'
        · omega
        · rw [List.getElem?_eq_none h'] at hj; cases hj
      obtain ⟨cv, c1, c2⟩ := hcells j 0 hjn (by omega)
      rw [hget j hjn] at c2
      have c2' : cv = .int .u8 (bt s j) := c2
      rw [Nat.mul_one, Nat.add_zero] at c1
      have := hcell j cv c1
      rw [this, c2']
      unfold bt
      rw [List.getD, hj]; rfl)
    rw [hlen] at hrun
    have hs' : (⟨s.data.toList.toArray⟩ : ByteArray) = s := by simp
    rw [hs'] at hrun
    obtain ⟨fz0, hg0, _⟩ := hg
    obtain ⟨f1, f2⟩ := freeze_heap hg0 n
    refine ⟨.value (.string s), .string s, w.freeze ⟨g', 0, none⟩ n, ι, env, upd h q .dead, .str s, ?_, .inl rfl, R.killW q hlq (Lib.below_freeze (Below.refl _ _) hB n) f1 (fun b hb => f2 b (fun e0 => hb ?_)), ⟨rfl, by rw [hs]; omega⟩, rfl, rfl, rfl⟩
    · simp only [execOp, hc, resolve, hcb, hca', hct', invoke, builtin, Act.eval]
      simp [hval, hvy', hrun]
    · subst e0; rw [hq]; exact owns_zero (by rw [hv0]; rfl)) (fun env' h' y ⟨e1, e2, e3⟩ => by subst e1; subst e2; subst e3; exact next)

/-- A slice in a box's cell gets a row's name of its own. -/
theorem Run.holdBoxRow {k : List Item} (id j q z : Nat) {e sz n : Nat} {get : Nat → Nat → AV} {t : TypeId} {l l2 : List AV} (hb : h id = .box t l) (hj : l[j]? = some (.row z)) (hz : h z = .row e sz n get) (hne : Nat.beq z q = false) (hqi : Nat.beq id q = false) (hl2 : l2 = (l.map (scrub q)).set j (.row q))
    (hr : Run C k (scrubE q env) (upd (upd (upd (scrubH q h) z .dead) q (.row e sz n get)) id (.box t l2))) : Run C k env h :=
  ⟨fun ι a w b cs hbf hkd R => by
    have hiq : id ≠ q := fun e0 => by subst e0; simp at hqi
    have hiz : id ≠ z := fun e0 => by subst e0; rw [hb] at hz; cases hz
    have ho := R.obj z
    rw [hz] at ho
    have hlz : h z ≠ .dead := by rw [hz]; simp
    obtain ⟨xs, hown, h1, hc⟩ := ho
    obtain ⟨R', hok', hS'⟩ := R.make q z (.row e sz n get) (ι z 0) w (Below.refl _ _) (fun _ _ => rfl) (fun _ _ _ _ _ _ => rfl) (R.one z 0) (fun g hg => R.base z hlz g (owns_zero hg))
      (fun g hg hok => hok.2.2 z hlz (owns_zero hg)) (fun id _ hid hl g hg e' => R.apart id z hl hlz hid g hg (owns_zero e'))
      (fun ok r hok hS hrr => ⟨xs, hown, h1, fun i j hi hj => by
        obtain ⟨cv, c1, c3⟩ := hc i j hi hj
        exact ⟨cv, c1, VR.mono hok (fun _ _ => rfl) _ _ _ _ (fun _ _ h => h) c3⟩⟩)
    have hbx : (upd (upd (scrubH q h) z .dead) q (.row e sz n get)) id = .box t (l.map (scrub q)) := by
      rw [upd_other _ _ hiq, upd_other _ _ hiz]
      show scrubM q (h id) = _
      rw [hb]; rfl
    have hbr := R.obj id
    rw [hb] at hbr
    have hbr2 := R'.obj id
    rw [hbx] at hbr2
    refine hr.run (upd ι q (fun _ => ι z 0)) a w b cs hbf hkd (R'.set id (.box t l2) w (Below.refl _ _) (by rw [hbx]; simp) (fun _ _ _ => rfl) (by rw [hbx]; trivial) (fun r ok hrr hok _ => ?_))
    obtain ⟨g0, cs0, e1, e2, e3, e4⟩ := hbr
    obtain ⟨g1, cs1, f1, f2, f3, f4⟩ := hbr2
    have hio : upd ι q (fun _ => ι z 0) id = ι id := upd_other _ _ hiq
    have hg : g1 = g0 := by rw [hio] at f1; rw [e1] at f1; cases f1; rfl
    subst hg
    have hcs : cs1 = cs0 := by rw [e2] at f2; cases f2; rfl
    subst hcs
    refine ⟨g1, cs1, f1, f2, by rw [f3, hl2]; simp, fun i x hx => ?_⟩
    subst hl2
    by_cases hij : i = j
    · subst hij
      obtain ⟨cv, c1, c2, c3⟩ := e4 i (.row z) hj
      rw [List.getElem?_set_self (by
        rw [List.length_map]
        rcases Nat.lt_or_ge i l.length with h' | h'
        · exact h'
        · rw [List.getElem?_eq_none h'] at hj; cases hj)] at hx
      cases hx
      refine ⟨cv, c1, c2, hrr _ _ ?_⟩
      show cv = upd ι q (fun _ => ι z 0) q 0
      rw [upd_same]; exact c3
    · rw [List.getElem?_set_ne (fun e0 => hij e0.symm)] at hx
      obtain ⟨cv, c1, c2, c3⟩ := f4 i x hx
      exact ⟨cv, c1, c2, VR.mono hok (fun _ _ => rfl) _ _ _ _ hrr c3⟩⟩
theorem Run.holdBoxNil {k : List Item} (id j q e sz : Nat) (get : Nat → Nat → AV) {t : TypeId} {l l2 : List AV} (hb : h id = .box t l) (hj : l[j]? = some .nils) (hqi : Nat.beq id q = false) (hl2 : l2 = (l.map (scrub q)).set j (.row q))
    (hr : Run C k (scrubE q env) (upd (upd (upd (scrubH q h) q .dead) q (.row e sz 0 get)) id (.box t l2))) : Run C k env h :=
  ⟨fun ι a w b cs hbf hkd R => by
    have hiq : id ≠ q := fun e0 => by subst e0; simp at hqi
    obtain ⟨R', hok', hS'⟩ := R.make q q (.row e sz 0 get) (.slice none 0 0) w (Below.refl _ _) (fun _ _ => rfl) (fun _ _ _ _ _ _ => rfl) rfl (fun g hg => by cases hg)
      (fun g hg => by cases hg) (fun id _ _ _ g hg e' => by cases e')
      (fun ok r hok hS hrr => ⟨[], ownsX_nil w C.B e sz, by simp, fun i j hi => by omega⟩)
    have hbx : (upd (upd (scrubH q h) q .dead) q (.row e sz 0 get)) id = .box t (l.map (scrub q)) := by
      rw [upd_other _ _ hiq, upd_other _ _ hiq]
      show scrubM q (h id) = _
      rw [hb]; rfl
    have hbr := R.obj id
    rw [hb] at hbr
    have hbr2 := R'.obj id
    rw [hbx] at hbr2
    refine hr.run (upd ι q (fun _ => .slice none 0 0)) a w b cs hbf hkd (R'.set id (.box t l2) w (Below.refl _ _) (by rw [hbx]; simp) (fun _ _ _ => rfl) (by rw [hbx]; trivial) (fun r ok hrr hok _ => ?_))
    obtain ⟨g0, cs0, e1, e2, e3, e4⟩ := hbr
    obtain ⟨g1, cs1, f1, f2, f3, f4⟩ := hbr2
    have hio : upd ι q (fun _ => .slice none 0 0) id = ι id := upd_other _ _ hiq
    have hg : g1 = g0 := by rw [hio] at f1; rw [e1] at f1; cases f1; rfl
    subst hg
    have hcs : cs1 = cs0 := by rw [e2] at f2; cases f2; rfl
    subst hcs
    refine ⟨g1, cs1, f1, f2, by rw [f3, hl2]; simp, fun i x hx => ?_⟩
    subst hl2
    by_cases hij : i = j
    · subst hij
      obtain ⟨cv, c1, c2, c3⟩ := e4 i .nils hj
      rw [List.getElem?_set_self (by
        rw [List.length_map]
        rcases Nat.lt_or_ge i l.length with h' | h'
        · exact h'
        · rw [List.getElem?_eq_none h'] at hj; cases hj)] at hx
      cases hx
      refine ⟨cv, c1, c2, hrr _ _ ?_⟩
      show cv = upd ι q (fun _ => .slice none 0 0) q 0
      rw [upd_same]; exact c3
    · rw [List.getElem?_set_ne (fun e0 => hij e0.symm)] at hx
      obtain ⟨cv, c1, c2, c3⟩ := f4 i x hx
      exact ⟨cv, c1, c2, VR.mono hok (fun _ _ => rfl) _ _ _ _ hrr c3⟩⟩
end

/-! ### strings.Builder: what a call of WriteString leaves -/
theorem bt_app (a b : ByteArray) (i : Nat) : bt (a ++ b) i = if i < a.size then bt a i else bt b (i - a.size) := by
  unfold bt
  have h1 : (a ++ b).data.toList = a.data.toList ++ b.data.toList := by simp
  rw [h1]
  by_cases h : i < a.size
  · rw [if_pos h, List.getD, List.getD, List.getElem?_append_left (by simpa using h)]
  · rw [if_neg h, List.getD, List.getD, List.getElem?_append_right (by simpa using h)]
    simp
/-- A text's bytes, as a row. -/
def bytesG (t : ByteArray) : Nat → Nat → AV := fun i _ => .int .u8 (bt t i)
def scrW (q : Nat) (x : AV) : AV := scrub q (scrub 14 (scrub 901 (scrub 900 x)))
def scrWM (q : Nat) (m : MO) : MO := scrubM q (scrubM 14 (scrubM 901 (scrubM 900 m)))
def envW (q : Nat) (env : Env) : Env := fun i => scrW q (env i)
def heapW (q : Nat) (h : Heap) : Heap := upd (upd (upd (fun id => scrWM q (h id)) 14 .dead) 901 .dead) 900 .dead
/-- A builder: its box, its row (of element type e). -/
def bldr (B e id q : Nat) (h : Heap) (p : AV) (t : ByteArray) : Heap := upd (upd h q (.row e 1 t.size (bytesG t))) id (.box B [p, .row q])
theorem bytesG_join (e : Nat) (t s : ByteArray) : MOle (.row e 1 (t.size + s.size) (joinRow t.size (bytesG t) (fun i _ => .int .u8 (bt s i)))) (.row e 1 (t ++ s).size (bytesG (t ++ s))) := by
  refine ⟨rfl, rfl, by simp, fun i j hi hj => ?_⟩
  unfold joinRow bytesG
  rw [bt_app]
  by_cases hc : i < t.size
  · rw [if_pos hc, if_pos hc]; exact Le.refl _
  · rw [if_neg hc, if_neg hc]; exact Le.refl _
theorem mole_dead (m : MO) : MOle m .dead := by cases m <;> trivial
theorem Run.bldr {C : Ctx} {k : List Item} {env : Env} {h : Heap} (B e id q : Nat) (p : AV) (t : ByteArray) (h1 : MOle (h id) (.box B [p, .row q])) (h2 : MOle (h q) (.row e 1 t.size (bytesG t))) (next : Run C k env (bldr B e id q h p t)) : Run C k env h := by
  refine Run.weaken (fun _ => Le.refl _) (fun i => ?_) next
  unfold V.bldr
  by_cases hi : i = id
  · subst hi; rw [upd_same]; exact h1
  · rw [upd_other _ _ hi]
    by_cases hj : i = q
    · subst hj; rw [upd_same]; exact h2
    · rw [upd_other _ _ hj]; exact MOle.refl _

/-! ### slots and objects told anew, each looked at -/
def fvs : List AV → (List AV → Prop) → Prop
  | [], K => K []
  | x :: r, K => fv x fun x => fvs r fun l => K (x :: l)
theorem fvs_eq : ∀ (l : List AV) (K : List AV → Prop), fvs l K = K l
  | [], _ => rfl
  | x :: r, K => by unfold fvs; rw [fv_eq, fvs_eq r]
def fm (m : MO) (K : MO → Prop) : Prop := match m with
  | .dead => K .dead
  | .box t l => fvs l fun l => K (.box t l)
  | .row e sz n get => K (.row e sz n get)
  | .iter s p => K (.iter s p)
  | .mp m => K (.mp m)
  | .raw a b c => K (.raw a b c)
  | .frame vs E => K (.frame vs E)
  | .clo f l => fvs l fun l => K (.clo f l)
  | .mat e sz n get0 o ei szi len get hole => K (.mat e sz n get0 o ei szi len get hole)
theorem fm_eq (m : MO) (K : MO → Prop) : fm m K = K m := by
  cases m <;> first | rfl | exact fvs_eq _ _
def aforceH (h : Heap) : List Nat → (List (Nat × MO) → Prop) → Prop
  | [], K => K []
  | i :: r, K => fm (h i) fun x => aforceH h r fun l => K ((i, x) :: l)
theorem aforceH_ok {h : Heap} : ∀ (ks : List Nat) {K : List (Nat × MO) → Prop}, aforceH h ks K → ∃ l, fitsH h l ∧ K l
  | [], K, hk => ⟨[], trivial, hk⟩
  | i :: r, K, hk => by
    unfold aforceH at hk
    rw [fm_eq] at hk
    obtain ⟨l, h1, h2⟩ := aforceH_ok r hk
    exact ⟨(i, h i) :: l, ⟨MOle.refl _, h1⟩, h2⟩
theorem Run.tidy {C : Ctx} {k : List Item} {env : Env} {h : Heap} (ks hs : List Nat) (hr : aforce env ks fun l => aforceH h hs fun lh => Run C k (lst l) (lstH lh)) : Run C k env h := by
  obtain ⟨l, hl, hr⟩ := aforce_ok ks hr
  obtain ⟨lh, hlh, hr⟩ := aforceH_ok hs hr
  exact Run.to _ _ hl hlh hr

/-- string(b) of an own row of bytes: the text; the row stays. -/
theorem Run.rowStr {C : Ctx} {env : Env} {h : Heap} {o : Oper} {ops : Array Oper} {i : Nat} {rest : List Nat} {k : List Item} {src dst e : TypeId} {x : Operand} {q n : Nat} {get : Nat → Nat → AV} (s : ByteArray) (ho : ops.toList[i]? = some o) (hc : o.op = .convert src dst x)
    (hd : okD C o.dst = true) (hr : ready env ops o = true) (hx : ev env x = .row q) (hq : h q = .row e 1 n get) (hs : s.size = n) (hget : ∀ i, i < n → get i 0 = .int .u8 (bt s i))
    (hsrc : C.P.underlying src = some (.slice e)) (he : C.P.underlying e = some (.int .u8)) (hdst : C.P.underlying dst = some .string)
    (next : Run C (.inRegion ops rest :: k) (putE env o.dst (.str s)) h) : Run C (.inRegion ops (i :: rest) :: k) env h :=
  Run.opG (fun env' h' z => env' = env ∧ h' = h ∧ z = .str s) ho hd hr (fun ι a w R => by
    have hv := ev_ok R x
    rw [hx] at hv
    have hv' : a.eval x = ι q 0 := hv
    have hoq := R.obj q
    rw [hq] at hoq
    obtain ⟨xs, hown, hone, hcells⟩ := hoq
    have hs' : (⟨s.data.toList.toArray⟩ : ByteArray) = s := by simp
    have hlen : s.data.toList.length = n := by rw [← hs]; rfl
    have hmax : s.size ≤ maxLen := by
      rcases hown.2 with ⟨_, h0⟩ | ⟨g, cap, cur, _, _, _, hnc, hcm, _⟩
      · rw [hs, h0]; exact Nat.zero_le _
      · rw [hs]; omega
    refine OpOut.of (s := convert src dst (a.eval x)) (by simp [execOp, hc]) (Out.same R ⟨rfl, rfl, rfl⟩ (v := .string s) ?_ ⟨rfl, hmax⟩)
    rw [hv']
    rcases hown.2 with ⟨hv0, h0⟩ | ⟨g, cap, cur, hv0, hB, hg, hnc, hcm, hcs, htake⟩
    · rw [hv0]
      have hse : s = ⟨#[]⟩ := by
        have : s.size = 0 := by omega
        have : s = ByteArray.empty := by simpa using this
        rw [this]; rfl
      rw [hse]
      exact Lib.run_convert_nil_bytes w src dst e 0 hsrc he hdst
    · rw [hv0]
      have hcell : ∀ j u, xs[j]? = some u → w.cell? ((⟨g, 0, none⟩ : Addr).add j) = some u := fun j u hj => hown.cells (g := g) (by rw [hv0]; rfl) j u hj
      have := run_convert_bytes_back (P := C.P) w src dst e ⟨g, 0, none⟩ cap s.data.toList hsrc he hdst (fun j hj => by
        have hjn : j < n := by omega
        obtain ⟨cv, c1, c2⟩ := hcells j 0 hjn (by omega)
        rw [hget j hjn] at c2
        have c2' : cv = .int .u8 (bt s j) := c2
        rw [Nat.mul_one, Nat.add_zero] at c1
        rw [hcell j cv c1, c2']
        unfold bt
        rw [List.getD, List.getElem?_eq_getElem hj]; rfl)
      rw [hlen, hs'] at this
      exact this) (fun env' h' y ⟨e1, e2, e3⟩ => by subst e1; subst e2; subst e3; exact next)

/-! ### the model's own entries -/
section
variable {C : Ctx} {env : Env} {h : Heap} {o : Oper} {ops : Array Oper} {i : Nat} {rest : List Nat} {k : List Item} {f : FuncId} {fn : Func} {x y : Operand}
theorem Run.indexByteS (s : ByteArray) (c : Int) (ho : ops.toList[i]? = some o) (hc : calls? o = some (f, [x, y])) (hd : okD C o.dst = true) (hr : ready env ops o = true)
    (hf : C.P.funcs[f]? = some fn) (hname : (fn.name == "runtime.NumGoroutine") = false) (hb : fn.body.isNone = true) (hn : Extern.findNext fn = none) (he : Extern.find fn = some Extern.BytealgIndexByte.indexByte)
    (hx : ev env x = .str s) (hy : ev env y = .int .u8 c)
    (next : Run C (.inRegion ops rest :: k) (putE env o.dst (.int .i64 (Lib.indexByte s.data.toList c.toNat.toUInt8))) h) : Run C (.inRegion ops (i :: rest) :: k) env h :=
  Run.opG (fun env' h' z => env' = env ∧ h' = h ∧ z = .int .i64 (Lib.indexByte s.data.toList c.toNat.toUInt8)) ho hd hr (fun ι a w R => by
    have hvx := ev_ok R x
    have hvy := ev_ok R y
    rw [hx] at hvx
    rw [hy] at hvy
    obtain ⟨hvx, -⟩ := hvx
    have hvy' : a.eval y = .int .u8 c := hvy
    exact OpOut.same R ⟨rfl, rfl, rfl⟩ (exec_extern hc hf hname hb hn he a w (by simp only [List.map, hvx, hvy']; exact Lib.run_indexByteString s c w)) rfl) (fun env' h' y ⟨e1, e2, e3⟩ => by subst e1; subst e2; subst e3; exact next)
end

/-! ### an own row is given up while the walk goes on -/
/-! ### strings.Builder: what a call of WriteByte leaves -/
def scrB (q : Nat) (x : AV) : AV := scrub q (scrub 14 (scrub 13 (scrub 901 (scrub 900 x))))
def envB (q : Nat) (env : Env) : Env := fun i => scrB q (env i)
def heapB (q : Nat) (h : Heap) : Heap := upd (upd (upd (upd (fun id => scrubM q (scrubM 14 (scrubM 13 (scrubM 901 (scrubM 900 (h id)))))) 14 .dead) 13 .dead) 901 .dead) 900 .dead
theorem bt_one (u : UInt8) : bt ⟨#[u]⟩ 0 = (u.toNat : Int) := rfl
theorem bytesG_push (e : Nat) (t : ByteArray) (u : UInt8) (g : Nat → Nat → AV) (hg : g 0 0 = .int .u8 (u.toNat : Int)) : MOle (.row e 1 (t.size + 1) (joinRow t.size (bytesG t) g)) (.row e 1 (t ++ ⟨#[u]⟩).size (bytesG (t ++ ⟨#[u]⟩))) := by
  refine ⟨rfl, rfl, by rw [ByteArray.size_append]; rfl, fun i j hi hj => ?_⟩
  unfold joinRow bytesG
  rw [bt_app]
  by_cases hc : i < t.size
  · rw [if_pos hc, if_pos hc]; exact Le.refl _
  · rw [if_neg hc, if_neg hc]
    have h1 : i - t.size = 0 := by omega
    have h2 : j = 0 := by omega
    rw [h1, h2, hg, bt_one]
    exact Le.refl _

/-! ### arrays: an element whose place is not known as a number -/
section
variable {C : Ctx} {env : Env} {h : Heap} {o : Oper} {ops : Array Oper} {i : Nat} {rest : List Nat} {k : List Item} {x y : Operand}
end
end Go.Proofs.YteklnpgiloebcaaDoor.V

namespace Go.Proofs.YteklnpgiloebcaaDoor.V
set_option linter.unusedVariables false
set_option linter.unusedSimpArgs false
open Go Go.RowKit

section
variable {C : Ctx} {h : Heap} {ops : Array Oper}
structure StatP (ops : Array Oper) (P M : Nat → Bool) : Prop where
  look : ∀ (i : Nat) o, P i = true → ops[i]? = some o → ∀ s ∈ looks ops o, ∀ j, P j = true → dstOf ops j = some s → ∃ e ∈ o.after, Region.binds .any e = true ∧ e.on = j
  tail : ∀ (i : Nat), i < ops.size → P i = false → ∀ j, j < ops.size → M j = true → reachB ops 40 i j = true
def memB (l : List Nat) (j : Nat) : Bool := l.any (Nat.beq j)
/-- The free statements that did not run yet have yielded nothing. -/
def forget (ops : Array Oper) (S : List Nat) : List Nat → Env → Env
  | [], E => E
  | j :: r, E => cond (memB S j) (forget ops S r E) (match dstOf ops j with
    | some d => upd (forget ops S r E) d .u
    | none => forget ops S r E)
end
end Go.Proofs.YteklnpgiloebcaaDoor.V

namespace Go.Proofs.YteklnpgiloebcaaDoor.V
set_option linter.unusedVariables false
set_option linter.unusedSimpArgs false
open Go Go.RowKit

section
variable {C : Ctx} {env : Env} {h : Heap}
end
end Go.Proofs.YteklnpgiloebcaaDoor.V

namespace Go.Proofs.YteklnpgiloebcaaDoor.V
set_option linter.unusedVariables false
set_option linter.unusedSimpArgs false
open Go Go.RowKit

section
variable {C : Ctx} {env : Env} {h : Heap} {ι : Loc} {a : Act} {w : World}
end
end Go.Proofs.YteklnpgiloebcaaDoor.V


namespace Go.Proofs.YteklnpgiloebcaaDoor.V
set_option linter.unusedVariables false
set_option linter.unusedSimpArgs false
open Go Go.RowKit
set_option maxRecDepth 100000
set_option maxHeartbeats 4000000
def TB : TT := (.node 77 ⟨.map 3 4, 1, 8, (some [.u]), true, false⟩ (.node 44 ⟨.struct #[⟨"Col", 3, 0, false, "", "", 0⟩, ⟨"Readings", 43, 1, false, "", "", 8⟩], 2, 32, (some [.int .i64 0, .nils]), false, true⟩ (.node 23 ⟨.slice 9, 1, 24, (some [.nils]), true, false⟩ (.node 5 ⟨.int .u8, 1, 1, (some [.int .u8 0]), true, false⟩ (.node 3 ⟨.int .i64, 1, 8, (some [.int .i64 0]), true, false⟩ (.node 2 ⟨.int .i64, 1, 8, (some [.int .i64 0]), true, false⟩ .nil .nil) (.node 4 ⟨.bool, 1, 1, (some [.ff]), true, false⟩ .nil .nil)) (.node 21 ⟨.int .i32, 1, 4, (some [.int .i32 0]), true, false⟩ (.node 9 ⟨.string, 1, 16, (some [.str .empty]), true, false⟩ .nil .nil) (.node 22 ⟨.slice 45, 1, 24, (some [.nils]), true, false⟩ .nil .nil))) (.node 40 ⟨.slice 3, 1, 24, (some [.nils]), true, false⟩ (.node 34 ⟨.struct #[⟨"Entries", 22, 0, false, "", "", 0⟩, ⟨"Text", 9, 1, false, "", "", 24⟩, ⟨"Names", 23, 2, false, "", "", 40⟩, ⟨"Cols", 3, 3, false, "", "", 64⟩], 4, 72, (some [.nils, .str .empty, .nils, .int .i64 0]), false, true⟩ (.node 25 ⟨.int .i64, 1, 8, (some [.int .i64 0]), true, false⟩ .nil .nil) (.node 35 ⟨.struct #[⟨"Entries", 22, 0, false, "", "", 0⟩, ⟨"Text", 9, 1, false, "", "", 24⟩, ⟨"Names", 23, 2, false, "", "", 40⟩, ⟨"Cols", 3, 3, false, "", "", 64⟩], 4, 72, (some [.nils, .str .empty, .nils, .int .i64 0]), false, true⟩ .nil .nil)) (.node 42 ⟨.struct #[⟨"None", 4, 0, false, "", "", 0⟩, ⟨"Text", 9, 1, false, "", "", 8⟩, ⟨"Wits", 40, 2, false, "", "", 24⟩], 3, 48, (some [.ff, .str .empty, .nils]), false, true⟩ (.node 41 ⟨.struct #[⟨"None", 4, 0, false, "", "", 0⟩, ⟨"Text", 9, 1, false, "", "", 8⟩, ⟨"Wits", 40, 2, false, "", "", 24⟩], 3, 48, (some [.ff, .str .empty, .nils]), false, true⟩ .nil .nil) (.node 43 ⟨.slice 42, 1, 24, (some [.nils]), true, false⟩ .nil .nil)))) (.node 64 ⟨.slice 70, 1, 24, (some [.nils]), true, false⟩ (.node 49 ⟨.struct #[⟨"addr", 47, 0, false, "", "strings", 0⟩, ⟨"buf", 48, 1, false, "", "strings", 8⟩], 2, 32, (some [.nilp, .nils]), false, true⟩ (.node 47 ⟨.pointer 50, 1, 8, (some [.nilp]), true, false⟩ (.node 45 ⟨.struct #[⟨"Col", 3, 0, false, "", "", 0⟩, ⟨"Readings", 43, 1, false, "", "", 8⟩], 2, 32, (some [.int .i64 0, .nils]), false, true⟩ .nil .nil) (.node 48 ⟨.slice 5, 1, 24, (some [.nils]), true, false⟩ .nil .nil)) (.node 51 ⟨.interface #[("Error", 57)], 1, 16, (some [.nilif]), true, false⟩ (.node 50 ⟨.struct #[⟨"addr", 47, 0, false, "", "strings", 0⟩, ⟨"buf", 48, 1, false, "", "strings", 8⟩], 2, 32, (some [.nilp, .nils]), false, true⟩ .nil .nil) (.node 52 ⟨.interface #[("Error", 57)], 1, 16, (some [.nilif]), true, false⟩ .nil .nil))) (.node 68 ⟨.slice 105, 1, 24, (some [.nils]), true, false⟩ (.node 66 ⟨.struct #[⟨"Wits", 64, 0, false, "", "", 0⟩, ⟨"Cols", 65, 1, false, "", "", 24⟩], 2, 48, (some [.nils, .nils]), false, true⟩ (.node 65 ⟨.slice 40, 1, 24, (some [.nils]), true, false⟩ .nil .nil) (.node 67 ⟨.struct #[⟨"Wits", 64, 0, false, "", "", 0⟩, ⟨"Cols", 65, 1, false, "", "", 24⟩], 2, 48, (some [.nils, .nils]), false, true⟩ .nil .nil)) (.node 70 ⟨.struct #[⟨"Name", 9, 0, false, "", "", 0⟩, ⟨"Head", 9, 1, false, "", "", 16⟩, ⟨"Words", 68, 2, false, "", "", 32⟩], 3, 56, (some [.str .empty, .str .empty, .nils]), false, true⟩ (.node 69 ⟨.struct #[⟨"Name", 9, 0, false, "", "", 0⟩, ⟨"Head", 9, 1, false, "", "", 16⟩, ⟨"Words", 68, 2, false, "", "", 32⟩], 3, 56, (some [.str .empty, .str .empty, .nils]), false, true⟩ .nil .nil) (.node 75 ⟨.pointer 5, 1, 8, (some [.nilp]), true, false⟩ .nil .nil))))) (.node 131 ⟨.struct #[⟨"Func", 9, 0, false, "", "", 0⟩, ⟨"Num", 9, 1, false, "", "", 16⟩, ⟨"Err", 52, 2, false, "", "", 32⟩], 3, 48, (some [.str .empty, .str .empty, .nilif]), false, false⟩ (.node 108 ⟨.int .i64, 1, 8, (some [.int .i64 0]), true, false⟩ (.node 89 ⟨.int .u64, 1, 8, (some [.int .u64 0]), true, false⟩ (.node 79 ⟨.slice 4, 1, 24, (some [.nils]), true, false⟩ (.node 78 ⟨.map 9 4, 1, 8, (some [.u]), true, false⟩ .nil .nil) (.node 86 ⟨.unsafePointer, 1, 8, (some [.nilp]), true, false⟩ .nil .nil)) (.node 104 ⟨.struct #[⟨"Text", 9, 0, false, "", "", 0⟩, ⟨"Tail", 9, 1, false, "", "", 16⟩], 2, 32, (some [.str .empty, .str .empty]), false, true⟩ (.node 95 ⟨.int .u64, 1, 8, (some [.int .u64 0]), true, false⟩ .nil .nil) (.node 105 ⟨.struct #[⟨"Text", 9, 0, false, "", "", 0⟩, ⟨"Tail", 9, 1, false, "", "", 16⟩], 2, 32, (some [.str .empty, .str .empty]), false, true⟩ .nil .nil))) (.node 119 ⟨.struct #[⟨"Kind", 3, 0, false, "", "", 0⟩, ⟨"At", 3, 1, false, "", "", 8⟩, ⟨"Text", 9, 2, false, "", "", 16⟩], 3, 32, (some [.int .i64 0, .int .i64 0, .str .empty]), false, true⟩ (.node 115 ⟨.slice 119, 1, 24, (some [.nils]), true, false⟩ (.node 111 ⟨.pointer 131, 1, 8, (some [.nilp]), true, false⟩ .nil .nil) (.node 118 ⟨.struct #[⟨"Kind", 3, 0, false, "", "", 0⟩, ⟨"At", 3, 1, false, "", "", 8⟩, ⟨"Text", 9, 2, false, "", "", 16⟩], 3, 32, (some [.int .i64 0, .int .i64 0, .str .empty]), false, true⟩ .nil .nil)) (.node 126 ⟨.int .u32, 1, 4, (some [.int .u32 0]), true, false⟩ (.node 120 ⟨.array 24 5, 24, 24, (some [.int .u8 0, .int .u8 0, .int .u8 0, .int .u8 0, .int .u8 0, .int .u8 0, .int .u8 0, .int .u8 0, .int .u8 0, .int .u8 0, .int .u8 0, .int .u8 0, .int .u8 0, .int .u8 0, .int .u8 0, .int .u8 0, .int .u8 0, .int .u8 0, .int .u8 0, .int .u8 0, .int .u8 0, .int .u8 0, .int .u8 0, .int .u8 0]), false, false⟩ .nil .nil) (.node 130 ⟨.struct #[⟨"Func", 9, 0, false, "", "", 0⟩, ⟨"Num", 9, 1, false, "", "", 16⟩, ⟨"Err", 52, 2, false, "", "", 32⟩], 3, 48, (some [.str .empty, .str .empty, .nilif]), false, false⟩ .nil .nil)))) (.node 148 ⟨.struct #[⟨"At", 3, 0, false, "", "", 0⟩, ⟨"Width", 3, 1, false, "", "", 8⟩, ⟨"R", 21, 2, false, "", "", 16⟩, ⟨"Bad", 4, 3, false, "", "", 20⟩, ⟨"Byte", 5, 4, false, "", "", 21⟩], 5, 24, (some [.int .i64 0, .int .i64 0, .int .i32 0, .ff, .int .u8 0]), false, true⟩ (.node 143 ⟨.struct #[⟨"s", 9, 0, false, "", "errors", 0⟩], 1, 16, (some [.str .empty]), false, true⟩ (.node 139 ⟨.array 65 5, 65, 65, (some [.int .u8 0, .int .u8 0, .int .u8 0, .int .u8 0, .int .u8 0, .int .u8 0, .int .u8 0, .int .u8 0, .int .u8 0, .int .u8 0, .int .u8 0, .int .u8 0, .int .u8 0, .int .u8 0, .int .u8 0, .int .u8 0, .int .u8 0, .int .u8 0, .int .u8 0, .int .u8 0, .int .u8 0, .int .u8 0, .int .u8 0, .int .u8 0, .int .u8 0, .int .u8 0, .int .u8 0, .int .u8 0, .int .u8 0, .int .u8 0, .int .u8 0, .int .u8 0, .int .u8 0, .int .u8 0, .int .u8 0, .int .u8 0, .int .u8 0, .int .u8 0, .int .u8 0, .int .u8 0, .int .u8 0, .int .u8 0, .int .u8 0, .int .u8 0, .int .u8 0, .int .u8 0, .int .u8 0, .int .u8 0, .int .u8 0, .int .u8 0, .int .u8 0, .int .u8 0, .int .u8 0, .int .u8 0, .int .u8 0, .int .u8 0, .int .u8 0, .int .u8 0, .int .u8 0, .int .u8 0, .int .u8 0, .int .u8 0, .int .u8 0, .int .u8 0, .int .u8 0]), false, false⟩ (.node 138 ⟨.array 20 95, 20, 160, (some [.int .u64 0, .int .u64 0, .int .u64 0, .int .u64 0, .int .u64 0, .int .u64 0, .int .u64 0, .int .u64 0, .int .u64 0, .int .u64 0, .int .u64 0, .int .u64 0, .int .u64 0, .int .u64 0, .int .u64 0, .int .u64 0, .int .u64 0, .int .u64 0, .int .u64 0, .int .u64 0]), false, false⟩ .nil .nil) (.node 142 ⟨.pointer 144, 1, 8, (some [.nilp]), true, false⟩ .nil .nil)) (.node 145 ⟨.slice 148, 1, 24, (some [.nils]), true, false⟩ (.node 144 ⟨.struct #[⟨"s", 9, 0, false, "", "errors", 0⟩], 1, 16, (some [.str .empty]), false, true⟩ .nil .nil) (.node 147 ⟨.struct #[⟨"At", 3, 0, false, "", "", 0⟩, ⟨"Width", 3, 1, false, "", "", 8⟩, ⟨"R", 21, 2, false, "", "", 16⟩, ⟨"Bad", 4, 3, false, "", "", 20⟩, ⟨"Byte", 5, 4, false, "", "", 21⟩], 5, 24, (some [.int .i64 0, .int .i64 0, .int .i32 0, .ff, .int .u8 0]), false, true⟩ .nil .nil))) (.node 154 ⟨.array 16 153, 32, 32, (some [.int .u8 0, .int .u8 0, .int .u8 0, .int .u8 0, .int .u8 0, .int .u8 0, .int .u8 0, .int .u8 0, .int .u8 0, .int .u8 0, .int .u8 0, .int .u8 0, .int .u8 0, .int .u8 0, .int .u8 0, .int .u8 0, .int .u8 0, .int .u8 0, .int .u8 0, .int .u8 0, .int .u8 0, .int .u8 0, .int .u8 0, .int .u8 0, .int .u8 0, .int .u8 0, .int .u8 0, .int .u8 0, .int .u8 0, .int .u8 0, .int .u8 0, .int .u8 0]), false, false⟩ (.node 152 ⟨.struct #[⟨"lo", 5, 0, false, "", "unicode/utf8", 0⟩, ⟨"hi", 5, 1, false, "", "unicode/utf8", 1⟩], 2, 2, (some [.int .u8 0, .int .u8 0]), false, true⟩ (.node 151 ⟨.array 256 5, 256, 256, (some [.int .u8 0, .int .u8 0, .int .u8 0, .int .u8 0, .int .u8 0, .int .u8 0, .int .u8 0, .int .u8 0, .int .u8 0, .int .u8 0, .int .u8 0, .int .u8 0, .int .u8 0, .int .u8 0, .int .u8 0, .int .u8 0, .int .u8 0, .int .u8 0, .int .u8 0, .int .u8 0, .int .u8 0, .int .u8 0, .int .u8 0, .int .u8 0, .int .u8 0, .int .u8 0, .int .u8 0, .int .u8 0, .int .u8 0, .int .u8 0, .int .u8 0, .int .u8 0, .int .u8 0, .int .u8 0, .int .u8 0, .int .u8 0, .int .u8 0, .int .u8 0, .int .u8 0, .int .u8 0, .int .u8 0, .int .u8 0, .int .u8 0, .int .u8 0, .int .u8 0, .int .u8 0, .int .u8 0, .int .u8 0, .int .u8 0, .int .u8 0, .int .u8 0, .int .u8 0, .int .u8 0, .int .u8 0, .int .u8 0, .int .u8 0, .int .u8 0, .int .u8 0, .int .u8 0, .int .u8 0, .int .u8 0, .int .u8 0, .int .u8 0, .int .u8 0, .int .u8 0, .int .u8 0, .int .u8 0, .int .u8 0, .int .u8 0, .int .u8 0, .int .u8 0, .int .u8 0, .int .u8 0, .int .u8 0, .int .u8 0, .int .u8 0, .int .u8 0, .int .u8 0, .int .u8 0, .int .u8 0, .int .u8 0, .int .u8 0, .int .u8 0, .int .u8 0, .int .u8 0, .int .u8 0, .int .u8 0, .int .u8 0, .int .u8 0, .int .u8 0, .int .u8 0, .int .u8 0, .int .u8 0, .int .u8 0, .int .u8 0, .int .u8 0, .int .u8 0, .int .u8 0, .int .u8 0, .int .u8 0, .int .u8 0, .int .u8 0, .int .u8 0, .int .u8 0, .int .u8 0, .int .u8 0, .int .u8 0, .int .u8 0, .int .u8 0, .int .u8 0, .int .u8 0, .int .u8 0, .int .u8 0, .int .u8 0, .int .u8 0, .int .u8 0, .int .u8 0, .int .u8 0, .int .u8 0, .int .u8 0, .int .u8 0, .int .u8 0, .int .u8 0, .int .u8 0, .int .u8 0, .int .u8 0, .int .u8 0, .int .u8 0, .int .u8 0, .int .u8 0, .int .u8 0, .int .u8 0, .int .u8 0, .int .u8 0, .int .u8 0, .int .u8 0, .int .u8 0, .int .u8 0, .int .u8 0, .int .u8 0, .int .u8 0, .int .u8 0, .int .u8 0, .int .u8 0, .int .u8 0, .int .u8 0, .int .u8 0, .int .u8 0, .int .u8 0, .int .u8 0, .int .u8 0, .int .u8 0, .int .u8 0, .int .u8 0, .int .u8 0, .int .u8 0, .int .u8 0, .int .u8 0, .int .u8 0, .int .u8 0, .int .u8 0, .int .u8 0, .int .u8 0, .int .u8 0, .int .u8 0, .int .u8 0, .int .u8 0, .int .u8 0, .int .u8 0, .int .u8 0, .int .u8 0, .int .u8 0, .int .u8 0, .int .u8 0, .int .u8 0, .int .u8 0, .int .u8 0, .int .u8 0, .int .u8 0, .int .u8 0, .int .u8 0, .int .u8 0, .int .u8 0, .int .u8 0, .int .u8 0, .int .u8 0, .int .u8 0, .int .u8 0, .int .u8 0, .int .u8 0, .int .u8 0, .int .u8 0, .int .u8 0, .int .u8 0, .int .u8 0, .int .u8 0, .int .u8 0, .int .u8 0, .int .u8 0, .int .u8 0, .int .u8 0, .int .u8 0, .int .u8 0, .int .u8 0, .int .u8 0, .int .u8 0, .int .u8 0, .int .u8 0, .int .u8 0, .int .u8 0, .int .u8 0, .int .u8 0, .int .u8 0, .int .u8 0, .int .u8 0, .int .u8 0, .int .u8 0, .int .u8 0, .int .u8 0, .int .u8 0, .int .u8 0, .int .u8 0, .int .u8 0, .int .u8 0, .int .u8 0, .int .u8 0, .int .u8 0, .int .u8 0, .int .u8 0, .int .u8 0, .int .u8 0, .int .u8 0, .int .u8 0, .int .u8 0, .int .u8 0, .int .u8 0, .int .u8 0, .int .u8 0, .int .u8 0, .int .u8 0, .int .u8 0, .int .u8 0, .int .u8 0, .int .u8 0, .int .u8 0, .int .u8 0, .int .u8 0, .int .u8 0, .int .u8 0, .int .u8 0, .int .u8 0, .int .u8 0, .int .u8 0, .int .u8 0, .int .u8 0, .int .u8 0]), false, false⟩ .nil .nil) (.node 153 ⟨.struct #[⟨"lo", 5, 0, false, "", "unicode/utf8", 0⟩, ⟨"hi", 5, 1, false, "", "unicode/utf8", 1⟩], 2, 2, (some [.int .u8 0, .int .u8 0]), false, true⟩ .nil .nil)) (.node 157 ⟨.array 64 5, 64, 64, (some [.int .u8 0, .int .u8 0, .int .u8 0, .int .u8 0, .int .u8 0, .int .u8 0, .int .u8 0, .int .u8 0, .int .u8 0, .int .u8 0, .int .u8 0, .int .u8 0, .int .u8 0, .int .u8 0, .int .u8 0, .int .u8 0, .int .u8 0, .int .u8 0, .int .u8 0, .int .u8 0, .int .u8 0, .int .u8 0, .int .u8 0, .int .u8 0, .int .u8 0, .int .u8 0, .int .u8 0, .int .u8 0, .int .u8 0, .int .u8 0, .int .u8 0, .int .u8 0, .int .u8 0, .int .u8 0, .int .u8 0, .int .u8 0, .int .u8 0, .int .u8 0, .int .u8 0, .int .u8 0, .int .u8 0, .int .u8 0, .int .u8 0, .int .u8 0, .int .u8 0, .int .u8 0, .int .u8 0, .int .u8 0, .int .u8 0, .int .u8 0, .int .u8 0, .int .u8 0, .int .u8 0, .int .u8 0, .int .u8 0, .int .u8 0, .int .u8 0, .int .u8 0, .int .u8 0, .int .u8 0, .int .u8 0, .int .u8 0, .int .u8 0, .int .u8 0]), false, false⟩ (.node 156 ⟨.array 32 5, 32, 32, (some [.int .u8 0, .int .u8 0, .int .u8 0, .int .u8 0, .int .u8 0, .int .u8 0, .int .u8 0, .int .u8 0, .int .u8 0, .int .u8 0, .int .u8 0, .int .u8 0, .int .u8 0, .int .u8 0, .int .u8 0, .int .u8 0, .int .u8 0, .int .u8 0, .int .u8 0, .int .u8 0, .int .u8 0, .int .u8 0, .int .u8 0, .int .u8 0, .int .u8 0, .int .u8 0, .int .u8 0, .int .u8 0, .int .u8 0, .int .u8 0, .int .u8 0, .int .u8 0]), false, false⟩ .nil .nil) .nil)))))
theorem tbOk : TOk Tryd.prog TB := (TOk.node (by kernel_rfl) (by kernel_rfl) (TOk.node (by kernel_rfl) (by kernel_rfl) (TOk.node (by kernel_rfl) (by kernel_rfl) (TOk.node (by kernel_rfl) (by kernel_rfl) (TOk.node (by kernel_rfl) (by kernel_rfl) (TOk.node (by kernel_rfl) (by kernel_rfl) TOk.nil TOk.nil) (TOk.node (by kernel_rfl) (by kernel_rfl) TOk.nil TOk.nil)) (TOk.node (by kernel_rfl) (by kernel_rfl) (TOk.node (by kernel_rfl) (by kernel_rfl) TOk.nil TOk.nil) (TOk.node (by kernel_rfl) (by kernel_rfl) TOk.nil TOk.nil))) (TOk.node (by kernel_rfl) (by kernel_rfl) (TOk.node (by kernel_rfl) (by kernel_rfl) (TOk.node (by kernel_rfl) (by kernel_rfl) TOk.nil TOk.nil) (TOk.node (by kernel_rfl) (by kernel_rfl) TOk.nil TOk.nil)) (TOk.node (by kernel_rfl) (by kernel_rfl) (TOk.node (by kernel_rfl) (by kernel_rfl) TOk.nil TOk.nil) (TOk.node (by kernel_rfl) (by kernel_rfl) TOk.nil TOk.nil)))) (TOk.node (by kernel_rfl) (by kernel_rfl) (TOk.node (by kernel_rfl) (by kernel_rfl) (TOk.node (by kernel_rfl) (by kernel_rfl) (TOk.node (by kernel_rfl) (by kernel_rfl) TOk.nil TOk.nil) (TOk.node (by kernel_rfl) (by kernel_rfl) TOk.nil TOk.nil)) (TOk.node (by kernel_rfl) (by kernel_rfl) (TOk.node (by kernel_rfl) (by kernel_rfl) TOk.nil TOk.nil) (TOk.node (by kernel_rfl) (by kernel_rfl) TOk.nil TOk.nil))) (TOk.node (by kernel_rfl) (by kernel_rfl) (TOk.node (by kernel_rfl) (by kernel_rfl) (TOk.node (by kernel_rfl) (by kernel_rfl) TOk.nil TOk.nil) (TOk.node (by kernel_rfl) (by kernel_rfl) TOk.nil TOk.nil)) (TOk.node (by kernel_rfl) (by kernel_rfl) (TOk.node (by kernel_rfl) (by kernel_rfl) TOk.nil TOk.nil) (TOk.node (by kernel_rfl) (by kernel_rfl) TOk.nil TOk.nil))))) (TOk.node (by kernel_rfl) (by kernel_rfl) (TOk.node (by kernel_rfl) (by kernel_rfl) (TOk.node (by kernel_rfl) (by kernel_rfl) (TOk.node (by kernel_rfl) (by kernel_rfl) (TOk.node (by kernel_rfl) (by kernel_rfl) TOk.nil TOk.nil) (TOk.node (by kernel_rfl) (by kernel_rfl) TOk.nil TOk.nil)) (TOk.node (by kernel_rfl) (by kernel_rfl) (TOk.node (by kernel_rfl) (by kernel_rfl) TOk.nil TOk.nil) (TOk.node (by kernel_rfl) (by kernel_rfl) TOk.nil TOk.nil))) (TOk.node (by kernel_rfl) (by kernel_rfl) (TOk.node (by kernel_rfl) (by kernel_rfl) (TOk.node (by kernel_rfl) (by kernel_rfl) TOk.nil TOk.nil) (TOk.node (by kernel_rfl) (by kernel_rfl) TOk.nil TOk.nil)) (TOk.node (by kernel_rfl) (by kernel_rfl) (TOk.node (by kernel_rfl) (by kernel_rfl) TOk.nil TOk.nil) (TOk.node (by kernel_rfl) (by kernel_rfl) TOk.nil TOk.nil)))) (TOk.node (by kernel_rfl) (by kernel_rfl) (TOk.node (by kernel_rfl) (by kernel_rfl) (TOk.node (by kernel_rfl) (by kernel_rfl) (TOk.node (by kernel_rfl) (by kernel_rfl) TOk.nil TOk.nil) (TOk.node (by kernel_rfl) (by kernel_rfl) TOk.nil TOk.nil)) (TOk.node (by kernel_rfl) (by kernel_rfl) (TOk.node (by kernel_rfl) (by kernel_rfl) TOk.nil TOk.nil) (TOk.node (by kernel_rfl) (by kernel_rfl) TOk.nil TOk.nil))) (TOk.node (by kernel_rfl) (by kernel_rfl) (TOk.node (by kernel_rfl) (by kernel_rfl) (TOk.node (by kernel_rfl) (by kernel_rfl) TOk.nil TOk.nil) (TOk.node (by kernel_rfl) (by kernel_rfl) TOk.nil TOk.nil)) (TOk.node (by kernel_rfl) (by kernel_rfl) (TOk.node (by kernel_rfl) (by kernel_rfl) TOk.nil TOk.nil) TOk.nil)))))
end Go.Proofs.YteklnpgiloebcaaDoor.V

namespace Go.Proofs.YteklnpgiloebcaaDoor.V
set_option linter.unusedVariables false
set_option linter.unusedSimpArgs false
open Go Go.Proofs Go.RowKit Go.Shelf
set_option maxRecDepth 100000
theorem first_same : ∀ c : Fin 256, firstT c.val = (Lib.firstT c.val : Int) := by decide +kernel
theorem acc_same : ∀ i : Fin 16, accT (2 * i.val) = (Lib.accLo i.val : Int) ∧ accT (2 * i.val + 1) = (Lib.accHi i.val : Int) := by decide +kernel
theorem cell_lt {w : World} {g i : Nat} {v : Value} (h : w.cell? ⟨g, i, none⟩ = some v) : g < w.heap.size := by
  rcases Nat.lt_or_ge g w.heap.size with h1 | h1
  · exact h1
  · unfold World.cell? at h
    simp [Array.getElem?_eq_none h1] at h
theorem add0 (g j : Nat) : (⟨g, 0, none⟩ : Addr).add j = ⟨g, j, none⟩ := by
  unfold Addr.add
  by_cases h : j = 0
  · simp [h]
  · simp [h]
/-- A variable that holds an error: its one cell. -/
theorem iface_cell {H : Type} {enc : TypeId × Value → H} {P : Program} {w : World} {base : Nat} {sp : Nat → Bool} {held : Bool} {fuel : Nat} {t : TypeId} {ms : Array (String × TypeId)} {cs : List Value} {nm : String} {d : DataW H} {p : List MemPlace}
    (ht : P.underlying t = some (.interface ms)) (h : DataW.trod enc P w base sp held fuel t cs = some (.iface nm d, p)) : ∃ u v, cs = [.iface u v] := by
  cases fuel with
  | zero => simp [DataW.trod] at h
  | succ fuel =>
    rcases cs with _ | ⟨x, _ | ⟨y, r⟩⟩
    · simp [DataW.trod, ht] at h
    · cases x <;> first | exact ⟨_, _, rfl⟩ | (exfalso; simp [DataW.trod, ht] at h)
    · cases x <;> (exfalso; simp [DataW.trod, ht] at h)
def ErrCell (W : World) : Prop := ∃ v, W.cell? ⟨1, 0, none⟩ = some v ∧ v.oneCell' = true
def PowBlk (W : World) : Prop := ∃ (t : TypeId) (fz : Nat × Nat), W.heap[(3 : Nat)]? = some (.cells powV t fz)
theorem globs {W : World} (h2 : Lib.Utf8Tabs 4 5 W ∧ ErrCell W ∧ PowBlk W) : GlobOk (fun b => b < W.heap.size) W := by
  obtain ⟨h, ⟨ev, hec, heo⟩, hpw⟩ := h2
  intro g
  unfold GL
  split
  · have h0 := cell_lt (h.1 0 (by decide))
    refine ⟨⟨4, 0, none⟩, rfl, ⟨h0, h0⟩, fun j hj => ⟨.int .u8 (firstT j), ?_, rfl, rfl⟩⟩
    rw [add0, first_same ⟨j, hj⟩]
    exact h.1 j hj
  · have h0 := cell_lt (h.2 0 (by decide)).1
    refine ⟨⟨5, 0, none⟩, rfl, ⟨h0, h0⟩, fun j hj => ⟨.int .u8 (accT j), ?_, rfl, rfl⟩⟩
    have := h.2 (j / 2) (by omega)
    have hs := acc_same ⟨j / 2, by omega⟩
    rw [add0]
    rcases (by omega : j = 2 * (j / 2) ∨ j = 2 * (j / 2) + 1) with e | e
    · rw [e, hs.1]
      exact this.1
    · rw [e, hs.2]
      exact this.2
  · have h0 := cell_lt hec
    refine ⟨⟨1, 0, none⟩, rfl, ⟨h0, h0⟩, fun j hj => ⟨ev, ?_, heo, heo⟩⟩
    obtain rfl : j = 0 := by omega
    rw [add0]
    exact hec
  · obtain ⟨t, fz, hh⟩ := hpw
    have h0 : 3 < W.heap.size := by
      rcases Nat.lt_or_ge 3 W.heap.size with h1 | h1
      · exact h1
      · rw [Array.getElem?_eq_none h1] at hh; cases hh
    exact ⟨3, t, fz, rfl, ⟨h0, h0⟩, hh⟩
  · trivial
/-- What the rows of folding list. -/
def LD : List (String × DataW Unit) := [("math/bits.deBruijn32tab", Rows.laid_math_bits_deBruijn32tab), ("math/bits.deBruijn64tab", Rows.laid_math_bits_deBruijn64tab), ("internal/strconv.uint64pow10", Rows.laid_internal_strconv_uint64pow10), ("unicode/utf8.acceptRanges", Rows.laid_unicode_utf8_acceptRanges), ("strconv.ErrRange", Rows.laid_strconv_ErrRange), ("strconv.ErrSyntax", Rows.laid_strconv_ErrSyntax), ("unicode/utf8.first", Rows.laid_unicode_utf8_first)]
theorem first_eq : Rows.laid_unicode_utf8_first = Lib.firstData := by kernel_rfl
theorem acc_eq : (Rows.laid_unicode_utf8_acceptRanges : DataW Unit) = Lib.acceptData := by kernel_rfl
theorem pow_eq : (Rows.laid_internal_strconv_uint64pow10 : DataW Unit) = Lib.tabData .u64 Lib.pow10Tab := by kernel_rfl
theorem tabs {W : World} (h : laidMet Tryd.prog LD W) : Lib.Utf8Tabs 4 5 W ∧ ErrCell W ∧ PowBlk W := by
  have h3 := Lib.laidMet.reads h (n := "unicode/utf8.first") (d := Lib.firstData) (by rw [← first_eq]; exact .tail _ (.tail _ (.tail _ (.tail _ (.tail _ (.tail _ (.head _)))))))
  have h4 := Lib.laidMet.reads h (n := "unicode/utf8.acceptRanges") (d := Lib.acceptData) (by rw [← acc_eq]; exact .tail _ (.tail _ (.tail _ (.head _))))
  have h5 := Lib.laidMet.reads h (n := "strconv.ErrSyntax") (d := Rows.laid_strconv_ErrSyntax) (.tail _ (.tail _ (.tail _ (.tail _ (.tail _ (.head _))))))
  have h7 := Lib.laidMet.reads h (n := "internal/strconv.uint64pow10") (d := Lib.tabData .u64 Lib.pow10Tab) (by rw [← pow_eq]; exact .tail _ (.tail _ (.head _)))
  have c5 : Tryd.prog.cellsOf 5 = 1 := by kernel_rfl
  have t5 : Tryd.prog.underlying 5 = some (.int .u8) := by kernel_rfl
  have c113 : Tryd.prog.cellsOf 153 = 2 := by kernel_rfl
  refine ⟨⟨fun c hc => ?_, fun i hi => ?_⟩, ?_, ?_⟩
  · obtain ⟨g, t, cs, fuel, p, hg, hty, hvar, hd⟩ := h3
    obtain rfl := Option.some.inj ((show Tryd.prog.globalNamed "unicode/utf8.first" = some 4 by kernel_rfl).symm.trans hg)
    obtain rfl := Option.some.inj ((show (Tryd.prog.globals[4]?).map (·.type) = some 151 by kernel_rfl).symm.trans hty)
    have hcs := Lib.cells_of_tab (show Tryd.prog.underlying 151 = some (.array 256 5) by kernel_rfl) t5 c5 (show Tryd.prog.cellsOf 151 = 256 by kernel_rfl) hd
    have := World.var?_cell hg hvar c
    rw [this, ← Array.getElem?_toList, hcs]
    simp [Lib.firstTab, hc]
  · obtain ⟨g, t, cs, fuel, p, hg, hty, hvar, hd⟩ := h4
    obtain rfl := Option.some.inj ((show Tryd.prog.globalNamed "unicode/utf8.acceptRanges" = some 5 by kernel_rfl).symm.trans hg)
    obtain rfl := Option.some.inj ((show (Tryd.prog.globals[5]?).map (·.type) = some 154 by kernel_rfl).symm.trans hty)
    obtain ⟨fuel', d, q, hdi, he⟩ := Lib.array_elem (show Tryd.prog.underlying 154 = some (.array 16 153) by kernel_rfl) hd i hi
    simp only [List.getElem?_map, List.getElem?_range hi, Option.map_some, Option.some.injEq] at hdi
    subst hdi
    rw [c113] at he
    have hcs := Lib.ints_of_struct (fs := #[⟨"lo", 5, 0, false, "", "unicode/utf8", 0⟩, ⟨"hi", 5, 1, false, "", "unicode/utf8", 1⟩]) (show Tryd.prog.underlying 153 = some (.struct #[⟨"lo", 5, 0, false, "", "unicode/utf8", 0⟩, ⟨"hi", 5, 1, false, "", "unicode/utf8", 1⟩]) by kernel_rfl) (fun j f hj => by
      match j, hj with
      | 0, hj => simp at hj; subst hj; exact ⟨t5, rfl, c5⟩
      | 1, hj => simp at hj; subst hj; exact ⟨t5, rfl, c5⟩
      | j + 2, hj => simp at hj) (by rw [c113]; rfl) he
    have e0 := congrArg (·[0]?) hcs
    have e1 := congrArg (·[1]?) hcs
    simp only [List.getElem?_take, List.getElem?_drop] at e0 e1
    constructor
    · rw [World.var?_cell hg hvar (2 * i), ← Array.getElem?_toList]
      simpa [Nat.mul_comm] using e0
    · rw [World.var?_cell hg hvar (2 * i + 1), ← Array.getElem?_toList]
      simpa [Nat.mul_comm] using e1
  · obtain ⟨g, t, cs, fuel, p, hg, hty, hvar, hd⟩ := h5
    obtain rfl := Option.some.inj ((show Tryd.prog.globalNamed "strconv.ErrSyntax" = some 1 by kernel_rfl).symm.trans hg)
    obtain rfl := Option.some.inj ((show (Tryd.prog.globals[1]?).map (·.type) = some 52 by kernel_rfl).symm.trans hty)
    obtain ⟨u, v, hcs⟩ := iface_cell (show Tryd.prog.underlying 52 = some (.interface (Tryd.prog.methodsAt 52)) by kernel_rfl) hd
    refine ⟨.iface u v, ?_, rfl⟩
    rw [World.var?_cell hg hvar 0, ← Array.getElem?_toList, hcs]; rfl
  · obtain ⟨g, t, cs, fuel, p, hg, hty, hvar, hd⟩ := h7
    obtain rfl := Option.some.inj ((show Tryd.prog.globalNamed "internal/strconv.uint64pow10" = some 3 by kernel_rfl).symm.trans hg)
    obtain rfl := Option.some.inj ((show (Tryd.prog.globals[3]?).map (·.type) = some 138 by kernel_rfl).symm.trans hty)
    have hcs := Lib.cells_of_tab (show Tryd.prog.underlying 138 = some (.array 20 95) by kernel_rfl) (show Tryd.prog.underlying 95 = some (.int .u64) by kernel_rfl) (show Tryd.prog.cellsOf 95 = 1 by kernel_rfl) (show Tryd.prog.cellsOf 138 = 20 by kernel_rfl) hd
    have hcp : cs = powV := by
      apply Array.toList_inj.mp
      rw [hcs]; rfl
    subst hcp
    unfold World.var? at hvar
    rw [hg, Option.bind_some] at hvar
    cases hh : W.heap[(3 : Nat)]? with
    | none => rw [hh] at hvar; cases hvar
    | some o =>
      rw [hh] at hvar
      cases o with
      | cells cs t fz => cases hvar; exact ⟨t, fz, hh⟩
      | _ => cases hvar
/-- A world for the witnesses: the settled one, the tables as the rows list them. -/
noncomputable def laidWorld (os : Os) : World := World.laidAll Tryd.prog os LD
theorem laidWorld_os (os : Os) : (laidWorld os).os = os := World.laidAll_os _ _ _
theorem laid_met (os : Os) (args : Array Value) : laidMet Tryd.prog LD ((laidWorld os).forCall (fun _ _ => 0) ⟨#[], args, []⟩).memory :=
  laidMet_laidAll args (by kernel_rfl) (by kernel_rfl)
theorem own : ownKnob Tryd.prog.godebug = none := by kernel_rfl
theorem laidOut : laidOutB Tryd.prog = true := by kernel_rfl
end Go.Proofs.YteklnpgiloebcaaDoor.V

namespace Go.Proofs.YteklnpgiloebcaaDoor.V
set_option linter.unusedVariables false
set_option linter.unusedSimpArgs false
open Go Go.RowKit

section
variable {C : Ctx} {k : List Item} {env : Env} {h : Heap}
end
/-! ### []byte(s): the call's own -/
theorem heap_drew {w : World} {o : Obj} {b : Nat} (h : b < w.heap.size) : (w.drew.alloc o).heap[b]? = w.heap[b]? := heap_alloc_old w.drew _ h
theorem Run.toBytesR {C : Ctx} {env : Env} {h : Heap} {o : Oper} {ops : Array Oper} {i : Nat} {rest : List Nat} {k : List Item} {src dst e d : TypeId} {x : Operand} (s : ByteArray) (ho : ops.toList[i]? = some o) (hc : o.op = .convert src dst x) (hdst' : o.dst = some d)
    (hd : okD C o.dst = true) (hr : ready env ops o = true) (hx : ev env x = .str s)
    (hsrc : C.P.underlying src = some .string) (hdst : C.P.underlying dst = some (.slice e)) (he : C.P.underlying e = some (.int .u8))
    (next : Run C (.inRegion ops rest :: k) (putE (scrubE d env) o.dst (.row d)) (upd (upd (scrubH d h) d .dead) d (.row e 1 s.size (bytesG s)))) : Run C (.inRegion ops (i :: rest) :: k) env h :=
  Run.opG (fun env' h' z => env' = scrubE d env ∧ h' = upd (upd (scrubH d h) d .dead) d (.row e 1 s.size (bytesG s)) ∧ z = .row d) ho hd hr (fun ι a w R => by
    have hv := ev_ok R x
    rw [hx] at hv
    obtain ⟨hv', hmax⟩ : a.eval x = .string s ∧ s.size ≤ maxLen := hv
    have hge := grownCap_ge w s.size 0 e
    have hmx := grownCap_le_maxLen w s.size 0 e hmax
    have hbl : Below C.B w (w.drew.alloc (.cells (bytesRow s (grownCap w s.size 0 e)) e ((bytesRow s (grownCap w s.size 0 e)).size, (bytesRow s (grownCap w s.size 0 e)).size + 1))) := (((Below.refl w.heap.size w).drew).alloc (Nat.le_refl _) _).mono R.below.size
    have hbs : (bytesRow s (grownCap w s.size 0 e)).size = grownCap w s.size 0 e := by
      unfold bytesRow
      have h9 : s.data.size = s.size := rfl
      simp only [Array.size_append, Array.size_map, Array.size_replicate]
      omega
    have R' := (R.make d d (.row e 1 s.size (bytesG s)) (.slice (some ⟨w.heap.size, 0, none⟩) s.size (grownCap w s.size 0 e)) _ hbl (fun b hb => heap_drew hb.1)
      (fun id _ _ hl g hg => heap_drew (R.base id hl g hg).2) rfl (fun g hg => by cases hg; exact ⟨R.below.size, by show _ < (w.heap.push _).size; simp⟩)
      (fun g hg hb => by cases hg; exact absurd hb.1 (Nat.lt_irrefl _)) (fun id _ _ hl g hg e => by cases e; exact absurd (R.base id hl _ hg).2 (Nat.lt_irrefl _))
      (fun ok r hok hS hr => by
        refine ⟨(bytesRow s (grownCap w s.size 0 e)).toList.take (s.size * 1), ⟨?_, .inr ⟨w.heap.size, grownCap w s.size 0 e, _, rfl, R.below.size, ⟨_, heap_alloc_new w.drew _, .inr (Nat.le_refl _)⟩, hge, hmx, by rw [hbs]; omega, rfl⟩⟩, ?_, ?_⟩
        · rw [List.length_take, Array.length_toList, hbs]; omega
        · intro u hu
          have hu := List.mem_of_mem_take hu
          unfold bytesRow at hu
          simp only [Array.toList_append, List.mem_append, Array.toList_map, List.mem_map, Array.toList_replicate, List.mem_replicate] at hu
          rcases hu with ⟨b, _, rfl⟩ | ⟨_, rfl⟩ <;> rfl
        · intro i j hi hj
          obtain rfl : j = 0 := by omega
          have hi' : i < s.data.size := hi
          refine ⟨.int .u8 (s.data[i].toNat : Int), ?_, ?_⟩
          · rw [List.getElem?_take_of_lt (by omega)]
            have := bytesRow_at s (grownCap w s.size 0 e) i hi'
            rw [← Array.getElem?_toList] at this
            simpa using this
          · show Value.int .u8 _ = .int .u8 (bt s i)
            unfold bt
            rw [List.getD, List.getElem?_eq_getElem (by simpa using hi')]; simp)).1
    refine ⟨.value (.slice (some ⟨w.heap.size, 0, none⟩) s.size (grownCap w s.size 0 e)), .slice (some ⟨w.heap.size, 0, none⟩) s.size (grownCap w s.size 0 e), _, _, _, _, .row d, ?_, .inl rfl, R', ?_, rfl, rfl, rfl⟩
    · rw [show (execOp a.eval o) = (do pure (.value (← convert src dst (a.eval x))) : Sem Next) by simp [execOp, hc]]
      rw [hv']
      simp [run_bytes_of_string w src dst e s hsrc hdst he]
    · show _ = upd ι d _ d 0
      rw [upd_same]) (fun env' h' y ⟨e1, e2, e3⟩ => by subst e1; subst e2; subst e3; exact next)
/-! ### small words on lists -/
theorem one0 {P : Nat → Prop} (h : P 0) : ∀ j, j < 1 → P j
  | 0, _ => h
  | j + 1, hj => absurd hj (by omega)
theorem take_at {α : Type} (l : List α) (j : Nat) (z : α) (h : j < l.length) : l.take (j + 1) = l.take j ++ [l.getD j z] := by
  rw [List.take_succ_eq_append_getElem h, List.getD, List.getElem?_eq_getElem h]; rfl
theorem getD_mem' {α : Type} {l : List α} {z : α} (i : Nat) (h : i < l.length) : l.getD i z ∈ l := by
  rw [List.getD, List.getElem?_eq_getElem h]; exact List.getElem_mem h
end Go.Proofs.YteklnpgiloebcaaDoor.V

namespace Go.Proofs.YteklnpgiloebcaaDoor.V
set_option linter.unusedVariables false
set_option linter.unusedSimpArgs false
open Go Go.RowKit
section
variable {C : Ctx} {env : Env} {h : Heap} {ι : Loc} {a : Act} {w : World}
end
/-- A function with two answers, of which the first is an aggregate that lies in a cell. -/
theorem Run.leaveC2 {C : Ctx} {env : Env} {h : Heap} {k : List Item} {fn : Func} {t u1 : Nat} {ty : TypeId} {m : Nat} {get : Nat → AV} {y0 y1 : AV} (hk : k = [] ∨ ∃ k', k = .code .ret :: k') (hR : C.R = Post C.S C.w0 (tupL [y0, y1])) (hf : C.P.funcs[C.f]? = some fn) (hres : fn.results = #[.cell t ty, .tmp u1])
    (hp : placeAt h (env t) = some (m, get)) (hg : isAggT C.T ty = some true) (hm : C.T.cellsOf ty ≤ m) (hle : Le (fz h (.agg (C.T.cellsOf ty) get)) y0) (hle1 : Le (fz h (env u1)) y1) (hds : C.kp.ds = [] := by rfl) : Run C k env h := by
  refine ⟨fun ι a w b cs hb hkd R => ?_⟩
  obtain ⟨ad, had, hc⟩ := placeAt_ok R hp (R.env t)
  let v : Value := .agg ((List.range (C.T.cellsOf ty)).map fun j => (w.cell? (ad.add j)).getD undef).toArray
  have hv : VR w (okB C h ι w) (.agg (C.T.cellsOf ty) get) (rf h ι) v := by
    refine ⟨_, rfl, by simp, fun j hj => ?_⟩
    obtain ⟨cv, c1, c2, c3⟩ := hc j (by omega)
    exact ⟨cv, by simp [hj, c1], c2, c3⟩
  have hrun : (results fn a.tmps).run C.P w = .ok (.tuple #[v, a.tmps.getD u1 undef]) w := by
    have hl : (loadVar ty ad).run C.P w = .ok v w := run_loadVar_agg hg _ (fun j hj => by obtain ⟨cv, c1, _⟩ := hc j (by omega); rw [c1]; rfl)
    have hm2 : (resM a.tmps (.cell t ty)).run C.P w = .ok v w := by
      show (asAddr (a.tmps.getD t undef) >>= fun ad => loadVar ty ad).run C.P w = _
      rw [had]
      simp only [asAddr, Sem.run_bind, Sem.run_pure, Result.andThen_ok]
      exact hl
    rw [results_eq, hres]
    have : (#[ResultVar.cell t ty, .tmp u1].mapM (resM a.tmps)).run C.P w = .ok #[v, a.tmps.getD u1 undef] w := by
      rw [show (#[ResultVar.cell t ty, .tmp u1] : Array ResultVar) = [ResultVar.cell t ty, .tmp u1].toArray from rfl, List.mapM_toArray, Sem.run_map]
      have e1 : (resM a.tmps (.tmp u1)).run C.P w = .ok (a.tmps.getD u1 undef) w := rfl
      simp only [List.mapM_cons, List.mapM_nil, Sem.run_bind, Sem.run_pure, Result.andThen_ok, hm2, e1]
    rw [Sem.run_bind, this]
    rfl
  refine ⟨.returned _, w, { b.at a k with mode := .returning }, ?_, ?_, hb, rfl, R.defers.1.trans hds, hkd, fn, by show C.P.funcs[b.fn]? = _; rw [hb]; exact hf, hrun⟩
  · rw [hR]
    refine ⟨_, rfl, R.below, ?_⟩
    have hfz : ∀ x v, VR w (okB C h ι w) x (rf h ι) v → VR w (fun b => (C.S b ∨ C.w0.heap.size ≤ b) ∧ b < w.heap.size) (fz h x) noref v := fun x v hx =>
      fz_ok R (fun b hb' => ⟨hb'.2.1, hb'.1⟩) (fun id hl g hg => by
        have := R.base id hl g hg
        exact ⟨.inr this.1, this.2⟩) x v hx
    refine ⟨_, rfl, rfl, fun j hj => ?_⟩
    match j, hj with
    | 0, _ => exact ⟨_, rfl, hle _ _ _ _ (hfz _ _ hv)⟩
    | 1, _ => exact ⟨_, rfl, hle1 _ _ _ _ (hfz _ _ (R.env u1))⟩
  · rcases hk with rfl | ⟨k', rfl⟩
    · exact Steps.one step_end
    · exact Steps.one step_ret
end Go.Proofs.YteklnpgiloebcaaDoor.V


namespace Go.Proofs.YteklnpgiloebcaaDoor.V
set_option linter.unusedVariables false
set_option linter.unusedSimpArgs false
open Go Go.Proofs Go.RowKit
set_option maxRecDepth 100000
set_option maxHeartbeats 1000000
open Go Go.Proofs Go.Proofs.YteklnpgiloebcaaDoor.V
theorem bt_lt (s : ByteArray) (i : Nat) : 0 ≤ bt s i ∧ bt s i < 256 := by
  unfold bt
  have := UInt8.toNat_lt (s.data.toList.getD i 0)
  omega
theorem bt_get (s : ByteArray) (i : Nat) : (s.get! i).toNat = (bt s i).toNat := by
  have : s.data.toList.getD i 0 = s.get! i := by
    cases s with
    | mk d =>
      show d.toList.getD i 0 = d[i]!
      by_cases h : i < d.size
      · rw [getElem!_pos d i h]; simp [List.getD, h]
      · rw [getElem!_neg d i h]; simp [List.getD, h]; rfl
  unfold bt
  rw [this]; simp
theorem firstT_cases (b : Nat) : (240 ≤ firstT b ∧ (b < 194 ∨ 244 < b)) ∨ (firstT b = 2 ∧ 194 ≤ b ∧ b < 224) ∨ (firstT b = 19 ∧ b = 224) ∨ (firstT b = 3 ∧ ((225 ≤ b ∧ b < 237) ∨ (238 ≤ b ∧ b < 240))) ∨ (firstT b = 35 ∧ b = 237) ∨ (firstT b = 52 ∧ b = 240) ∨ (firstT b = 4 ∧ 241 ≤ b ∧ b < 244) ∨ (firstT b = 68 ∧ b = 244) := by
  unfold firstT
  repeat' split
  all_goals omega
theorem dec_bt (s : ByteArray) : Utf8.decode s 0 = Lib.decodeN s.size (bt s (Int.toNat 0)).toNat (bt s (Int.toNat 1)).toNat (bt s (Int.toNat 2)).toNat (bt s (Int.toNat 3)).toNat := by
  rw [Lib.decode_at, bt_get, bt_get, bt_get, bt_get]; rfl
theorem dec_low (n b0 b1 b2 b3 : Nat) (hb : b0 < 194 ∨ 244 < b0) (h256 : b0 < 256) : (Lib.decodeN n b0 b1 b2 b3).2 = 1 := by
  unfold Lib.decodeN
  repeat' split
  all_goals first | rfl | (exfalso; omega)
theorem slow_fn (s : ByteArray) (h : 0 < s.size) : Fn Tryd.prog 92 [.str s] (tupL [.u, .int .i64 (Utf8.decode s 0).2]) := by
  refine Fn.of Tryd.f92 _ Tryd.func92 rfl (by decide) (by show 1 ≤ _; decide) tbOk 117 rfl fun S w0 gl => ?_
  have h0 := bt_lt s (Int.toNat 0)
  have h1 := bt_lt s (Int.toNat 1)
  have h2 := bt_lt s (Int.toNat 2)
  have h3 := bt_lt s (Int.toNat 3)
  have hcl := firstT_cases (idx (bt s (Int.toNat 0)).toNat 1 0)
  refine Run.go ?_; (conv => whnf); repeat' (first | ((with_reducible refine Know.mk fun _ => ?_); conv => whnf) | ((with_reducible refine Need.mk ?_ ?_); exact nd; conv => whnf) | ((with_reducible first | refine Both.mk ?_ ?_ | refine Any.mk fun b hb => ?_ | refine AskB.dec (fun hb => ?_) (fun hb => ?_) | refine AskB.ndec (fun hb => ?_) (fun hb => ?_) | refine AskB.mk (fun hb => ?_) (fun hb => ?_)) <;> conv => whnf) | ((with_reducible first | refine Run.drawX rfl (by decide +kernel) ?_ | refine Run.drawT rfl (by decide +kernel) ?_ | refine Run.drawW rfl (by decide +kernel) ?_); conv => whnf) | fail)
  · omega
  · refine Run.leave (ts := [2,3]) (.inr ⟨_, rfl⟩) rfl Tryd.func92 rfl (resT ⟨Le.u _, Le.int ?_, trivial⟩)
    rw [dec_bt, dec_low _ _ _ _ _ (by
      have hc : (bt s (Int.toNat 0)).toNat < 194 ∨ 244 < (bt s (Int.toNat 0)).toNat := by
        rcases hcl with ⟨hx, hc⟩ | ⟨hx, _⟩ | ⟨hx, _⟩ | ⟨hx, _⟩ | ⟨hx, _⟩ | ⟨hx, _⟩ | ⟨hx, _⟩ | ⟨hx, _⟩
        · exact hc
        all_goals (exfalso; omega)
      exact hc) (by omega)]
    rfl
  rcases hcl with ⟨hx, hc⟩ | ⟨hx, hc⟩ | ⟨hx, hc⟩ | ⟨hx, hc⟩ | ⟨hx, hc⟩ | ⟨hx, hc⟩ | ⟨hx, hc⟩ | ⟨hx, hc⟩
  · omega
  · rw [hx]
    have hdec : (Utf8.decode s 0).2 = (Lib.slowN s.size (bt s (Int.toNat 0)).toNat (bt s (Int.toNat 1)).toNat (bt s (Int.toNat 2)).toNat (bt s (Int.toNat 3)).toNat 2 128 191).2 := by
      rw [dec_bt, Lib.slow_C2 s.size (bt s (Int.toNat 0)).toNat (bt s (Int.toNat 1)).toNat (bt s (Int.toNat 2)).toNat (bt s (Int.toNat 3)).toNat h (by omega) (by omega) (by omega) hc]
    have hz : IntKind.i64.wrap (IntKind.u8.wrap ↑(BitVec.ofInt IntKind.u8.bits 2 &&& BitVec.ofInt IntKind.u8.bits 7).toNat) = 2 := by decide
    have a1 : accT (idx (Int.fdiv 2 (2 ^ min (Int.toNat 4) IntKind.u8.bits)).toNat 2 0) = 128 := by decide
    have a2 : accT (idx (Int.fdiv 2 (2 ^ min (Int.toNat 4) IntKind.u8.bits)).toNat 2 1) = 191 := by decide
    repeat' (first | ((with_reducible refine Know.mk fun _ => ?_); conv => whnf) | ((with_reducible refine Need.mk ?_ ?_); exact nd; conv => whnf) | ((with_reducible first | refine Both.mk ?_ ?_ | refine Any.mk fun b hb => ?_ | refine AskB.dec (fun hb => ?_) (fun hb => ?_) | refine AskB.ndec (fun hb => ?_) (fun hb => ?_) | refine AskB.mk (fun hb => ?_) (fun hb => ?_)) <;> conv => whnf) | ((with_reducible first | refine Run.drawX rfl (by decide +kernel) ?_ | refine Run.drawT rfl (by decide +kernel) ?_ | refine Run.drawW rfl (by decide +kernel) ?_); conv => whnf) | fail)
    all_goals (refine Run.leave (ts := [2,3]) (.inr ⟨_, rfl⟩) rfl Tryd.func92 rfl (resT ⟨Le.u _, Le.int ?_, trivial⟩); rw [hdec]; (try simp only [hz, a1, a2] at *); unfold Lib.slowN; (repeat' split) <;> first | rfl | (exfalso; omega))
  · rw [hx]
    have hdec : (Utf8.decode s 0).2 = (Lib.slowN s.size (bt s (Int.toNat 0)).toNat (bt s (Int.toNat 1)).toNat (bt s (Int.toNat 2)).toNat (bt s (Int.toNat 3)).toNat 3 160 191).2 := by
      rw [dec_bt, Lib.slow_E0 s.size (bt s (Int.toNat 0)).toNat (bt s (Int.toNat 1)).toNat (bt s (Int.toNat 2)).toNat (bt s (Int.toNat 3)).toNat h (by omega) (by omega) (by omega) hc]
    have hz : IntKind.i64.wrap (IntKind.u8.wrap ↑(BitVec.ofInt IntKind.u8.bits 19 &&& BitVec.ofInt IntKind.u8.bits 7).toNat) = 3 := by decide
    have a1 : accT (idx (Int.fdiv 19 (2 ^ min (Int.toNat 4) IntKind.u8.bits)).toNat 2 0) = 160 := by decide
    have a2 : accT (idx (Int.fdiv 19 (2 ^ min (Int.toNat 4) IntKind.u8.bits)).toNat 2 1) = 191 := by decide
    repeat' (first | ((with_reducible refine Know.mk fun _ => ?_); conv => whnf) | ((with_reducible refine Need.mk ?_ ?_); exact nd; conv => whnf) | ((with_reducible first | refine Both.mk ?_ ?_ | refine Any.mk fun b hb => ?_ | refine AskB.dec (fun hb => ?_) (fun hb => ?_) | refine AskB.ndec (fun hb => ?_) (fun hb => ?_) | refine AskB.mk (fun hb => ?_) (fun hb => ?_)) <;> conv => whnf) | ((with_reducible first | refine Run.drawX rfl (by decide +kernel) ?_ | refine Run.drawT rfl (by decide +kernel) ?_ | refine Run.drawW rfl (by decide +kernel) ?_); conv => whnf) | fail)
    all_goals (refine Run.leave (ts := [2,3]) (.inr ⟨_, rfl⟩) rfl Tryd.func92 rfl (resT ⟨Le.u _, Le.int ?_, trivial⟩); rw [hdec]; (try simp only [hz, a1, a2] at *); unfold Lib.slowN; (repeat' split) <;> first | rfl | (exfalso; omega))
  · rw [hx]
    have hdec : (Utf8.decode s 0).2 = (Lib.slowN s.size (bt s (Int.toNat 0)).toNat (bt s (Int.toNat 1)).toNat (bt s (Int.toNat 2)).toNat (bt s (Int.toNat 3)).toNat 3 128 191).2 := by
      rw [dec_bt, Lib.slow_E1 s.size (bt s (Int.toNat 0)).toNat (bt s (Int.toNat 1)).toNat (bt s (Int.toNat 2)).toNat (bt s (Int.toNat 3)).toNat h (by omega) (by omega) (by omega) hc]
    have hz : IntKind.i64.wrap (IntKind.u8.wrap ↑(BitVec.ofInt IntKind.u8.bits 3 &&& BitVec.ofInt IntKind.u8.bits 7).toNat) = 3 := by decide
    have a1 : accT (idx (Int.fdiv 3 (2 ^ min (Int.toNat 4) IntKind.u8.bits)).toNat 2 0) = 128 := by decide
    have a2 : accT (idx (Int.fdiv 3 (2 ^ min (Int.toNat 4) IntKind.u8.bits)).toNat 2 1) = 191 := by decide
    repeat' (first | ((with_reducible refine Know.mk fun _ => ?_); conv => whnf) | ((with_reducible refine Need.mk ?_ ?_); exact nd; conv => whnf) | ((with_reducible first | refine Both.mk ?_ ?_ | refine Any.mk fun b hb => ?_ | refine AskB.dec (fun hb => ?_) (fun hb => ?_) | refine AskB.ndec (fun hb => ?_) (fun hb => ?_) | refine AskB.mk (fun hb => ?_) (fun hb => ?_)) <;> conv => whnf) | ((with_reducible first | refine Run.drawX rfl (by decide +kernel) ?_ | refine Run.drawT rfl (by decide +kernel) ?_ | refine Run.drawW rfl (by decide +kernel) ?_); conv => whnf) | fail)
    all_goals (refine Run.leave (ts := [2,3]) (.inr ⟨_, rfl⟩) rfl Tryd.func92 rfl (resT ⟨Le.u _, Le.int ?_, trivial⟩); rw [hdec]; (try simp only [hz, a1, a2] at *); unfold Lib.slowN; (repeat' split) <;> first | rfl | (exfalso; omega))
  · rw [hx]
    have hdec : (Utf8.decode s 0).2 = (Lib.slowN s.size (bt s (Int.toNat 0)).toNat (bt s (Int.toNat 1)).toNat (bt s (Int.toNat 2)).toNat (bt s (Int.toNat 3)).toNat 3 128 159).2 := by
      rw [dec_bt, Lib.slow_ED s.size (bt s (Int.toNat 0)).toNat (bt s (Int.toNat 1)).toNat (bt s (Int.toNat 2)).toNat (bt s (Int.toNat 3)).toNat h (by omega) (by omega) (by omega) hc]
    have hz : IntKind.i64.wrap (IntKind.u8.wrap ↑(BitVec.ofInt IntKind.u8.bits 35 &&& BitVec.ofInt IntKind.u8.bits 7).toNat) = 3 := by decide
    have a1 : accT (idx (Int.fdiv 35 (2 ^ min (Int.toNat 4) IntKind.u8.bits)).toNat 2 0) = 128 := by decide
    have a2 : accT (idx (Int.fdiv 35 (2 ^ min (Int.toNat 4) IntKind.u8.bits)).toNat 2 1) = 159 := by decide
    repeat' (first | ((with_reducible refine Know.mk fun _ => ?_); conv => whnf) | ((with_reducible refine Need.mk ?_ ?_); exact nd; conv => whnf) | ((with_reducible first | refine Both.mk ?_ ?_ | refine Any.mk fun b hb => ?_ | refine AskB.dec (fun hb => ?_) (fun hb => ?_) | refine AskB.ndec (fun hb => ?_) (fun hb => ?_) | refine AskB.mk (fun hb => ?_) (fun hb => ?_)) <;> conv => whnf) | ((with_reducible first | refine Run.drawX rfl (by decide +kernel) ?_ | refine Run.drawT rfl (by decide +kernel) ?_ | refine Run.drawW rfl (by decide +kernel) ?_); conv => whnf) | fail)
    all_goals (refine Run.leave (ts := [2,3]) (.inr ⟨_, rfl⟩) rfl Tryd.func92 rfl (resT ⟨Le.u _, Le.int ?_, trivial⟩); rw [hdec]; (try simp only [hz, a1, a2] at *); unfold Lib.slowN; (repeat' split) <;> first | rfl | (exfalso; omega))
  · rw [hx]
    have hdec : (Utf8.decode s 0).2 = (Lib.slowN s.size (bt s (Int.toNat 0)).toNat (bt s (Int.toNat 1)).toNat (bt s (Int.toNat 2)).toNat (bt s (Int.toNat 3)).toNat 4 144 191).2 := by
      rw [dec_bt, Lib.slow_F0 s.size (bt s (Int.toNat 0)).toNat (bt s (Int.toNat 1)).toNat (bt s (Int.toNat 2)).toNat (bt s (Int.toNat 3)).toNat h (by omega) (by omega) (by omega) hc]
    have hz : IntKind.i64.wrap (IntKind.u8.wrap ↑(BitVec.ofInt IntKind.u8.bits 52 &&& BitVec.ofInt IntKind.u8.bits 7).toNat) = 4 := by decide
    have a1 : accT (idx (Int.fdiv 52 (2 ^ min (Int.toNat 4) IntKind.u8.bits)).toNat 2 0) = 144 := by decide
    have a2 : accT (idx (Int.fdiv 52 (2 ^ min (Int.toNat 4) IntKind.u8.bits)).toNat 2 1) = 191 := by decide
    repeat' (first | ((with_reducible refine Know.mk fun _ => ?_); conv => whnf) | ((with_reducible refine Need.mk ?_ ?_); exact nd; conv => whnf) | ((with_reducible first | refine Both.mk ?_ ?_ | refine Any.mk fun b hb => ?_ | refine AskB.dec (fun hb => ?_) (fun hb => ?_) | refine AskB.ndec (fun hb => ?_) (fun hb => ?_) | refine AskB.mk (fun hb => ?_) (fun hb => ?_)) <;> conv => whnf) | ((with_reducible first | refine Run.drawX rfl (by decide +kernel) ?_ | refine Run.drawT rfl (by decide +kernel) ?_ | refine Run.drawW rfl (by decide +kernel) ?_); conv => whnf) | fail)
    all_goals (refine Run.leave (ts := [2,3]) (.inr ⟨_, rfl⟩) rfl Tryd.func92 rfl (resT ⟨Le.u _, Le.int ?_, trivial⟩); rw [hdec]; (try simp only [hz, a1, a2] at *); unfold Lib.slowN; (repeat' split) <;> first | rfl | (exfalso; omega))
  · rw [hx]
    have hdec : (Utf8.decode s 0).2 = (Lib.slowN s.size (bt s (Int.toNat 0)).toNat (bt s (Int.toNat 1)).toNat (bt s (Int.toNat 2)).toNat (bt s (Int.toNat 3)).toNat 4 128 191).2 := by
      rw [dec_bt, Lib.slow_F1 s.size (bt s (Int.toNat 0)).toNat (bt s (Int.toNat 1)).toNat (bt s (Int.toNat 2)).toNat (bt s (Int.toNat 3)).toNat h (by omega) (by omega) (by omega) hc]
    have hz : IntKind.i64.wrap (IntKind.u8.wrap ↑(BitVec.ofInt IntKind.u8.bits 4 &&& BitVec.ofInt IntKind.u8.bits 7).toNat) = 4 := by decide
    have a1 : accT (idx (Int.fdiv 4 (2 ^ min (Int.toNat 4) IntKind.u8.bits)).toNat 2 0) = 128 := by decide
    have a2 : accT (idx (Int.fdiv 4 (2 ^ min (Int.toNat 4) IntKind.u8.bits)).toNat 2 1) = 191 := by decide
    repeat' (first | ((with_reducible refine Know.mk fun _ => ?_); conv => whnf) | ((with_reducible refine Need.mk ?_ ?_); exact nd; conv => whnf) | ((with_reducible first | refine Both.mk ?_ ?_ | refine Any.mk fun b hb => ?_ | refine AskB.dec (fun hb => ?_) (fun hb => ?_) | refine AskB.ndec (fun hb => ?_) (fun hb => ?_) | refine AskB.mk (fun hb => ?_) (fun hb => ?_)) <;> conv => whnf) | ((with_reducible first | refine Run.drawX rfl (by decide +kernel) ?_ | refine Run.drawT rfl (by decide +kernel) ?_ | refine Run.drawW rfl (by decide +kernel) ?_); conv => whnf) | fail)
    all_goals (refine Run.leave (ts := [2,3]) (.inr ⟨_, rfl⟩) rfl Tryd.func92 rfl (resT ⟨Le.u _, Le.int ?_, trivial⟩); rw [hdec]; (try simp only [hz, a1, a2] at *); unfold Lib.slowN; (repeat' split) <;> first | rfl | (exfalso; omega))
  · rw [hx]
    have hdec : (Utf8.decode s 0).2 = (Lib.slowN s.size (bt s (Int.toNat 0)).toNat (bt s (Int.toNat 1)).toNat (bt s (Int.toNat 2)).toNat (bt s (Int.toNat 3)).toNat 4 128 143).2 := by
      rw [dec_bt, Lib.slow_F4 s.size (bt s (Int.toNat 0)).toNat (bt s (Int.toNat 1)).toNat (bt s (Int.toNat 2)).toNat (bt s (Int.toNat 3)).toNat h (by omega) (by omega) (by omega) hc]
    have hz : IntKind.i64.wrap (IntKind.u8.wrap ↑(BitVec.ofInt IntKind.u8.bits 68 &&& BitVec.ofInt IntKind.u8.bits 7).toNat) = 4 := by decide
    have a1 : accT (idx (Int.fdiv 68 (2 ^ min (Int.toNat 4) IntKind.u8.bits)).toNat 2 0) = 128 := by decide
    have a2 : accT (idx (Int.fdiv 68 (2 ^ min (Int.toNat 4) IntKind.u8.bits)).toNat 2 1) = 143 := by decide
    repeat' (first | ((with_reducible refine Know.mk fun _ => ?_); conv => whnf) | ((with_reducible refine Need.mk ?_ ?_); exact nd; conv => whnf) | ((with_reducible first | refine Both.mk ?_ ?_ | refine Any.mk fun b hb => ?_ | refine AskB.dec (fun hb => ?_) (fun hb => ?_) | refine AskB.ndec (fun hb => ?_) (fun hb => ?_) | refine AskB.mk (fun hb => ?_) (fun hb => ?_)) <;> conv => whnf) | ((with_reducible first | refine Run.drawX rfl (by decide +kernel) ?_ | refine Run.drawT rfl (by decide +kernel) ?_ | refine Run.drawW rfl (by decide +kernel) ?_); conv => whnf) | fail)
    all_goals (refine Run.leave (ts := [2,3]) (.inr ⟨_, rfl⟩) rfl Tryd.func92 rfl (resT ⟨Le.u _, Le.int ?_, trivial⟩); rw [hdec]; (try simp only [hz, a1, a2] at *); unfold Lib.slowN; (repeat' split) <;> first | rfl | (exfalso; omega))
end Go.Proofs.YteklnpgiloebcaaDoor.V

namespace Go.Proofs.YteklnpgiloebcaaDoor.V
set_option linter.unusedVariables false
set_option linter.unusedSimpArgs false
open Go
structure Cel where
  pos : Nat
  w : Nat
  r : Int
  bad : Bool
  byte : Int
def tCel : Ty Cel := ⟨5, fun c j => match j with | 0 => .int .i64 c.pos | 1 => .int .i64 c.w | 2 => .int .i32 c.r | 3 => .bool c.bad | _ => .int .u8 c.byte, ⟨0, 0, 0, false, 0⟩⟩
def cellAt (s : ByteArray) (p : Nat) : Cel := if (Utf8.decode s p).1 = 65533 ∧ (Utf8.decode s p).2 = 1 then ⟨p, 1, 65533, true, bt s p⟩ else ⟨p, (Utf8.decode s p).2, (Utf8.decode s p).1, false, 0⟩
def cells (s : ByteArray) (p : Nat) : List Cel := if p < s.size then cellAt s p :: cells s (p + (Utf8.decode s p).2) else []
termination_by s.size - p
decreasing_by have := Lib.width_pos s p; omega
theorem cells_in {s : ByteArray} {p : Nat} (h : p < s.size) : cells s p = cellAt s p :: cells s (p + (Utf8.decode s p).2) := by rw [cells, if_pos h]
theorem cells_out {s : ByteArray} {p : Nat} (h : ¬ p < s.size) : cells s p = [] := by rw [cells, if_neg h]
def runeLen (r : Int) : Int := if r < 0 then -1 else if r ≤ 127 then 1 else if r ≤ 2047 then 2 else if 55296 ≤ r ∧ r ≤ 57343 then -1 else if r ≤ 65535 then 3 else if r ≤ 1114111 then 4 else -1
/-- What is decoded has the length that its rune has, but for a bad byte. -/
theorem decode_len (s : ByteArray) (p : Nat) : runeLen (Utf8.decode s p).1 = (Utf8.decode s p).2 ∨ ((Utf8.decode s p).1 = 65533 ∧ (Utf8.decode s p).2 = 1) := by
  rw [Lib.decode_at]
  generalize (s.get! p).toNat = b0
  generalize (s.get! (p + 1)).toNat = b1
  generalize (s.get! (p + 2)).toNat = b2
  generalize (s.get! (p + 3)).toNat = b3
  unfold Lib.decodeN
  repeat' split
  all_goals first | exact .inr ⟨rfl, rfl⟩ | (refine .inl ?_; unfold runeLen; simp only []; repeat' split) <;> omega
theorem decode_fit (s : ByteArray) (p : Nat) (h : p < s.size) : (Utf8.decode s p).2 ≤ s.size - p := by
  rw [Lib.decode_at]
  unfold Lib.decodeN
  repeat' split
  all_goals (simp only []; omega)
theorem cells_len (s : ByteArray) (p : Nat) : (cells s p).length ≤ s.size - p := by
  by_cases h : p < s.size
  · have hw := Lib.width_pos s p
    have := cells_len s (p + (Utf8.decode s p).2)
    rw [cells_in h, List.length_cons]; omega
  · rw [cells_out h]; simp
termination_by s.size - p
end Go.Proofs.YteklnpgiloebcaaDoor.V

namespace Go.Proofs.YteklnpgiloebcaaDoor.V
set_option linter.unusedVariables false
set_option linter.unusedSimpArgs false
open Go Go.Proofs Go.RowKit
set_option maxRecDepth 100000
set_option maxHeartbeats 1000000
open Go Go.Proofs Go.Proofs.YteklnpgiloebcaaDoor.V
theorem runeLen_fn (r : Int) : Fn Tryd.prog 98 [.int .i32 r] (.int .i64 (runeLen r)) := by
  refine Fn.of Tryd.f98 _ Tryd.func98 rfl (by decide) (by show 1 ≤ _; decide) tbOk 25 rfl fun S w0 gl => ?_
  refine Run.go ?_; (conv => whnf); repeat' (first | ((with_reducible refine Know.mk fun _ => ?_); conv => whnf) | ((with_reducible refine Need.mk ?_ ?_); exact nd; conv => whnf) | ((with_reducible first | refine Both.mk ?_ ?_ | refine Any.mk fun b hb => ?_ | refine AskB.dec (fun hb => ?_) (fun hb => ?_) | refine AskB.ndec (fun hb => ?_) (fun hb => ?_) | refine AskB.mk (fun hb => ?_) (fun hb => ?_)) <;> conv => whnf) | ((with_reducible first | refine Run.drawX rfl (by decide +kernel) ?_ | refine Run.drawT rfl (by decide +kernel) ?_ | refine Run.drawW rfl (by decide +kernel) ?_); conv => whnf) | fail)
  all_goals (refine Run.leave (ts := [2]) (.inr ⟨_, rfl⟩) rfl Tryd.func98 rfl (Le.int ?_); unfold runeLen; (repeat' split) <;> first | rfl | omega)
theorem decode_fn (s : ByteArray) (h : 0 < s.size) : Fn Tryd.prog 84 [.str s] (tupL [.u, .int .i64 (Utf8.decode s 0).2]) := by
  refine Fn.of Tryd.f84 _ Tryd.func84 rfl (by decide) (by show 1 ≤ _; decide) tbOk 19 rfl fun S w0 gl => ?_
  refine Run.go ?_; (conv => whnf); repeat' (first | ((with_reducible refine Know.mk fun _ => ?_); conv => whnf) | ((with_reducible refine Need.mk ?_ ?_); exact nd; conv => whnf) | ((with_reducible first | refine Both.mk ?_ ?_ | refine Any.mk fun b hb => ?_ | refine AskB.dec (fun hb => ?_) (fun hb => ?_) | refine AskB.ndec (fun hb => ?_) (fun hb => ?_) | refine AskB.mk (fun hb => ?_) (fun hb => ?_)) <;> conv => whnf) | ((with_reducible first | refine Run.drawX rfl (by decide +kernel) ?_ | refine Run.drawT rfl (by decide +kernel) ?_ | refine Run.drawW rfl (by decide +kernel) ?_); conv => whnf) | fail)
  · subst hb; exact absurd h (by decide)
  · refine Run.leave (ts := [2,3]) (.inr ⟨_, rfl⟩) rfl Tryd.func84 rfl (resT ⟨Le.u _, Le.int ?_, trivial⟩)
    have h0 := bt_lt s (Int.toNat 0)
    rw [dec_bt, dec_low _ _ _ _ _ (.inl (by omega)) (by omega)]; rfl
  · refine Run.callBX (slow_fn s h) rfl rfl ⟨Le.refl _, trivial⟩ rfl rfl rfl ?_
    (conv => whnf); repeat' (first | ((with_reducible refine Know.mk fun _ => ?_); conv => whnf) | ((with_reducible refine Need.mk ?_ ?_); exact nd; conv => whnf) | ((with_reducible first | refine Both.mk ?_ ?_ | refine Any.mk fun b hb => ?_ | refine AskB.dec (fun hb => ?_) (fun hb => ?_) | refine AskB.ndec (fun hb => ?_) (fun hb => ?_) | refine AskB.mk (fun hb => ?_) (fun hb => ?_)) <;> conv => whnf) | ((with_reducible first | refine Run.drawX rfl (by decide +kernel) ?_ | refine Run.drawT rfl (by decide +kernel) ?_ | refine Run.drawW rfl (by decide +kernel) ?_); conv => whnf) | fail)
    exact Run.leave (ts := [2,3]) (.inr ⟨_, rfl⟩) rfl Tryd.func84 rfl (resT ⟨Le.u _, Le.refl _, trivial⟩)
theorem cells_fn (s : ByteArray) (hs : s.size ≤ 134217728) : Fn Tryd.prog 93 [.str s] (tCel.L (cells s 0)) := by
  refine Fn.of Tryd.f93 _ Tryd.func93 rfl (by decide) (by show 1 ≤ _; decide) tbOk 45 rfl fun S w0 gl => ?_
  refine Run.go ?_; (conv => whnf); repeat' (first | ((with_reducible refine Know.mk fun _ => ?_); conv => whnf) | ((with_reducible refine Need.mk ?_ ?_); exact nd; conv => whnf) | ((with_reducible first | refine Both.mk ?_ ?_ | refine Any.mk fun b hb => ?_ | refine AskB.dec (fun hb => ?_) (fun hb => ?_) | refine AskB.ndec (fun hb => ?_) (fun hb => ?_) | refine AskB.mk (fun hb => ?_) (fun hb => ?_)) <;> conv => whnf) | ((with_reducible first | refine Run.drawX rfl (by decide +kernel) ?_ | refine Run.drawT rfl (by decide +kernel) ?_ | refine Run.drawW rfl (by decide +kernel) ?_); conv => whnf) | fail)
  refine Run.holdNil 3 1000 148 5 (fun _ _ => .u) rfl ?_
  refine Run.loop [0, 12] (fun (a : Nat × List Cel) => [(3, .row 1000)]) (fun a => [(12, .iter s a.1), (1000, tCel.R 148 a.2)]) (fun a => a.1 ≤ s.size ∧ a.2.length ≤ a.1 ∧ a.2 ++ cells s a.1 = cells s 0) (fun a => s.size - a.1) (0, []) ⟨Nat.zero_le _, Nat.zero_le _, rfl⟩ ⟨Le.refl _, trivial⟩ ⟨MOle.refl _, ⟨rfl, rfl, rfl, fun i j hi => absurd hi (Nat.not_lt_zero _)⟩, trivial⟩ ?_
  intro ⟨p, l⟩ ⟨hp, hl, hc⟩ IH
  simp only at hp hl hc
  show Run _ _ (lst (_ ++ [(3, .row 1000)])) (lstH [(12, .iter s p), (1000, tCel.R 148 l)])
  refine Run.go ?_; (conv => whnf); repeat' (first | ((with_reducible refine Know.mk fun _ => ?_); conv => whnf) | ((with_reducible refine Need.mk ?_ ?_); exact nd; conv => whnf) | ((with_reducible first | refine Both.mk ?_ ?_ | refine Any.mk fun b hb => ?_ | refine AskB.dec (fun hb => ?_) (fun hb => ?_) | refine AskB.ndec (fun hb => ?_) (fun hb => ?_) | refine AskB.mk (fun hb => ?_) (fun hb => ?_)) <;> conv => whnf) | ((with_reducible first | refine Run.drawX rfl (by decide +kernel) ?_ | refine Run.drawT rfl (by decide +kernel) ?_ | refine Run.drawW rfl (by decide +kernel) ?_); conv => whnf) | fail)
  · have hw := Lib.width_pos s p
    have hle := decode_fit s p (by omega)
    have hd := decode_len s p
    have hnext : l ++ cells s p = (l ++ [cellAt s p]) ++ cells s (p + (Utf8.decode s p).2) := by rw [cells_in (by omega)]; simp
    refine Run.callBX (runeLen_fn (Utf8.decode s p).1) rfl rfl ⟨Le.refl _, trivial⟩ rfl rfl rfl ?_
    (conv => whnf); repeat' (first | ((with_reducible refine Know.mk fun _ => ?_); conv => whnf) | ((with_reducible refine Need.mk ?_ ?_); exact nd; conv => whnf) | ((with_reducible first | refine Both.mk ?_ ?_ | refine Any.mk fun b hb => ?_ | refine AskB.dec (fun hb => ?_) (fun hb => ?_) | refine AskB.ndec (fun hb => ?_) (fun hb => ?_) | refine AskB.mk (fun hb => ?_) (fun hb => ?_)) <;> conv => whnf) | ((with_reducible first | refine Run.drawX rfl (by decide +kernel) ?_ | refine Run.drawT rfl (by decide +kernel) ?_ | refine Run.drawW rfl (by decide +kernel) ?_); conv => whnf) | fail)
    · refine Run.callBX (decode_fn (s.extract (Int.toNat p) s.size) (by simp; omega)) rfl rfl ⟨Le.refl _, trivial⟩ rfl rfl rfl ?_
      rw [show Utf8.decode (s.extract (Int.toNat p) s.size) 0 = Utf8.decode s p by rw [Lib.tail_decode]; simp]
      (conv => whnf); repeat' (first | ((with_reducible refine Know.mk fun _ => ?_); conv => whnf) | ((with_reducible refine Need.mk ?_ ?_); exact nd; conv => whnf) | ((with_reducible first | refine Both.mk ?_ ?_ | refine Any.mk fun b hb => ?_ | refine AskB.dec (fun hb => ?_) (fun hb => ?_) | refine AskB.ndec (fun hb => ?_) (fun hb => ?_) | refine AskB.mk (fun hb => ?_) (fun hb => ?_)) <;> conv => whnf) | ((with_reducible first | refine Run.drawX rfl (by decide +kernel) ?_ | refine Run.drawT rfl (by decide +kernel) ?_ | refine Run.drawW rfl (by decide +kernel) ?_); conv => whnf) | fail)
      · refine Run.hold (z := 43) 3 1000 (by rfl) (by rfl) (by rfl) ?_
        refine Run.to _ _ ?_ ?_ (IH (p + (Utf8.decode s p).2, l ++ [cellAt s p]) (by simp only []; omega) ⟨by simp only []; omega, by simp only [List.length_append, List.length_singleton]; omega, by simp only []; rw [← hnext, hc]⟩)
        · exact ⟨Le.refl _, Le.refl _, Le.refl _, trivial⟩
        · refine ⟨MOle.refl _, tCel.push 148 l (cellAt s p) _ (fun j hj => ?_), trivial⟩
          unfold cellAt
          rw [if_pos ⟨by omega, by omega⟩]
          match j, hj with
          | 0, _ => exact Le.refl _
          | 1, _ => exact Le.refl _
          | 2, _ => exact Le.int (by assumption)
          | 3, _ => exact Le.tt
          | 4, _ => exact Le.refl _
      · refine Run.hold (z := 43) 3 1000 (by rfl) (by rfl) (by rfl) ?_
        refine Run.to _ _ ?_ ?_ (IH (p + (Utf8.decode s p).2, l ++ [cellAt s p]) (by simp only []; omega) ⟨by simp only []; omega, by simp only [List.length_append, List.length_singleton]; omega, by simp only []; rw [← hnext, hc]⟩)
        · exact ⟨Le.refl _, Le.refl _, Le.refl _, trivial⟩
        · refine ⟨MOle.refl _, tCel.push 148 l (cellAt s p) _ (fun j hj => ?_), trivial⟩
          unfold cellAt
          rw [if_neg (fun h => by omega)]
          match j, hj with
          | 0, _ => exact Le.refl _
          | 1, _ => exact Le.int (by rcases hd with hd | hd; exact hd; exact absurd hd (by omega))
          | 2, _ => exact Le.refl _
          | 3, _ => exact Le.ff
          | 4, _ => exact Le.refl _
    · refine Run.hold (z := 43) 3 1000 (by rfl) (by rfl) (by rfl) ?_
      refine Run.to _ _ ?_ ?_ (IH (p + (Utf8.decode s p).2, l ++ [cellAt s p]) (by simp only []; omega) ⟨by simp only []; omega, by simp only [List.length_append, List.length_singleton]; omega, by simp only []; rw [← hnext, hc]⟩)
      · exact ⟨Le.refl _, Le.refl _, Le.refl _, trivial⟩
      · refine ⟨MOle.refl _, tCel.push 148 l (cellAt s p) _ (fun j hj => ?_), trivial⟩
        unfold cellAt
        rw [if_neg (fun h => by omega)]
        match j, hj with
        | 0, _ => exact Le.refl _
        | 1, _ => exact Le.int (by rcases hd with hd | hd; exact hd; exact absurd hd (by omega))
        | 2, _ => exact Le.refl _
        | 3, _ => exact Le.ff
        | 4, _ => exact Le.refl _
  · have : p = s.size := by omega
    subst this
    rw [cells_out (Nat.lt_irrefl _), List.append_nil] at hc
    rw [← hc]
    exact Run.leave (ts := [2]) (.inr ⟨_, rfl⟩) rfl Tryd.func93 rfl (Le.refl _)
end Go.Proofs.YteklnpgiloebcaaDoor.V

namespace Go.Proofs.YteklnpgiloebcaaDoor.V
set_option linter.unusedVariables false
set_option linter.unusedSimpArgs false
open Go
abbrev isJoiner (r : Int) : Prop := r = 39 ∨ r = 45 ∨ r = 173 ∨ (8204 ≤ r ∧ r ≤ 8205) ∨ r = 8217
abbrev isDigit (r : Int) : Prop := (48 ≤ r ∧ r ≤ 57) ∨ (1632 ≤ r ∧ r ≤ 1641)
abbrev isLetter (r : Int) : Prop := (65 ≤ r ∧ r ≤ 90) ∨ (97 ≤ r ∧ r ≤ 122) ∨ r = 170 ∨ r = 181 ∨ r = 186 ∨ (192 ≤ r ∧ r ≤ 214) ∨ (216 ≤ r ∧ r ≤ 246) ∨ (248 ≤ r ∧ r ≤ 687) ∨ (880 ≤ r ∧ r ≤ 893) ∨ (895 ≤ r ∧ r ≤ 902) ∨ (904 ≤ r ∧ r ≤ 1153) ∨ (1162 ≤ r ∧ r ≤ 1327) ∨ (7680 ≤ r ∧ r ≤ 8191) ∨ (64256 ≤ r ∧ r ≤ 64262) ∨ r = 9676
abbrev isAccent (r : Int) : Prop := (768 ≤ r ∧ r ≤ 879) ∨ (1155 ≤ r ∧ r ≤ 1161) ∨ (7616 ≤ r ∧ r ≤ 7679) ∨ (8400 ≤ r ∧ r ≤ 8447)
abbrev isLine (r : Int) : Prop := r = 10 ∨ r = 13 ∨ r = 133 ∨ (8232 ≤ r ∧ r ≤ 8233)
abbrev isBlank (r : Int) : Prop := r = 9 ∨ (11 ≤ r ∧ r ≤ 12) ∨ r = 32 ∨ r = 160 ∨ (8194 ≤ r ∧ r ≤ 8202) ∨ r = 8239 ∨ r = 12288
abbrev isPoint (r : Int) : Prop := (33 ≤ r ∧ r ≤ 126) ∨ (161 ≤ r ∧ r ≤ 191) ∨ r = 903 ∨ (8208 ≤ r ∧ r ≤ 8231) ∨ (8240 ≤ r ∧ r ≤ 8286)
def kOf (r : Int) : Int := if isJoiner r then 4 else if isDigit r then 3 else if isLetter r then 1 else if isAccent r then 2 else if isLine r then 6 else if isBlank r then 5 else if isPoint r then 7 else 0
def kCel (c : Cel) : Int := if c.bad then 1 else kOf c.r
theorem kOf_joiner {r : Int} (h : isJoiner r) : kOf r = 4 := by
  unfold kOf
  rw [if_pos h]
theorem kOf_digit {r : Int} (h : isDigit r) : kOf r = 3 := by
  unfold kOf
  rw [if_neg (by unfold isJoiner; unfold isDigit at h; omega), if_pos h]
theorem kOf_letter {r : Int} (h : isLetter r) : kOf r = 1 := by
  unfold kOf
  rw [if_neg (by unfold isJoiner; unfold isLetter at h; omega), if_neg (by unfold isDigit; unfold isLetter at h; omega), if_pos h]
theorem kOf_accent {r : Int} (h : isAccent r) : kOf r = 2 := by
  unfold kOf
  rw [if_neg (by unfold isJoiner; unfold isAccent at h; omega), if_neg (by unfold isDigit; unfold isAccent at h; omega), if_neg (by unfold isLetter; unfold isAccent at h; omega), if_pos h]
theorem kOf_line {r : Int} (h : isLine r) : kOf r = 6 := by
  unfold kOf
  rw [if_neg (by unfold isJoiner; unfold isLine at h; omega), if_neg (by unfold isDigit; unfold isLine at h; omega), if_neg (by unfold isLetter; unfold isLine at h; omega), if_neg (by unfold isAccent; unfold isLine at h; omega), if_pos h]
theorem kOf_blank {r : Int} (h : isBlank r) : kOf r = 5 := by
  unfold kOf
  rw [if_neg (by unfold isJoiner; unfold isBlank at h; omega), if_neg (by unfold isDigit; unfold isBlank at h; omega), if_neg (by unfold isLetter; unfold isBlank at h; omega), if_neg (by unfold isAccent; unfold isBlank at h; omega), if_neg (by unfold isLine; unfold isBlank at h; omega), if_pos h]
theorem kOf_point {r : Int} (h : isPoint r) (h0 : ¬ isJoiner r) (h1 : ¬ isDigit r) (h2 : ¬ isLetter r) : kOf r = 7 := by
  unfold kOf
  rw [if_neg h0, if_neg h1, if_neg h2, if_neg (by unfold isAccent; unfold isPoint at h; omega), if_neg (by unfold isLine; unfold isPoint at h; omega), if_neg (by unfold isBlank; unfold isPoint at h; omega), if_pos h]
theorem kOf_other {r : Int} (h0 : ¬ isJoiner r) (h1 : ¬ isDigit r) (h2 : ¬ isLetter r) (h3 : ¬ isAccent r) (h4 : ¬ isLine r) (h5 : ¬ isBlank r) (h6 : ¬ isPoint r) : kOf r = 0 := by
  unfold kOf
  rw [if_neg h0, if_neg h1, if_neg h2, if_neg h3, if_neg h4, if_neg h5, if_neg h6]
def wordy (k : Int) : Bool := decide (k = 1 ∨ k = 2 ∨ k = 3)
end Go.Proofs.YteklnpgiloebcaaDoor.V

namespace Go.Proofs.YteklnpgiloebcaaDoor.V
set_option linter.unusedVariables false
set_option linter.unusedSimpArgs false
open Go Go.Proofs Go.RowKit
set_option maxRecDepth 100000
set_option maxHeartbeats 2000000
open Go Go.Proofs Go.Proofs.YteklnpgiloebcaaDoor.V
theorem in_fn (r lo hi : Int) : Fn Tryd.prog 100 [.int .i32 r, .int .i32 lo, .int .i32 hi] (.bool (decide (lo ≤ r ∧ r ≤ hi))) := by
  refine Fn.of Tryd.f100 _ Tryd.func100 rfl (by decide) (by show 3 ≤ _; decide) tbOk 15 rfl fun S w0 gl => ?_
  refine Run.go ?_; (conv => whnf); repeat' (first | ((with_reducible refine Know.mk fun _ => ?_); conv => whnf) | ((with_reducible refine Need.mk ?_ ?_); exact nd; conv => whnf) | ((with_reducible first | refine Both.mk ?_ ?_ | refine Any.mk fun b hb => ?_ | refine AskB.dec (fun hb => ?_) (fun hb => ?_) | refine AskB.ndec (fun hb => ?_) (fun hb => ?_) | refine AskB.mk (fun hb => ?_) (fun hb => ?_)) <;> conv => whnf) | ((with_reducible first | refine Run.drawX rfl (by decide +kernel) ?_ | refine Run.drawT rfl (by decide +kernel) ?_ | refine Run.drawW rfl (by decide +kernel) ?_); conv => whnf) | fail)
  · refine Run.leave (ts := [6]) (.inr ⟨_, rfl⟩) rfl Tryd.func100 rfl (Le.bool ?_)
    have h1 : lo ≤ r := by assumption
    rw [decide_eq_decide]
    exact ⟨fun h => ⟨h1, h⟩, fun h => h.2⟩
  · exact Run.leave (ts := [6]) (.inr ⟨_, rfl⟩) rfl Tryd.func100 rfl (Le.ff.trans (Le.bool (decide_eq_false (fun h => hb h.1)).symm))
theorem of_fn (r : Int) : Fn Tryd.prog 99 [.int .i32 r] (.int .i64 (kOf r)) := by
  refine Fn.of Tryd.f99 _ Tryd.func99 rfl (by decide) (by show 1 ≤ _; decide) tbOk 78 rfl fun S w0 gl => ?_
  refine Run.go ?_; (conv => whnf); repeat' (first | ((with_reducible refine Know.mk fun _ => ?_); conv => whnf) | ((with_reducible refine Need.mk ?_ ?_); exact nd; conv => whnf) | ((with_reducible first | refine Both.mk ?_ ?_ | refine Any.mk fun b hb => ?_ | refine AskB.dec (fun hb => ?_) (fun hb => ?_) | refine AskB.ndec (fun hb => ?_) (fun hb => ?_) | refine AskB.mk (fun hb => ?_) (fun hb => ?_)) <;> conv => whnf) | ((with_reducible first | refine Run.drawX rfl (by decide +kernel) ?_ | refine Run.drawT rfl (by decide +kernel) ?_ | refine Run.drawW rfl (by decide +kernel) ?_); conv => whnf) | fail)
  repeat' (first | (refine Run.callBX (in_fn _ _ _) rfl rfl ⟨Le.refl _, Le.refl _, Le.refl _, trivial⟩ rfl rfl rfl ?_; (conv => whnf); repeat' (first | ((with_reducible refine Know.mk fun _ => ?_); conv => whnf) | ((with_reducible refine Need.mk ?_ ?_); exact nd; conv => whnf) | ((with_reducible first | refine Both.mk ?_ ?_ | refine Any.mk fun b hb => ?_ | refine AskB.dec (fun hb => ?_) (fun hb => ?_) | refine AskB.ndec (fun hb => ?_) (fun hb => ?_) | refine AskB.mk (fun hb => ?_) (fun hb => ?_)) <;> conv => whnf) | ((with_reducible first | refine Run.drawX rfl (by decide +kernel) ?_ | refine Run.drawT rfl (by decide +kernel) ?_ | refine Run.drawW rfl (by decide +kernel) ?_); conv => whnf) | fail)))
  all_goals refine Run.leave (ts := [2]) (.inr ⟨_, rfl⟩) rfl Tryd.func99 rfl (Le.int ?_)
  all_goals first
    | exact (kOf_joiner (by unfold isJoiner; omega)).symm
    | exact (kOf_digit (by unfold isDigit; omega)).symm
    | exact (kOf_letter (by unfold isLetter; omega)).symm
    | exact (kOf_accent (by unfold isAccent; omega)).symm
    | exact (kOf_line (by unfold isLine; omega)).symm
    | exact (kOf_blank (by unfold isBlank; omega)).symm
    | exact (kOf_point (by unfold isPoint; omega) (by unfold isJoiner; omega) (by unfold isDigit; omega) (by unfold isLetter; omega)).symm
    | exact (kOf_other (by unfold isJoiner; omega) (by unfold isDigit; omega) (by unfold isLetter; omega) (by unfold isAccent; omega) (by unfold isLine; omega) (by unfold isBlank; omega) (by unfold isPoint; omega)).symm
end Go.Proofs.YteklnpgiloebcaaDoor.V

namespace Go.Proofs.YteklnpgiloebcaaDoor.V
set_option linter.unusedVariables false
set_option linter.unusedSimpArgs false
open Go
theorem dec_at (s : ByteArray) (i : Nat) : Utf8.decode s i = Lib.decodeN (s.size - i) (bt s i).toNat (bt s (i + 1)).toNat (bt s (i + 2)).toNat (bt s (i + 3)).toNat := by
  rw [Lib.decode_at, bt_get, bt_get, bt_get, bt_get]
end Go.Proofs.YteklnpgiloebcaaDoor.V

namespace Go.Proofs.YteklnpgiloebcaaDoor.V
set_option linter.unusedVariables false
set_option linter.unusedSimpArgs false
open Go
structure Tok where
  kind : Int
  at' : Int
  text : ByteArray
def tTok : Ty Tok := ⟨3, fun t j => match j with | 0 => .int .i64 t.kind | 1 => .int .i64 t.at' | _ => .str t.text, ⟨0, 0, .empty⟩⟩
def cel0 : Cel := ⟨0, 0, 0, false, 0⟩
def knd (L : List Cel) (i : Nat) : Int := if i < L.length then kCel (L.getD i cel0) else -1
abbrev wy (L : List Cel) (i : Nat) : Prop := wordy (knd L i) = true
theorem wy_lt {L : List Cel} {i : Nat} (h : wy L i) : i < L.length := by
  unfold wy knd at h
  split at h
  · assumption
  · exact absurd h (by decide)
def wordE (L : List Cel) (i : Nat) : Nat := if h : i < L.length then (if wy L i then wordE L (i + 1) else if knd L i = 4 ∧ wy L (i + 1) then wordE L (i + 2) else i) else i
termination_by L.length - i
def blankE (L : List Cel) (i : Nat) : Nat := if h : i < L.length then (if knd L i = 5 then blankE L (i + 1) else i) else i
termination_by L.length - i
theorem wordE_ge (L : List Cel) (i : Nat) : i ≤ wordE L i ∧ (i ≤ L.length → wordE L i ≤ L.length) := by
  by_cases h : i < L.length
  · rw [wordE, dif_pos h]
    split
    · have := wordE_ge L (i + 1); omega
    · split
      · rename_i h2
        have h3 := wy_lt h2.2
        have := wordE_ge L (i + 2); omega
      · omega
  · rw [wordE, dif_neg h]; omega
termination_by L.length - i
theorem wordE_gt {L : List Cel} {i : Nat} (h : wy L i) : i < wordE L i := by
  rw [wordE, dif_pos (wy_lt h), if_pos h]
  have := wordE_ge L (i + 1); omega
theorem blankE_ge (L : List Cel) (i : Nat) : i ≤ blankE L i ∧ (i ≤ L.length → blankE L i ≤ L.length) := by
  by_cases h : i < L.length
  · rw [blankE, dif_pos h]
    split
    · have := blankE_ge L (i + 1); omega
    · omega
  · rw [blankE, dif_neg h]; omega
termination_by L.length - i
theorem knd_lt {L : List Cel} {i : Nat} (h : 0 ≤ knd L i) : i < L.length := by
  unfold knd at h
  split at h
  · assumption
  · omega
theorem blankE_gt {L : List Cel} {i : Nat} (h : knd L i = 5) : i < blankE L i := by
  rw [blankE, dif_pos (knd_lt (by omega)), if_pos h]
  have := blankE_ge L (i + 1); omega
/-- The kind of the token at i, and the cell behind it. -/
def tokE (L : List Cel) (i : Nat) : Int × Nat :=
  if wy L i then (1, wordE L i)
  else if knd L i = 5 then (2, blankE L i)
  else if knd L i = 6 then (3, if (L.getD i cel0).r = 13 ∧ i + 1 < L.length ∧ (L.getD (i + 1) cel0).r = 10 then i + 2 else i + 1)
  else if knd L i = 7 ∨ knd L i = 4 then (4, i + 1)
  else (5, i + 1)
theorem tokE_gt (L : List Cel) (i : Nat) (h : i < L.length) : i < (tokE L i).2 ∧ (tokE L i).2 ≤ L.length := by
  unfold tokE
  split
  · rename_i h1; exact ⟨wordE_gt h1, (wordE_ge L i).2 (by omega)⟩
  · split
    · rename_i h1; exact ⟨blankE_gt h1, (blankE_ge L i).2 (by omega)⟩
    · split
      · simp only []; split <;> omega
      · split <;> (simp only []; omega)
def posAt (s : ByteArray) (L : List Cel) (i : Nat) : Nat := if i < L.length then (L.getD i cel0).pos else s.size
def toks (s : ByteArray) (base : Int) (L : List Cel) (i : Nat) : List Tok :=
  if h : i < L.length then ⟨(tokE L i).1, base + posAt s L i, s.extract (posAt s L i) (posAt s L (tokE L i).2)⟩ :: toks s base L (tokE L i).2 else []
termination_by L.length - i
decreasing_by have := tokE_gt L i h; omega
theorem toks_in {s : ByteArray} {base : Int} {L : List Cel} {i : Nat} (h : i < L.length) : toks s base L i = ⟨(tokE L i).1, base + posAt s L i, s.extract (posAt s L i) (posAt s L (tokE L i).2)⟩ :: toks s base L (tokE L i).2 := by
  rw [toks, dif_pos h]
theorem toks_out {s : ByteArray} {base : Int} {L : List Cel} {i : Nat} (h : ¬ i < L.length) : toks s base L i = [] := by
  rw [toks, dif_neg h]
/-- The kinds, one by one, and the end's. -/
def kinds (L : List Cel) (i : Nat) : List Int := (L.take i).map kCel ++ List.replicate (L.length + 1 - i) 0
def kindsE (L : List Cel) : List Int := L.map kCel ++ [-1]
theorem kinds_len (L : List Cel) (i : Nat) (h : i ≤ L.length) : (kinds L i).length = L.length + 1 := by simp [kinds]; omega
theorem kindsE_len (L : List Cel) : (kindsE L).length = L.length + 1 := by simp [kindsE]
theorem kinds_set (L : List Cel) (i : Nat) (h : i < L.length) : (kinds L i).set i (kCel (L.getD i cel0)) = kinds L (i + 1) := by
  unfold kinds
  refine List.ext_getElem (by simp; omega) fun j h1 h2 => ?_
  rw [List.getElem_set]
  by_cases e : i = j
  · subst e
    rw [if_pos rfl, List.getElem_append_left (by simp; omega)]
    simp [List.getD, h]
  · rw [if_neg e]
    rcases Nat.lt_or_ge j i with h3 | h3
    · rw [List.getElem_append_left (by simp; omega), List.getElem_append_left (by simp; omega)]; simp
    · rw [List.getElem_append_right (by simp; omega), List.getElem_append_right (by simp; omega)]; simp
theorem kinds_end (L : List Cel) : (kinds L L.length).set L.length (-1) = kindsE L := by
  unfold kinds kindsE
  have : L.length + 1 - L.length = 1 := by omega
  rw [this, List.take_length]
  simp [List.set_append]
theorem kindsE_at (L : List Cel) (i : Nat) (h : i ≤ L.length) : (kindsE L).getD i 0 = knd L i := by
  unfold kindsE knd
  by_cases h1 : i < L.length
  · rw [if_pos h1]; simp [List.getD, List.getElem?_append_left (by simpa using h1 : i < (L.map kCel).length), h1]
  · rw [if_neg h1]
    have : i = L.length := by omega
    subst this
    simp [List.getD]
/-- Places grow. -/
theorem cells_pos (s : ByteArray) (p : Nat) : (∀ c ∈ cells s p, p ≤ c.pos ∧ c.pos < s.size) ∧ (cells s p).Pairwise (fun a b => a.pos < b.pos) := by
  by_cases h : p < s.size
  · have hw := Lib.width_pos s p
    obtain ⟨h1, h2⟩ := cells_pos s (p + (Utf8.decode s p).2)
    have hp : (cellAt s p).pos = p := by unfold cellAt; split <;> rfl
    rw [cells_in h]
    refine ⟨fun c hc => ?_, List.pairwise_cons.mpr ⟨fun c hc => ?_, h2⟩⟩
    · rcases List.mem_cons.mp hc with e | hc
      · rw [e, hp]; omega
      · have := h1 c hc; omega
    · rw [hp]; have := h1 c hc; omega
  · rw [cells_out h]; simp
termination_by s.size - p
theorem posAt_le (s : ByteArray) (i : Nat) : posAt s (cells s 0) i ≤ s.size := by
  unfold posAt
  split
  · rename_i h
    have : (cells s 0).getD i cel0 ∈ cells s 0 := by rw [List.getD, List.getElem?_eq_getElem h]; exact List.getElem_mem h
    exact Nat.le_of_lt ((cells_pos s 0).1 _ this).2
  · exact Nat.le_refl _
theorem posAt_mono (s : ByteArray) (i j : Nat) (h : i ≤ j) : posAt s (cells s 0) i ≤ posAt s (cells s 0) j := by
  by_cases hj : j < (cells s 0).length
  · rcases Nat.eq_or_lt_of_le h with e | e
    · subst e; exact Nat.le_refl _
    · unfold posAt
      rw [if_pos (by omega), if_pos hj]
      have := List.pairwise_iff_getElem.mp (cells_pos s 0).2 i j (by omega) hj e
      rw [List.getD, List.getElem?_eq_getElem (by omega : i < (cells s 0).length), List.getD, List.getElem?_eq_getElem hj]
      exact Nat.le_of_lt this
  · have : posAt s (cells s 0) j = s.size := by unfold posAt; rw [if_neg hj]
    rw [this]; exact posAt_le s i
end Go.Proofs.YteklnpgiloebcaaDoor.V

namespace Go.Proofs.YteklnpgiloebcaaDoor.V
set_option linter.unusedVariables false
set_option linter.unusedSimpArgs false
open Go Go.Proofs Go.RowKit
set_option maxRecDepth 100000
set_option maxHeartbeats 2000000
open Go Go.Proofs Go.Proofs.YteklnpgiloebcaaDoor.V
theorem kcell_fn (c : Cel) : Fn Tryd.prog 94 [.agg 5 (tCel.enc c)] (.int .i64 (kCel c)) := by
  refine Fn.of Tryd.f94 _ Tryd.func94 rfl (by decide) (by show 1 ≤ _; decide) tbOk 8 rfl fun S w0 gl => ?_
  refine Run.go ?_; (conv => whnf); repeat' (first | ((with_reducible refine Know.mk fun _ => ?_); conv => whnf) | ((with_reducible refine Need.mk ?_ ?_); exact nd; conv => whnf) | ((with_reducible first | refine Both.mk ?_ ?_ | refine Any.mk fun b hb => ?_ | refine AskB.dec (fun hb => ?_) (fun hb => ?_) | refine AskB.ndec (fun hb => ?_) (fun hb => ?_) | refine AskB.mk (fun hb => ?_) (fun hb => ?_)) <;> conv => whnf) | ((with_reducible first | refine Run.drawX rfl (by decide +kernel) ?_ | refine Run.drawT rfl (by decide +kernel) ?_ | refine Run.drawW rfl (by decide +kernel) ?_); conv => whnf) | fail)
  · exact Run.leave (ts := [2]) (.inr ⟨_, rfl⟩) rfl Tryd.func94 rfl (Le.int (by unfold kCel; rw [if_pos hb]))
  · refine Run.callBX (of_fn c.r) rfl rfl ⟨Le.refl _, trivial⟩ rfl rfl rfl ?_
    (conv => whnf); repeat' (first | ((with_reducible refine Know.mk fun _ => ?_); conv => whnf) | ((with_reducible refine Need.mk ?_ ?_); exact nd; conv => whnf) | ((with_reducible first | refine Both.mk ?_ ?_ | refine Any.mk fun b hb => ?_ | refine AskB.dec (fun hb => ?_) (fun hb => ?_) | refine AskB.ndec (fun hb => ?_) (fun hb => ?_) | refine AskB.mk (fun hb => ?_) (fun hb => ?_)) <;> conv => whnf) | ((with_reducible first | refine Run.drawX rfl (by decide +kernel) ?_ | refine Run.drawT rfl (by decide +kernel) ?_ | refine Run.drawW rfl (by decide +kernel) ?_); conv => whnf) | fail)
    exact Run.leave (ts := [2]) (.inr ⟨_, rfl⟩) rfl Tryd.func94 rfl (Le.int (by unfold kCel; rw [if_neg (by simp [hb])]))
theorem wordy_fn (k : Int) : Fn Tryd.prog 95 [.int .i64 k] (.bool (wordy k)) := by
  refine Fn.of Tryd.f95 _ Tryd.func95 rfl (by decide) (by show 1 ≤ _; decide) tbOk 13 rfl fun S w0 gl => ?_
  refine Run.go ?_; (conv => whnf); repeat' (first | ((with_reducible refine Know.mk fun _ => ?_); conv => whnf) | ((with_reducible refine Need.mk ?_ ?_); exact nd; conv => whnf) | ((with_reducible first | refine Both.mk ?_ ?_ | refine Any.mk fun b hb => ?_ | refine AskB.dec (fun hb => ?_) (fun hb => ?_) | refine AskB.ndec (fun hb => ?_) (fun hb => ?_) | refine AskB.mk (fun hb => ?_) (fun hb => ?_)) <;> conv => whnf) | ((with_reducible first | refine Run.drawX rfl (by decide +kernel) ?_ | refine Run.drawT rfl (by decide +kernel) ?_ | refine Run.drawW rfl (by decide +kernel) ?_); conv => whnf) | fail)
  · exact Run.leave (ts := [2]) (.inr ⟨_, rfl⟩) rfl Tryd.func95 rfl (Le.tt.trans (Le.bool (by simp [wordy, hb])))
  · exact Run.leave (ts := [2]) (.inr ⟨_, rfl⟩) rfl Tryd.func95 rfl (Le.tt.trans (Le.bool (by simp [wordy, hb])))
  · rename_i h1
    exact Run.leave (ts := [2]) (.inr ⟨_, rfl⟩) rfl Tryd.func95 rfl (Le.bool (by simp [wordy, h1, hb]))
theorem nwy {L : List Cel} {i : Nat} (h : wordy (knd L i) = false) : ¬ wy L i := fun h2 => absurd (h.symm.trans h2) (by decide)
theorem tokens_fn (s : ByteArray) (base : Int) (hs : s.size ≤ 1048576) (hb0 : 0 ≤ base) (hb1 : base ≤ 1048576) : Fn Tryd.prog 86 [.str s, .int .i64 base] (tTok.L (toks s base (cells s 0) 0)) := by
  refine Fn.of Tryd.f86 _ Tryd.func86 rfl (by decide) (by show 2 ≤ _; decide) tbOk 156 rfl fun S w0 gl => ?_
  refine Run.go ?_; (conv => whnf); repeat' (first | ((with_reducible refine Know.mk fun _ => ?_); conv => whnf) | ((with_reducible refine Need.mk ?_ ?_); exact nd; conv => whnf) | ((with_reducible first | refine Both.mk ?_ ?_ | refine Any.mk fun b hb => ?_ | refine AskB.dec (fun hb => ?_) (fun hb => ?_) | refine AskB.ndec (fun hb => ?_) (fun hb => ?_) | refine AskB.mk (fun hb => ?_) (fun hb => ?_)) <;> conv => whnf) | ((with_reducible first | refine Run.drawX rfl (by decide +kernel) ?_ | refine Run.drawT rfl (by decide +kernel) ?_ | refine Run.drawW rfl (by decide +kernel) ?_); conv => whnf) | fail)
  refine Run.callBX (cells_fn s (by omega)) rfl rfl ⟨Le.refl _, trivial⟩ rfl rfl rfl ?_
  have hlen := cells_len s 0
  generalize hL : cells s 0 = L at *
  have hw : IntKind.i64.wrap (L.length + 1) = L.length + 1 := wrap64 (by omega) (by omega)
  (conv => whnf); repeat' (first | ((with_reducible refine Know.mk fun _ => ?_); conv => whnf) | ((with_reducible refine Need.mk ?_ ?_); exact nd; conv => whnf) | ((with_reducible first | refine Both.mk ?_ ?_ | refine Any.mk fun b hb => ?_ | refine AskB.dec (fun hb => ?_) (fun hb => ?_) | refine AskB.ndec (fun hb => ?_) (fun hb => ?_) | refine AskB.mk (fun hb => ?_) (fun hb => ?_)) <;> conv => whnf) | ((with_reducible first | refine Run.drawX rfl (by decide +kernel) ?_ | refine Run.drawT rfl (by decide +kernel) ?_ | refine Run.drawW rfl (by decide +kernel) ?_); conv => whnf) | fail)
  rw [hw]
  repeat' (first | ((with_reducible refine Know.mk fun _ => ?_); conv => whnf) | ((with_reducible refine Need.mk ?_ ?_); exact nd; conv => whnf) | ((with_reducible first | refine Both.mk ?_ ?_ | refine Any.mk fun b hb => ?_ | refine AskB.dec (fun hb => ?_) (fun hb => ?_) | refine AskB.ndec (fun hb => ?_) (fun hb => ?_) | refine AskB.mk (fun hb => ?_) (fun hb => ?_)) <;> conv => whnf) | ((with_reducible first | refine Run.drawX rfl (by decide +kernel) ?_ | refine Run.drawT rfl (by decide +kernel) ?_ | refine Run.drawW rfl (by decide +kernel) ?_); conv => whnf) | fail)
  refine Run.loop [0, 1, 5, 6, 21, 22] (fun i : Nat => [(23, .int .i64 (i : Int))]) (fun i => [(20, tI.R 3 (kinds L i))]) (fun i => i ≤ L.length) (fun i => L.length - i) 0 (Nat.zero_le _) ⟨Le.refl _, trivial⟩ ⟨?_, trivial⟩ ?_
  · refine ⟨rfl, rfl, by rw [kinds_len L 0 (Nat.zero_le _)]; omega, fun i j hi hj => ?_⟩
    have : j = 0 := by omega
    subst this
    refine Le.int ?_
    have hi' : i < L.length + 1 := by omega
    simp [kinds, List.getD, hi']
  intro i hi IH
  have hkl := kinds_len L i hi
  refine Run.go ?_; (conv => whnf); repeat' (first | ((with_reducible refine Know.mk fun _ => ?_); conv => whnf) | ((with_reducible refine Need.mk ?_ ?_); exact nd; conv => whnf) | ((with_reducible first | refine Both.mk ?_ ?_ | refine Any.mk fun b hb => ?_ | refine AskB.dec (fun hb => ?_) (fun hb => ?_) | refine AskB.ndec (fun hb => ?_) (fun hb => ?_) | refine AskB.mk (fun hb => ?_) (fun hb => ?_)) <;> conv => whnf) | ((with_reducible first | refine Run.drawX rfl (by decide +kernel) ?_ | refine Run.drawT rfl (by decide +kernel) ?_ | refine Run.drawW rfl (by decide +kernel) ?_); conv => whnf) | fail)
  · refine Run.callBX (kcell_fn (L.getD i cel0)) rfl rfl ⟨?_, trivial⟩ rfl rfl rfl ?_
    · refine Le.agg fun j hj => ?_
      match j, hj with
      | 0, _ => exact Le.refl _
      | 1, _ => exact Le.refl _
      | 2, _ => exact Le.refl _
      | 3, _ => exact Le.refl _
      | 4, _ => exact Le.refl _
    (conv => whnf); repeat' (first | ((with_reducible refine Know.mk fun _ => ?_); conv => whnf) | ((with_reducible refine Need.mk ?_ ?_); exact nd; conv => whnf) | ((with_reducible first | refine Both.mk ?_ ?_ | refine Any.mk fun b hb => ?_ | refine AskB.dec (fun hb => ?_) (fun hb => ?_) | refine AskB.ndec (fun hb => ?_) (fun hb => ?_) | refine AskB.mk (fun hb => ?_) (fun hb => ?_)) <;> conv => whnf) | ((with_reducible first | refine Run.drawX rfl (by decide +kernel) ?_ | refine Run.drawT rfl (by decide +kernel) ?_ | refine Run.drawW rfl (by decide +kernel) ?_); conv => whnf) | fail)
    refine Run.to _ _ ?_ ?_ (IH (i + 1) (by omega) (by omega))
    · exact ⟨Le.refl _, Le.refl _, Le.refl _, Le.refl _, Le.refl _, Le.refl _, Le.wrap64 (by omega) (by omega) (by omega), trivial⟩
    · refine ⟨?_, trivial⟩
      rw [← kinds_set L i (by omega)]
      exact tI.set 3 _ _ _ (by omega) _ rfl (Le.one (Le.refl _))
  have hil : i = L.length := by omega
  subst hil
  refine Run.holdNil 9 1000 119 3 (fun _ _ => .u) (by rfl) ?_
  refine Run.loop [0, 1, 5, 6] (fun (a : Nat × List Tok) => [(9, .row 1000), (10, .int .i64 (a.1 : Int))]) (fun a => [(20, tI.R 3 (kindsE L)), (1000, tTok.R 119 a.2)])
    (fun a => a.1 ≤ L.length ∧ a.2.length ≤ a.1 ∧ a.2 ++ toks s base L a.1 = toks s base L 0) (fun a => L.length - a.1) (0, []) ⟨Nat.zero_le _, Nat.zero_le _, rfl⟩ ⟨Le.refl _, Le.refl _, trivial⟩ ⟨?_, ⟨rfl, rfl, rfl, fun i j hi => absurd hi (Nat.not_lt_zero _)⟩, trivial⟩ ?_
  · rw [← kinds_end L]
    exact tI.set 3 _ _ _ (by omega) _ rfl (Le.one (Le.refl _))
  intro ⟨i, l⟩ ⟨hi, hl, hc⟩ IH
  simp only at hi hl hc
  show Run _ _ (lst (_ ++ [(9, .row 1000), (10, .int .i64 (i : Int))])) (lstH [(20, tI.R 3 (kindsE L)), (1000, tTok.R 119 l)])
  have hke := kindsE_len L
  by_cases hil : i < L.length
  · have hat : ∀ j, j ≤ L.length → (kindsE L).getD (↑j : Int).toNat tI.z = knd L j := fun j hj => kindsE_at L j hj
    have hw2 : ∀ j : Nat, j ≤ L.length → IntKind.i64.wrap ((j : Int) + 1) = (j : Int) + 1 := fun j hj => wrap64 (by omega) (by omega)
    have hw3 := hw2 i hi
    apply Run.cutAt (A := fun CC kk => ∀ (n : Nat) (k : Int), tokE L i = (k, n) → Run CC kk (lst [(0, .str s), (1, .int .i64 base), (5, tCel.L L), (6, .row 20), (9, .row 1000), (10, .int .i64 (n : Int)), (11, .int .i64 (i : Int)), (12, .int .i64 k)]) (lstH [(20, tI.R 3 (kindsE L)), (1000, tTok.R 119 l)]))
    case main =>
      intro put
      refine Run.go ?_; (conv => whnf); repeat' (first | ((with_reducible refine Know.mk fun _ => ?_); conv => whnf) | ((with_reducible refine Need.mk ?_ ?_); exact nd; conv => whnf) | ((with_reducible first | refine Both.mk ?_ ?_ | refine Any.mk fun b hb => ?_ | refine AskB.dec (fun hb => ?_) (fun hb => ?_) | refine AskB.ndec (fun hb => ?_) (fun hb => ?_) | refine AskB.mk (fun hb => ?_) (fun hb => ?_)) <;> conv => whnf) | ((with_reducible first | refine Run.drawX rfl (by decide +kernel) ?_ | refine Run.drawT rfl (by decide +kernel) ?_ | refine Run.drawW rfl (by decide +kernel) ?_); conv => whnf) | fail)
      · omega
      refine Run.callBX (wordy_fn (knd L i)) rfl rfl ⟨Le.int (hat i hi), trivial⟩ rfl rfl rfl ?_
      (conv => whnf); repeat' (first | ((with_reducible refine Know.mk fun _ => ?_); conv => whnf) | ((with_reducible refine Need.mk ?_ ?_); exact nd; conv => whnf) | ((with_reducible first | refine Both.mk ?_ ?_ | refine Any.mk fun b hb => ?_ | refine AskB.dec (fun hb => ?_) (fun hb => ?_) | refine AskB.ndec (fun hb => ?_) (fun hb => ?_) | refine AskB.mk (fun hb => ?_) (fun hb => ?_)) <;> conv => whnf) | ((with_reducible first | refine Run.drawX rfl (by decide +kernel) ?_ | refine Run.drawT rfl (by decide +kernel) ?_ | refine Run.drawW rfl (by decide +kernel) ?_); conv => whnf) | fail)
      · have hwy : wy L i := hb
        refine Run.loop [0, 1, 5, 6, 9, 11, 12] (fun (j : Nat) => [(10, .int .i64 (j : Int))]) (fun j => [(20, tI.R 3 (kindsE L)), (1000, tTok.R 119 l)])
          (fun j => i ≤ j ∧ j ≤ L.length ∧ wordE L j = wordE L i) (fun j => L.length - j) i ⟨Nat.le_refl _, hi, rfl⟩ ⟨Le.refl _, trivial⟩ ⟨MOle.refl _, MOle.refl _, trivial⟩ ?_
        intro j ⟨hj1, hj2, hj3⟩ IHj
        refine Run.go ?_; (conv => whnf); repeat' (first | ((with_reducible refine Know.mk fun _ => ?_); conv => whnf) | ((with_reducible refine Need.mk ?_ ?_); exact nd; conv => whnf) | ((with_reducible first | refine Both.mk ?_ ?_ | refine Any.mk fun b hb => ?_ | refine AskB.dec (fun hb => ?_) (fun hb => ?_) | refine AskB.ndec (fun hb => ?_) (fun hb => ?_) | refine AskB.mk (fun hb => ?_) (fun hb => ?_)) <;> conv => whnf) | ((with_reducible first | refine Run.drawX rfl (by decide +kernel) ?_ | refine Run.drawT rfl (by decide +kernel) ?_ | refine Run.drawW rfl (by decide +kernel) ?_); conv => whnf) | fail)
        -- for wordy
        refine Run.loop [0, 1, 5, 6, 9, 11, 12] (fun (j : Nat) => [(10, .int .i64 (j : Int))]) (fun j => [(20, tI.R 3 (kindsE L)), (1000, tTok.R 119 l)])
          (fun j' => j ≤ j' ∧ j' ≤ L.length ∧ wordE L j' = wordE L i) (fun j => L.length - j) j ⟨Nat.le_refl _, hj2, hj3⟩ ⟨Le.refl _, trivial⟩ ⟨MOle.refl _, MOle.refl _, trivial⟩ ?_
        intro j' ⟨hk1, hk2, hk3⟩ IHk
        have hw4 := hw2 j' hk2
        have hj4 : (kindsE L).getD (↑j' : Int).toNat tI.z = 4 → j' < L.length := fun h => knd_lt (by rw [← hat j' hk2, h]; decide)
        have hat1 : j' < L.length → (kindsE L).getD (IntKind.i64.wrap (↑j' + 1)).toNat tI.z = knd L (j' + 1) := fun h => by rw [hw4]; exact hat (j' + 1) (by omega)
        refine Run.go ?_; (conv => whnf); repeat' (first | ((with_reducible refine Know.mk fun _ => ?_); conv => whnf) | ((with_reducible refine Need.mk ?_ ?_); exact nd; conv => whnf) | ((with_reducible first | refine Both.mk ?_ ?_ | refine Any.mk fun b hb => ?_ | refine AskB.dec (fun hb => ?_) (fun hb => ?_) | refine AskB.ndec (fun hb => ?_) (fun hb => ?_) | refine AskB.mk (fun hb => ?_) (fun hb => ?_)) <;> conv => whnf) | ((with_reducible first | refine Run.drawX rfl (by decide +kernel) ?_ | refine Run.drawT rfl (by decide +kernel) ?_ | refine Run.drawW rfl (by decide +kernel) ?_); conv => whnf) | fail)
        refine Run.callBX (wordy_fn (knd L j')) rfl rfl ⟨Le.int (hat j' hk2), trivial⟩ rfl rfl rfl ?_
        (conv => whnf); repeat' (first | ((with_reducible refine Know.mk fun _ => ?_); conv => whnf) | ((with_reducible refine Need.mk ?_ ?_); exact nd; conv => whnf) | ((with_reducible first | refine Both.mk ?_ ?_ | refine Any.mk fun b hb => ?_ | refine AskB.dec (fun hb => ?_) (fun hb => ?_) | refine AskB.ndec (fun hb => ?_) (fun hb => ?_) | refine AskB.mk (fun hb => ?_) (fun hb => ?_)) <;> conv => whnf) | ((with_reducible first | refine Run.drawX rfl (by decide +kernel) ?_ | refine Run.drawT rfl (by decide +kernel) ?_ | refine Run.drawW rfl (by decide +kernel) ?_); conv => whnf) | fail)
        · have hwj : wy L j' := hb
          have hlt := wy_lt hwj
          refine Run.to _ _ ?_ ?_ (IHk (j' + 1) (by omega) ⟨by omega, by omega, ?_⟩)
          · exact ⟨Le.refl _, Le.refl _, Le.refl _, Le.refl _, Le.refl _, Le.refl _, Le.refl _, Le.int hw4, trivial⟩
          · exact ⟨MOle.refl _, MOle.refl _, trivial⟩
          · rw [← hk3]; rw [wordE.eq_def L j', dif_pos hlt, if_pos hwj]
        · -- a joiner
          have hlt := hj4 (by assumption)
          have hk4 : knd L j' = 4 := by rw [← hat j' hk2]; assumption
          have hnw : ¬ wy L j' := by
            have : wordy (knd L j') = false := by assumption
            exact fun h => absurd (this.symm.trans h) (by decide)
          refine Run.callBX (wordy_fn (knd L (j' + 1))) rfl rfl ⟨Le.int (hat1 hlt), trivial⟩ rfl rfl rfl ?_
          (conv => whnf); repeat' (first | ((with_reducible refine Know.mk fun _ => ?_); conv => whnf) | ((with_reducible refine Need.mk ?_ ?_); exact nd; conv => whnf) | ((with_reducible first | refine Both.mk ?_ ?_ | refine Any.mk fun b hb => ?_ | refine AskB.dec (fun hb => ?_) (fun hb => ?_) | refine AskB.ndec (fun hb => ?_) (fun hb => ?_) | refine AskB.mk (fun hb => ?_) (fun hb => ?_)) <;> conv => whnf) | ((with_reducible first | refine Run.drawX rfl (by decide +kernel) ?_ | refine Run.drawT rfl (by decide +kernel) ?_ | refine Run.drawW rfl (by decide +kernel) ?_); conv => whnf) | fail)
          · have hw5 : wy L (j' + 1) := hb
            refine Run.to _ _ ?_ ?_ (IHj (j' + 1) (by omega) ⟨by omega, by omega, ?_⟩)
            · exact ⟨Le.refl _, Le.refl _, Le.refl _, Le.refl _, Le.refl _, Le.refl _, Le.refl _, Le.int hw4, trivial⟩
            · exact ⟨MOle.refl _, MOle.refl _, trivial⟩
            · rw [← hk3, wordE.eq_def L j', dif_pos hlt, if_neg hnw, if_pos ⟨hk4, hw5⟩, wordE.eq_def L (j' + 1), dif_pos (wy_lt hw5), if_pos hw5]
          · refine Run.skipSeq (Run.to _ _ ?_ ?_ (put (j') 1 ?_))
            · exact ⟨Le.refl _, Le.refl _, Le.refl _, Le.refl _, Le.refl _, Le.refl _, Le.refl _, Le.refl _, trivial⟩
            · exact ⟨MOle.refl _, MOle.refl _, trivial⟩
            · have hw5 : ¬ wy L (j' + 1) := fun h => absurd (hb.symm.trans h) (by decide)
              unfold tokE
              rw [if_pos hwy, ← hk3, wordE.eq_def L j', dif_pos hlt, if_neg hnw, if_neg (fun h => hw5 h.2)]
        · refine Run.skipSeq (Run.to _ _ ?_ ?_ (put (j') 1 ?_))
          · exact ⟨Le.refl _, Le.refl _, Le.refl _, Le.refl _, Le.refl _, Le.refl _, Le.refl _, Le.refl _, trivial⟩
          · exact ⟨MOle.refl _, MOle.refl _, trivial⟩
          · have hnw : ¬ wy L j' := by
              have : wordy (knd L j') = false := by assumption
              exact fun h => absurd (this.symm.trans h) (by decide)
            have hk4 : ¬ knd L j' = 4 := by rw [← hat j' hk2]; assumption
            unfold tokE
            rw [if_pos hwy, ← hk3, wordE.eq_def L j']
            by_cases hlt : j' < L.length
            · rw [dif_pos hlt, if_neg hnw, if_neg (fun h => hk4 h.1)]
            · rw [dif_neg hlt]
      -- blank
      · have hkb : knd L i = 5 := by rw [← hat i hi]; exact hb
        have hnw : ¬ wy L i := nwy (by assumption)
        refine Run.go ?_; (conv => whnf); repeat' (first | ((with_reducible refine Know.mk fun _ => ?_); conv => whnf) | ((with_reducible refine Need.mk ?_ ?_); exact nd; conv => whnf) | ((with_reducible first | refine Both.mk ?_ ?_ | refine Any.mk fun b hb => ?_ | refine AskB.dec (fun hb => ?_) (fun hb => ?_) | refine AskB.ndec (fun hb => ?_) (fun hb => ?_) | refine AskB.mk (fun hb => ?_) (fun hb => ?_)) <;> conv => whnf) | ((with_reducible first | refine Run.drawX rfl (by decide +kernel) ?_ | refine Run.drawT rfl (by decide +kernel) ?_ | refine Run.drawW rfl (by decide +kernel) ?_); conv => whnf) | fail)
        refine Run.loop [0, 1, 5, 6, 9, 11, 12] (fun (j : Nat) => [(10, .int .i64 (j : Int))]) (fun j => [(20, tI.R 3 (kindsE L)), (1000, tTok.R 119 l)])
          (fun j => i ≤ j ∧ j ≤ L.length ∧ blankE L j = blankE L i) (fun j => L.length - j) i ⟨Nat.le_refl _, hi, rfl⟩ ⟨Le.refl _, trivial⟩ ⟨MOle.refl _, MOle.refl _, trivial⟩ ?_
        intro j ⟨hj1, hj2, hj3⟩ IHj
        have hw4 := hw2 j hj2
        have hj5 : (kindsE L).getD (↑j : Int).toNat tI.z = 5 → j < L.length := fun h => knd_lt (by rw [← hat j hj2, h]; decide)
        refine Run.go ?_; (conv => whnf); repeat' (first | ((with_reducible refine Know.mk fun _ => ?_); conv => whnf) | ((with_reducible refine Need.mk ?_ ?_); exact nd; conv => whnf) | ((with_reducible first | refine Both.mk ?_ ?_ | refine Any.mk fun b hb => ?_ | refine AskB.dec (fun hb => ?_) (fun hb => ?_) | refine AskB.ndec (fun hb => ?_) (fun hb => ?_) | refine AskB.mk (fun hb => ?_) (fun hb => ?_)) <;> conv => whnf) | ((with_reducible first | refine Run.drawX rfl (by decide +kernel) ?_ | refine Run.drawT rfl (by decide +kernel) ?_ | refine Run.drawW rfl (by decide +kernel) ?_); conv => whnf) | fail)
        · have hlt := hj5 hb
          refine Run.to _ _ ?_ ?_ (IHj (j + 1) (by omega) ⟨by omega, by omega, ?_⟩)
          · exact ⟨Le.refl _, Le.refl _, Le.refl _, Le.refl _, Le.refl _, Le.refl _, Le.refl _, Le.int hw4, trivial⟩
          · exact ⟨MOle.refl _, MOle.refl _, trivial⟩
          · rw [← hj3, blankE.eq_def L j, dif_pos hlt, if_pos (by rw [← hat j hj2]; exact hb)]
        · refine Run.to _ _ ?_ ?_ (put j 2 ?_)
          · exact ⟨Le.refl _, Le.refl _, Le.refl _, Le.refl _, Le.refl _, Le.refl _, Le.refl _, Le.refl _, trivial⟩
          · exact ⟨MOle.refl _, MOle.refl _, trivial⟩
          · have hk5 : ¬ knd L j = 5 := by rw [← hat j hj2]; exact hb
            unfold tokE
            rw [if_neg hnw, if_pos hkb, ← hj3, blankE.eq_def L j]
            by_cases hlt : j < L.length
            · rw [dif_pos hlt, if_neg hk5]
            · rw [dif_neg hlt]
      all_goals have hnw : ¬ wy L i := nwy (by assumption)
      all_goals have hk5 : ¬ knd L i = 5 := by rw [← hat i hi]; assumption
      all_goals (try rw [hw3] at *)
      · have hk6 : knd L i = 6 := by rw [← hat i hi]; assumption
        have hlt : i + 1 < L.length := by omega
        refine Run.skipSeq (Run.to _ _ ?_ ?_ (put (i + 2) 3 ?_))
        · exact ⟨Le.refl _, Le.refl _, Le.refl _, Le.refl _, Le.refl _, Le.int (hw2 (i + 1) (by omega)), Le.refl _, Le.refl _, trivial⟩
        · exact ⟨MOle.refl _, MOle.refl _, trivial⟩
        · unfold tokE
          rw [if_neg hnw, if_neg hk5, if_pos hk6, if_pos ⟨by assumption, hlt, hb⟩]
      · refine Run.skipSeq (Run.to _ _ ?_ ?_ (put (i + 1) 3 ?_))
        · exact ⟨Le.refl _, Le.refl _, Le.refl _, Le.refl _, Le.refl _, Le.refl _, Le.refl _, Le.refl _, trivial⟩
        · exact ⟨MOle.refl _, MOle.refl _, trivial⟩
        · unfold tokE
          have hk6 : knd L i = 6 := by rw [← hat i hi]; assumption
          rw [if_neg hnw, if_neg hk5, if_pos hk6, if_neg (fun h => absurd h.2.2 hb)]
      · refine Run.skipSeq (Run.to _ _ ?_ ?_ (put (i + 1) 3 ?_))
        · exact ⟨Le.refl _, Le.refl _, Le.refl _, Le.refl _, Le.refl _, Le.refl _, Le.refl _, Le.refl _, trivial⟩
        · exact ⟨MOle.refl _, MOle.refl _, trivial⟩
        · unfold tokE
          have hk6 : knd L i = 6 := by rw [← hat i hi]; assumption
          rw [if_neg hnw, if_neg hk5, if_pos hk6, if_neg (fun h => absurd h.2.1 (by omega))]
      · refine Run.skipSeq (Run.to _ _ ?_ ?_ (put (i + 1) 3 ?_))
        · exact ⟨Le.refl _, Le.refl _, Le.refl _, Le.refl _, Le.refl _, Le.refl _, Le.refl _, Le.refl _, trivial⟩
        · exact ⟨MOle.refl _, MOle.refl _, trivial⟩
        · unfold tokE
          have hk6 : knd L i = 6 := by rw [← hat i hi]; assumption
          rw [if_neg hnw, if_neg hk5, if_pos hk6, if_neg (fun h => absurd h.1 hb)]
      · refine Run.skipSeq (Run.to _ _ ?_ ?_ (put (i + 1) 4 ?_))
        · exact ⟨Le.refl _, Le.refl _, Le.refl _, Le.refl _, Le.refl _, Le.refl _, Le.refl _, Le.refl _, trivial⟩
        · exact ⟨MOle.refl _, MOle.refl _, trivial⟩
        · unfold tokE
          have hk6 : ¬ knd L i = 6 := by rw [← hat i hi]; assumption
          have hk7 : knd L i = 7 := by rw [← hat i hi]; assumption
          rw [if_neg hnw, if_neg hk5, if_neg hk6, if_pos (.inl hk7)]
      · refine Run.skipSeq (Run.to _ _ ?_ ?_ (put (i + 1) 4 ?_))
        · exact ⟨Le.refl _, Le.refl _, Le.refl _, Le.refl _, Le.refl _, Le.refl _, Le.refl _, Le.refl _, trivial⟩
        · exact ⟨MOle.refl _, MOle.refl _, trivial⟩
        · unfold tokE
          have hk6 : ¬ knd L i = 6 := by rw [← hat i hi]; assumption
          have hk4 : knd L i = 4 := by rw [← hat i hi]; assumption
          rw [if_neg hnw, if_neg hk5, if_neg hk6, if_pos (.inr hk4)]
      · refine Run.skipSeq (Run.to _ _ ?_ ?_ (put (i + 1) 5 ?_))
        · exact ⟨Le.refl _, Le.refl _, Le.refl _, Le.refl _, Le.refl _, Le.refl _, Le.refl _, Le.refl _, trivial⟩
        · exact ⟨MOle.refl _, MOle.refl _, trivial⟩
        · unfold tokE
          have hk6 : ¬ knd L i = 6 := by rw [← hat i hi]; assumption
          have hk7 : ¬ knd L i = 7 := by rw [← hat i hi]; assumption
          have hk4 : ¬ knd L i = 4 := by rw [← hat i hi]; assumption
          rw [if_neg hnw, if_neg hk5, if_neg hk6, if_neg (fun h => h.elim hk7 hk4)]
    case g =>
      intro n k hk
      have hge := tokE_gt L i hil
      rw [hk] at hge
      simp only at hge
      have p1 := posAt_mono s i n (by omega)
      have p2 := posAt_le s n
      have p3 := toks_in (s := s) (base := base) hil
      rw [hk] at p3
      rw [hL] at p1 p2
      unfold posAt at p1 p2 p3
      rw [if_pos hil] at p1 p3
      simp only at p3
      have pz : IntKind.i64.wrap (base + ((L.getD (↑i : Int).toNat tCel.z).pos : Int)) = base + ((L.getD i cel0).pos : Int) := wrap64 (by show -9223372036854775808 ≤ base + ((L.getD i cel0).pos : Int); omega) (by show base + ((L.getD i cel0).pos : Int) ≤ _; omega)
      have back : ∀ (t : Tok) (q : Nat), t = ⟨k, base + ((L.getD i cel0).pos : Int), s.extract (L.getD i cel0).pos q⟩ → q = (if n < L.length then (L.getD n cel0).pos else s.size) → (l ++ [t]).length ≤ n ∧ (l ++ [t]) ++ toks s base L n = toks s base L 0 := fun t q h1 h2 => by
        refine ⟨by simp; omega, ?_⟩
        rw [← hc, p3, h1, h2]; simp
      by_cases hn : n < L.length
      · rw [if_pos hn] at p1 p2
        have q1 : (L.getD (↑i : Int).toNat tCel.z).pos ≤ (L.getD (↑n : Int).toNat tCel.z).pos := p1
        have q2 : (L.getD (↑n : Int).toNat tCel.z).pos ≤ s.size := p2
        refine Run.go ?_; (conv => whnf); repeat' (first | ((with_reducible refine Know.mk fun _ => ?_); conv => whnf) | ((with_reducible refine Need.mk ?_ ?_); exact nd; conv => whnf) | ((with_reducible first | refine Both.mk ?_ ?_ | refine Any.mk fun b hb => ?_ | refine AskB.dec (fun hb => ?_) (fun hb => ?_) | refine AskB.ndec (fun hb => ?_) (fun hb => ?_) | refine AskB.mk (fun hb => ?_) (fun hb => ?_)) <;> conv => whnf) | ((with_reducible first | refine Run.drawX rfl (by decide +kernel) ?_ | refine Run.drawT rfl (by decide +kernel) ?_ | refine Run.drawW rfl (by decide +kernel) ?_); conv => whnf) | fail)
        · refine Run.hold (z := 155) 9 1000 (by rfl) (by rfl) (by rfl) ?_
          obtain ⟨b1, b2⟩ := back _ (L.getD n cel0).pos rfl (by rw [if_pos hn])
          refine Run.skipSeq (Run.to _ _ ?_ ?_ (IH (n, l ++ [⟨k, base + ((L.getD i cel0).pos : Int), s.extract (L.getD i cel0).pos (L.getD n cel0).pos⟩]) (by simp only []; omega) ⟨hge.2, b1, b2⟩))
          · exact ⟨Le.refl _, Le.refl _, Le.refl _, Le.refl _, Le.refl _, Le.refl _, trivial⟩
          · refine ⟨MOle.refl _, tTok.push 119 l ⟨k, base + ((L.getD i cel0).pos : Int), s.extract (L.getD i cel0).pos (L.getD n cel0).pos⟩ _ (fun j hj => ?_), trivial⟩
            match j, hj with
            | 0, _ => exact Le.refl _
            | 1, _ => exact Le.int pz
            | 2, _ => exact Le.refl _
        · exact absurd hn (by omega)
      · rw [if_neg hn] at p1 p2
        have q1 : (L.getD (↑i : Int).toNat tCel.z).pos ≤ s.size := p1
        refine Run.go ?_; (conv => whnf); repeat' (first | ((with_reducible refine Know.mk fun _ => ?_); conv => whnf) | ((with_reducible refine Need.mk ?_ ?_); exact nd; conv => whnf) | ((with_reducible first | refine Both.mk ?_ ?_ | refine Any.mk fun b hb => ?_ | refine AskB.dec (fun hb => ?_) (fun hb => ?_) | refine AskB.ndec (fun hb => ?_) (fun hb => ?_) | refine AskB.mk (fun hb => ?_) (fun hb => ?_)) <;> conv => whnf) | ((with_reducible first | refine Run.drawX rfl (by decide +kernel) ?_ | refine Run.drawT rfl (by decide +kernel) ?_ | refine Run.drawW rfl (by decide +kernel) ?_); conv => whnf) | fail)
        · exact absurd hn (by omega)
        · refine Run.hold (z := 155) 9 1000 (by rfl) (by rfl) (by rfl) ?_
          obtain ⟨b1, b2⟩ := back _ s.size rfl (by rw [if_neg hn])
          refine Run.skipSeq (Run.to _ _ ?_ ?_ (IH (n, l ++ [⟨k, base + ((L.getD i cel0).pos : Int), s.extract (L.getD i cel0).pos s.size⟩]) (by simp only []; omega) ⟨hge.2, b1, b2⟩))
          · exact ⟨Le.refl _, Le.refl _, Le.refl _, Le.refl _, Le.refl _, Le.refl _, trivial⟩
          · refine ⟨MOle.refl _, tTok.push 119 l ⟨k, base + ((L.getD i cel0).pos : Int), s.extract (L.getD i cel0).pos s.size⟩ _ (fun j hj => ?_), trivial⟩
            match j, hj with
            | 0, _ => exact Le.refl _
            | 1, _ => exact Le.int pz
            | 2, _ => exact Le.refl _
  · have hie : i = L.length := by omega
    subst hie
    refine Run.go ?_; (conv => whnf); repeat' (first | ((with_reducible refine Know.mk fun _ => ?_); conv => whnf) | ((with_reducible refine Need.mk ?_ ?_); exact nd; conv => whnf) | ((with_reducible first | refine Both.mk ?_ ?_ | refine Any.mk fun b hb => ?_ | refine AskB.dec (fun hb => ?_) (fun hb => ?_) | refine AskB.ndec (fun hb => ?_) (fun hb => ?_) | refine AskB.mk (fun hb => ?_) (fun hb => ?_)) <;> conv => whnf) | ((with_reducible first | refine Run.drawX rfl (by decide +kernel) ?_ | refine Run.drawT rfl (by decide +kernel) ?_ | refine Run.drawW rfl (by decide +kernel) ?_); conv => whnf) | fail)
    · rw [toks_out (Nat.lt_irrefl _), List.append_nil] at hc
      rw [← hc]
      exact Run.leave (ts := [4]) (.inr ⟨_, rfl⟩) rfl Tryd.func86 rfl (Le.refl _)
    · exact absurd rfl hb
end Go.Proofs.YteklnpgiloebcaaDoor.V

namespace Go.Proofs.YteklnpgiloebcaaDoor.V
set_option linter.unusedVariables false
set_option linter.unusedSimpArgs false
open Go Go.Proofs Go.RowKit
set_option maxRecDepth 100000
set_option maxHeartbeats 2000000
open Go Go.Proofs Go.Proofs.YteklnpgiloebcaaDoor.V
noncomputable def toksOf (s : ByteArray) : List Tok := if 65536 < s.size then [] else toks s 0 (cells s 0) 0
def codeT (s : ByteArray) : Int := if 65536 < s.size then 1 else 0
theorem tokens31_fn (s : ByteArray) : Fn Tryd.prog 71 [.str s] (tupL [tTok.L (toksOf s), .int .i64 (codeT s)]) := by
  refine Fn.of Tryd.f71 _ Tryd.func71 rfl (by decide) (by show 1 ≤ _; decide) tbOk 9 rfl fun S w0 gl => ?_
  refine Run.go ?_; (conv => whnf); repeat' (first | ((with_reducible refine Know.mk fun _ => ?_); conv => whnf) | ((with_reducible refine Need.mk ?_ ?_); exact nd; conv => whnf) | ((with_reducible first | refine Both.mk ?_ ?_ | refine Any.mk fun b hb => ?_ | refine AskB.dec (fun hb => ?_) (fun hb => ?_) | refine AskB.ndec (fun hb => ?_) (fun hb => ?_) | refine AskB.mk (fun hb => ?_) (fun hb => ?_)) <;> conv => whnf) | ((with_reducible first | refine Run.drawX rfl (by decide +kernel) ?_ | refine Run.drawT rfl (by decide +kernel) ?_ | refine Run.drawW rfl (by decide +kernel) ?_); conv => whnf) | fail)
  · refine Run.leave (ts := [2,3]) (.inr ⟨_, rfl⟩) rfl Tryd.func71 rfl (resT ⟨?_, Le.int ?_, trivial⟩)
    · unfold toksOf; rw [if_pos (by omega)]; exact Le.nils _ _
    · unfold codeT; rw [if_pos (by omega)]
  refine Run.callBX (tokens_fn s 0 (by omega) (by omega) (by omega)) rfl rfl ⟨Le.refl _, Le.refl _, trivial⟩ rfl rfl rfl ?_
  (conv => whnf); repeat' (first | ((with_reducible refine Know.mk fun _ => ?_); conv => whnf) | ((with_reducible refine Need.mk ?_ ?_); exact nd; conv => whnf) | ((with_reducible first | refine Both.mk ?_ ?_ | refine Any.mk fun b hb => ?_ | refine AskB.dec (fun hb => ?_) (fun hb => ?_) | refine AskB.ndec (fun hb => ?_) (fun hb => ?_) | refine AskB.mk (fun hb => ?_) (fun hb => ?_)) <;> conv => whnf) | ((with_reducible first | refine Run.drawX rfl (by decide +kernel) ?_ | refine Run.drawT rfl (by decide +kernel) ?_ | refine Run.drawW rfl (by decide +kernel) ?_); conv => whnf) | fail)
  refine Run.leave (ts := [2,3]) (.inr ⟨_, rfl⟩) rfl Tryd.func71 rfl (resT ⟨?_, Le.int ?_, trivial⟩)
  · unfold toksOf; rw [if_neg (by omega)]; exact Le.refl _
  · unfold codeT; rw [if_neg (by omega)]
end Go.Proofs.YteklnpgiloebcaaDoor.V

namespace Go.Proofs.YteklnpgiloebcaaDoor.V
set_option linter.unusedVariables false
set_option linter.unusedSimpArgs false
open Go
structure Wrd where
  text : ByteArray
  tail : ByteArray
deriving DecidableEq
def tWrd : Ty Wrd := ⟨2, fun w j => match j with | 0 => .str w.text | _ => .str w.tail, ⟨.empty, .empty⟩⟩
def isW (t : Tok) : Bool := decide (t.kind = 1)
/-- What stands ahead of the first word, and the words. -/
def specW : List Tok → ByteArray × List Wrd
  | [] => (.empty, [])
  | t :: ts => if t.kind = 1 then (.empty, ⟨t.text, (specW ts).1⟩ :: (specW ts).2) else (t.text ++ (specW ts).1, (specW ts).2)
/-- Token by token a text is gone through whole. -/
def Contig (s : ByteArray) : Nat → List Tok → Prop
  | p, [] => p = s.size
  | p, t :: ts => t.at' = p ∧ t.text = s.extract p (p + t.text.size) ∧ p + t.text.size ≤ s.size ∧ Contig s (p + t.text.size) ts
def startsI (ts : List Tok) : List Int := (ts.filter isW).map (·.at')
def endsI (ts : List Tok) : List Int := (ts.filter isW).map (fun t => t.at' + (t.text.size : Int))
/-- Where the first word begins. -/
def nextS (s : ByteArray) (ts : List Tok) : Int := (startsI ts).headD s.size
theorem Contig.next {s : ByteArray} : ∀ {ts : List Tok} {p : Nat}, Contig s p ts → (p : Int) ≤ nextS s ts ∧ nextS s ts ≤ s.size
  | [], p, h => by have : p = s.size := h; simp [nextS, startsI]; omega
  | t :: ts, p, h => by
    obtain ⟨h1, h2, h3, h4⟩ := h
    have ih := Contig.next h4
    unfold nextS startsI at *
    by_cases hk : isW t
    · rw [List.filter_cons_of_pos hk]
      simp only [List.map_cons, List.headD_cons]
      omega
    · rw [List.filter_cons_of_neg hk]
      omega
theorem extract_join (s : ByteArray) (a b c : Nat) (h1 : a ≤ b) (h2 : b ≤ c) : s.extract a b ++ s.extract b c = s.extract a c := by
  rw [ByteArray.extract_append_extract]
  congr 1 <;> omega
theorem extract_nil (s : ByteArray) (a : Nat) : s.extract a a = ByteArray.empty := by
  apply ByteArray.ext
  simp
/-- The words as the program cuts them. -/
def cutW (s : ByteArray) : List Int → List Int → List Wrd
  | a :: st, e :: en => ⟨s.extract a.toNat e.toNat, s.extract e.toNat (st.headD s.size).toNat⟩ :: cutW s st en
  | _, _ => []
theorem specW_cut {s : ByteArray} : ∀ {ts : List Tok} {p : Nat}, Contig s p ts → specW ts = (s.extract p (nextS s ts).toNat, cutW s (startsI ts) (endsI ts))
  | [], p, h => by
    have : p = s.size := h
    simp only [specW, nextS, startsI, endsI, cutW, List.filter_nil, List.map_nil, List.headD_nil]
    rw [this]
    congr 1
    exact (extract_nil s _).symm
  | t :: ts, p, h => by
    obtain ⟨h1, h2, h3, h4⟩ := h
    have ih := specW_cut h4
    have hn := Contig.next h4
    unfold specW
    by_cases hk : t.kind = 1
    · have hw : isW t = true := decide_eq_true hk
      rw [if_pos hk, ih]
      have e1 : nextS s (t :: ts) = t.at' := by unfold nextS startsI; rw [List.filter_cons_of_pos hw]; rfl
      have e2 : startsI (t :: ts) = t.at' :: startsI ts := by unfold startsI; rw [List.filter_cons_of_pos hw]; rfl
      have e3 : endsI (t :: ts) = (t.at' + (t.text.size : Int)) :: endsI ts := by unfold endsI; rw [List.filter_cons_of_pos hw]; rfl
      rw [e1, e2, e3, h1]
      have e4 : ((p : Int)).toNat = p := rfl
      have e5 : ((p : Int) + (t.text.size : Int)).toNat = p + t.text.size := by omega
      simp only [cutW, e4, e5, extract_nil]
      congr 2
      rw [← h2]; rfl
    · have hw : ¬ isW t = true := by unfold isW; simpa using hk
      rw [if_neg hk, ih]
      have e2 : startsI (t :: ts) = startsI ts := by unfold startsI; rw [List.filter_cons_of_neg hw]
      have e3 : endsI (t :: ts) = endsI ts := by unfold endsI; rw [List.filter_cons_of_neg hw]
      have e1 : nextS s (t :: ts) = nextS s ts := by unfold nextS; rw [e2]
      rw [e1, e2, e3]
      congr 1
      show t.text ++ s.extract (p + t.text.size) (nextS s ts).toNat = _
      conv => lhs; arg 1; rw [h2]
      exact extract_join s _ _ _ (by omega) (by omega)
theorem toks_contig (s : ByteArray) (i : Nat) : Contig s (posAt s (cells s 0) i) (toks s 0 (cells s 0) i) := by
  by_cases h : i < (cells s 0).length
  · rw [toks_in h]
    have hg := tokE_gt (cells s 0) i h
    have hm := posAt_mono s i (tokE (cells s 0) i).2 (by omega)
    have hrec := toks_contig s (tokE (cells s 0) i).2
    have hl := posAt_le s (tokE (cells s 0) i).2
    have hsz : (s.extract (posAt s (cells s 0) i) (posAt s (cells s 0) (tokE (cells s 0) i).2)).size = posAt s (cells s 0) (tokE (cells s 0) i).2 - posAt s (cells s 0) i := by simp; omega
    have hq : posAt s (cells s 0) i + (s.extract (posAt s (cells s 0) i) (posAt s (cells s 0) (tokE (cells s 0) i).2)).size = posAt s (cells s 0) (tokE (cells s 0) i).2 := by rw [hsz]; omega
    refine ⟨by simp, ?_, ?_, ?_⟩
    · simp only [hq]
    · simp only [hq]; omega
    · simp only [hq]; exact hrec
  · rw [toks_out h]
    unfold posAt
    rw [if_neg h]; rfl
termination_by (cells s 0).length - i
theorem posAt_zero (s : ByteArray) : posAt s (cells s 0) 0 = 0 := by
  unfold posAt
  by_cases h : 0 < s.size
  · have hp : (cellAt s 0).pos = 0 := by unfold cellAt; split <;> rfl
    rw [cells_in h]; simp [hp]
  · rw [cells_out h]; simp; exact Classical.byContradiction fun hc => h (Nat.pos_of_ne_zero (fun e => hc (by apply ByteArray.ext; apply Array.ext (by simpa using e); intro i h1 h2; simp at h2)))
theorem toks_small (s : ByteArray) (L : List Cel) (i : Nat) : (toks s 0 L i).length ≤ L.length - i ∧ ∀ t ∈ toks s 0 L i, t.text.size ≤ s.size := by
  by_cases h : i < L.length
  · have hg := tokE_gt L i h
    obtain ⟨h1, h2⟩ := toks_small s L (tokE L i).2
    rw [toks_in h]
    refine ⟨by rw [List.length_cons]; omega, fun t ht => ?_⟩
    rcases List.mem_cons.mp ht with e | ht
    · rw [e]; simp; omega
    · exact h2 t ht
  · rw [toks_out h]; simp
termination_by L.length - i
theorem startsI_len (ts : List Tok) : (startsI ts).length ≤ ts.length ∧ (endsI ts).length = (startsI ts).length := by
  unfold startsI endsI
  exact ⟨by rw [List.length_map]; exact List.length_filter_le _ _, by simp⟩
theorem startsI_take (T : List Tok) (i : Nat) (h : i < T.length) :
    startsI (T.take (i + 1)) = startsI (T.take i) ++ (if (T.getD i tTok.z).kind = 1 then [(T.getD i tTok.z).at'] else []) ∧
    endsI (T.take (i + 1)) = endsI (T.take i) ++ (if (T.getD i tTok.z).kind = 1 then [(T.getD i tTok.z).at' + ((T.getD i tTok.z).text.size : Int)] else []) := by
  have e : T.getD i tTok.z = T[i] := by rw [List.getD, List.getElem?_eq_getElem h, Option.getD_some]
  rw [e, List.take_succ_eq_append_getElem h]
  unfold startsI endsI
  rw [List.filter_append, List.map_append, List.map_append]
  by_cases hk : T[i].kind = 1
  · have hw : isW T[i] = true := decide_eq_true hk
    rw [if_pos hk, if_pos hk, List.filter_cons_of_pos hw]; exact ⟨rfl, rfl⟩
  · have hw : ¬ isW T[i] = true := by unfold isW; simpa using hk
    rw [if_neg hk, if_neg hk, List.filter_cons_of_neg hw]; exact ⟨rfl, rfl⟩
theorem Contig.mem {s : ByteArray} : ∀ {ts : List Tok} {p : Nat}, Contig s p ts → ∀ t ∈ ts, (p : Int) ≤ t.at' ∧ t.at' + (t.text.size : Int) ≤ s.size
  | [], p, h, t, ht => absurd ht (by simp)
  | u :: ts, p, h, t, ht => by
    obtain ⟨h1, h2, h3, h4⟩ := h
    rcases List.mem_cons.mp ht with e | ht
    · rw [e]; omega
    · have := Contig.mem h4 t ht; omega
theorem Contig.sorted {s : ByteArray} : ∀ {ts : List Tok} {p : Nat}, Contig s p ts → ∀ i, i < (startsI ts).length →
    (p : Int) ≤ (startsI ts).getD i 0 ∧ (startsI ts).getD i 0 ≤ (endsI ts).getD i 0 ∧ (endsI ts).getD i 0 ≤ (startsI ts ++ [(s.size : Int)]).getD (i + 1) 0 ∧ (startsI ts ++ [(s.size : Int)]).getD (i + 1) 0 ≤ s.size
  | [], p, h, i, hi => absurd hi (by simp [startsI])
  | t :: ts, p, h, i, hi => by
    obtain ⟨h1, h2, h3, h4⟩ := h
    have hn := Contig.next h4
    by_cases hk : t.kind = 1
    · have hw : isW t = true := decide_eq_true hk
      have e2 : startsI (t :: ts) = t.at' :: startsI ts := by unfold startsI; rw [List.filter_cons_of_pos hw]; rfl
      have e3 : endsI (t :: ts) = (t.at' + (t.text.size : Int)) :: endsI ts := by unfold endsI; rw [List.filter_cons_of_pos hw]; rfl
      rw [e2] at hi ⊢
      rw [e3]
      cases i with
      | zero =>
        have : (t.at' :: startsI ts ++ [(s.size : Int)]).getD (0 + 1) 0 = nextS s ts := by
          unfold nextS
          cases startsI ts <;> rfl
        rw [this]
        simp only [List.getD_cons_zero]
        omega
      | succ i =>
        have ih := Contig.sorted h4 i (by simpa using hi)
        simp only [List.cons_append, List.getD_cons_succ]
        omega
    · have hw : ¬ isW t = true := by unfold isW; simpa using hk
      have e2 : startsI (t :: ts) = startsI ts := by unfold startsI; rw [List.filter_cons_of_neg hw]
      have e3 : endsI (t :: ts) = endsI ts := by unfold endsI; rw [List.filter_cons_of_neg hw]
      rw [e2] at hi ⊢
      rw [e3]
      have ih := Contig.sorted h4 i hi
      omega
theorem cutW_len (s : ByteArray) : ∀ (st en : List Int), en.length = st.length → (cutW s st en).length = st.length
  | [], _, _ => by unfold cutW; rfl
  | a :: st, [], h => absurd h (by simp)
  | a :: st, e :: en, h => by unfold cutW; rw [List.length_cons, cutW_len s st en (by simpa using h), List.length_cons]
theorem cutW_get (s : ByteArray) : ∀ (st en : List Int) (i : Nat), en.length = st.length → i < st.length →
    (cutW s st en).getD i tWrd.z = ⟨s.extract (st.getD i 0).toNat (en.getD i 0).toNat, s.extract (en.getD i 0).toNat ((st ++ [(s.size : Int)]).getD (i + 1) 0).toNat⟩
  | [], _, _, _, h => absurd h (by simp)
  | a :: st, [], _, h, _ => absurd h (by simp)
  | a :: st, e :: en, 0, h, hi => by
    unfold cutW
    simp only [List.getD_cons_zero]
    congr 2
    cases st <;> rfl
  | a :: st, e :: en, i + 1, h, hi => by
    unfold cutW
    simp only [List.getD_cons_succ, List.cons_append]
    exact cutW_get s st en i (by simpa using h) (by simpa using hi)
/-- The first i of a list, the others still empty. -/
def part {α : Type} (l : List α) (z : α) (i : Nat) : List α := l.take i ++ List.replicate (l.length - i) z
theorem part_len {α : Type} (l : List α) (z : α) (i : Nat) (h : i ≤ l.length) : (part l z i).length = l.length := by simp [part]; omega
theorem part_set {α : Type} (l : List α) (z : α) (i : Nat) (h : i < l.length) : (part l z i).set i (l.getD i z) = part l z (i + 1) := by
  unfold part
  refine List.ext_getElem (by simp; omega) fun j h1 h2 => ?_
  rw [List.getElem_set]
  by_cases e : i = j
  · subst e
    rw [if_pos rfl, List.getElem_append_left (by simp; omega)]
    simp [List.getD, h]
  · rw [if_neg e]
    rcases Nat.lt_or_ge j i with h3 | h3
    · rw [List.getElem_append_left (by simp; omega), List.getElem_append_left (by simp; omega)]; simp
    · rw [List.getElem_append_right (by simp; omega), List.getElem_append_right (by simp; omega)]; simp
theorem part_all {α : Type} (l : List α) (z : α) : part l z l.length = l := by simp [part]
theorem part_none {α : Type} (l : List α) (z : α) : part l z 0 = List.replicate l.length z := by simp [part]
end Go.Proofs.YteklnpgiloebcaaDoor.V

namespace Go.Proofs.YteklnpgiloebcaaDoor.V
set_option linter.unusedVariables false
set_option linter.unusedSimpArgs false
open Go Go.Proofs Go.RowKit
set_option maxRecDepth 100000
set_option maxHeartbeats 2000000
open Go Go.Proofs Go.Proofs.YteklnpgiloebcaaDoor.V
/-- What stands ahead, the words, the refusal. -/
noncomputable def wordsOf (s : ByteArray) : (ByteArray × List Wrd) × Int := if 65536 < s.size then ((.empty, []), 1) else if 1024 < (specW (toksOf s)).2.length then ((.empty, []), 1) else (specW (toksOf s), 0)
noncomputable def wordsL (s : ByteArray) : AV := tupL [.str (wordsOf s).1.1, tWrd.L (wordsOf s).1.2, .int .i64 (wordsOf s).2]
theorem wordsOf_long {s : ByteArray} (h : 65536 < s.size) : wordsOf s = ((.empty, []), 1) := by unfold wordsOf; rw [if_pos h]
theorem wordsOf_many {s : ByteArray} (h : ¬ 65536 < s.size) (h2 : 1024 < (specW (toksOf s)).2.length) : wordsOf s = ((.empty, []), 1) := by unfold wordsOf; rw [if_neg h, if_pos h2]
theorem wordsOf_fit {s : ByteArray} (h : ¬ 65536 < s.size) (h2 : ¬ 1024 < (specW (toksOf s)).2.length) : wordsOf s = (specW (toksOf s), 0) := by unfold wordsOf; rw [if_neg h, if_neg h2]
theorem words15_fn (s : ByteArray) : Fn Tryd.prog 53 [.str s] (wordsL s) := by
  refine Fn.of Tryd.f53 _ Tryd.func53 rfl (by decide) (by show 1 ≤ _; decide) tbOk 93 rfl fun S w0 gl => ?_
  refine Run.go ?_; (conv => whnf); repeat' (first | ((with_reducible refine Know.mk fun _ => ?_); conv => whnf) | ((with_reducible refine Need.mk ?_ ?_); exact nd; conv => whnf) | ((with_reducible first | refine Both.mk ?_ ?_ | refine Any.mk fun b hb => ?_ | refine AskB.dec (fun hb => ?_) (fun hb => ?_) | refine AskB.ndec (fun hb => ?_) (fun hb => ?_) | refine AskB.mk (fun hb => ?_) (fun hb => ?_)) <;> conv => whnf) | ((with_reducible first | refine Run.drawX rfl (by decide +kernel) ?_ | refine Run.drawT rfl (by decide +kernel) ?_ | refine Run.drawW rfl (by decide +kernel) ?_); conv => whnf) | fail)
  refine Run.callBX (tokens31_fn s) rfl rfl ⟨Le.refl _, trivial⟩ rfl rfl rfl ?_
  by_cases hbig : 65536 < s.size
  · have hc : codeT s = 1 := by unfold codeT; rw [if_pos hbig]
    rw [hc]
    (conv => whnf); repeat' (first | ((with_reducible refine Know.mk fun _ => ?_); conv => whnf) | ((with_reducible refine Need.mk ?_ ?_); exact nd; conv => whnf) | ((with_reducible first | refine Both.mk ?_ ?_ | refine Any.mk fun b hb => ?_ | refine AskB.dec (fun hb => ?_) (fun hb => ?_) | refine AskB.ndec (fun hb => ?_) (fun hb => ?_) | refine AskB.mk (fun hb => ?_) (fun hb => ?_)) <;> conv => whnf) | ((with_reducible first | refine Run.drawX rfl (by decide +kernel) ?_ | refine Run.drawT rfl (by decide +kernel) ?_ | refine Run.drawW rfl (by decide +kernel) ?_); conv => whnf) | fail)
    · exact absurd hb (by decide)
    · rw [show wordsL s = tupL [.str .empty, tWrd.L [], .int .i64 1] by unfold wordsL; rw [wordsOf_long hbig]]
      exact Run.leave (ts := [2,3,4]) (.inr ⟨_, rfl⟩) rfl Tryd.func53 rfl (resT ⟨Le.refl _, Le.nils _ _, Le.refl _, trivial⟩)
  have hc : codeT s = 0 := by unfold codeT; rw [if_neg hbig]
  have hT0 : toksOf s = toks s 0 (cells s 0) 0 := by unfold toksOf; rw [if_neg hbig]
  obtain ⟨hTl, hTs⟩ := toks_small s (cells s 0) 0
  have hcg := toks_contig s 0
  rw [← hT0] at hTl hTs hcg
  rw [posAt_zero] at hcg
  have hcl := cells_len s 0
  have hf := wordsOf_fit (s := s) hbig
  have hm := wordsOf_many (s := s) hbig
  rw [hc]
  generalize hT : toksOf s = T at *
  rw [specW_cut hcg] at hf hm
  (conv => whnf); repeat' (first | ((with_reducible refine Know.mk fun _ => ?_); conv => whnf) | ((with_reducible refine Need.mk ?_ ?_); exact nd; conv => whnf) | ((with_reducible first | refine Both.mk ?_ ?_ | refine Any.mk fun b hb => ?_ | refine AskB.dec (fun hb => ?_) (fun hb => ?_) | refine AskB.ndec (fun hb => ?_) (fun hb => ?_) | refine AskB.mk (fun hb => ?_) (fun hb => ?_)) <;> conv => whnf) | ((with_reducible first | refine Run.drawX rfl (by decide +kernel) ?_ | refine Run.drawT rfl (by decide +kernel) ?_ | refine Run.drawW rfl (by decide +kernel) ?_); conv => whnf) | fail)
  · refine Run.holdNil 7 1000 3 1 (fun _ _ => .u) (by rfl) ?_
    refine Run.holdNil 8 1001 3 1 (fun _ _ => .u) (by rfl) ?_
    refine Run.loop [0, 21, 22] (fun (i : Nat) => [(7, .row 1000), (8, .row 1001), (23, .int .i64 (i : Int))]) (fun i => [(1000, tI.R 3 (startsI (T.take i))), (1001, tI.R 3 (endsI (T.take i)))])
      (fun i => i ≤ T.length) (fun i => T.length - i) 0 (Nat.zero_le _) ⟨Le.refl _, Le.refl _, Le.refl _, trivial⟩ ⟨⟨rfl, rfl, rfl, fun i j hi => absurd hi (Nat.not_lt_zero _)⟩, ⟨rfl, rfl, rfl, fun i j hi => absurd hi (Nat.not_lt_zero _)⟩, trivial⟩ ?_
    intro i hi IH
    have hle := startsI_len (T.take i)
    rw [List.length_take] at hle
    have hat : i < T.length → (T.getD (↑i : Int).toNat tTok.z).at' = (T.getD i tTok.z).at' ∧ 0 ≤ (T.getD i tTok.z).at' ∧ (T.getD i tTok.z).at' + ((T.getD i tTok.z).text.size : Int) ≤ s.size := fun h => ⟨rfl, by
      have := hcg.mem (T.getD i tTok.z) (by rw [List.getD, List.getElem?_eq_getElem h]; exact List.getElem_mem h)
      omega⟩
    have hstk := fun h => startsI_take T i h
    have hw1 : IntKind.i64.wrap ((i : Int) + 1) = ((i + 1 : Nat) : Int) := wrap64 (by omega) (by omega)
    refine Run.go ?_; (conv => whnf); repeat' (first | ((with_reducible refine Know.mk fun _ => ?_); conv => whnf) | ((with_reducible refine Need.mk ?_ ?_); exact nd; conv => whnf) | ((with_reducible first | refine Both.mk ?_ ?_ | refine Any.mk fun b hb => ?_ | refine AskB.dec (fun hb => ?_) (fun hb => ?_) | refine AskB.ndec (fun hb => ?_) (fun hb => ?_) | refine AskB.mk (fun hb => ?_) (fun hb => ?_)) <;> conv => whnf) | ((with_reducible first | refine Run.drawX rfl (by decide +kernel) ?_ | refine Run.drawT rfl (by decide +kernel) ?_ | refine Run.drawW rfl (by decide +kernel) ?_); conv => whnf) | fail)
    · have hil : i < T.length := by omega
      have hk : (T.getD i tTok.z).kind = 1 := by assumption
      obtain ⟨a1, a2, a3⟩ := hat hil
      obtain ⟨t1, t2⟩ := hstk hil
      rw [if_pos hk] at t1 t2
      refine Run.hold (z := 34) 7 1000 (by rfl) (by rfl) (by rfl) ?_
      refine Run.hold (z := 43) 8 1001 (by rfl) (by rfl) (by rfl) ?_
      refine Run.to _ _ ?_ ?_ (IH (i + 1) (by omega) (by omega))
      · exact ⟨Le.refl _, Le.refl _, Le.refl _, Le.refl _, Le.refl _, Le.int hw1, trivial⟩
      · refine ⟨?_, ?_, trivial⟩
        · rw [t1]
          refine tI.push 3 _ _ _ (fun j hj => ?_)
          match j, hj with
          | 0, _ => exact Le.refl _
        · rw [t2]
          refine tI.push 3 _ _ _ (fun j hj => ?_)
          match j, hj with
          | 0, _ => exact Le.int (wrap64 (x := (T.getD i tTok.z).at' + ((T.getD i tTok.z).text.size : Int)) (by omega) (by omega))
    · have hil : i < T.length := by omega
      have hk : ¬ (T.getD i tTok.z).kind = 1 := by assumption
      obtain ⟨t1, t2⟩ := hstk hil
      rw [if_neg hk, List.append_nil] at t1 t2
      refine Run.to _ _ ?_ ?_ (IH (i + 1) (by omega) (by omega))
      · exact ⟨Le.refl _, Le.refl _, Le.refl _, Le.refl _, Le.refl _, Le.int hw1, trivial⟩
      · refine ⟨?_, ?_, trivial⟩
        · rw [t1]; exact MOle.refl _
        · rw [t2]; exact MOle.refl _
    all_goals have hie : i = T.length := by omega
    all_goals subst hie
    all_goals rw [List.take_length] at *
    all_goals have hcw := cutW_len s (startsI T) (endsI T) hle.2
    · rw [show wordsL s = tupL [.str .empty, tWrd.L [], .int .i64 1] by unfold wordsL; rw [hm (by simp only []; omega)]]
      exact Run.leave (ts := [2,3,4]) (.inr ⟨_, rfl⟩) rfl Tryd.func53 rfl (resT ⟨Le.refl _, Le.nils _ _, Le.refl _, trivial⟩)
    rw [show wordsL s = tupL [.str (s.extract 0 (nextS s T).toNat), tWrd.L (cutW s (startsI T) (endsI T)), .int .i64 0] by unfold wordsL; rw [hf (by simp only []; omega)]]
    have hso := hcg.sorted
    have hnx := hcg.next
    have hnx0 : (startsI T ++ [(s.size : Int)]).getD 0 0 = nextS s T := by unfold nextS; cases startsI T <;> rfl
    have hcg2 := cutW_get s (startsI T) (endsI T)
    have hnx1 : 0 ≤ (startsI T ++ [(s.size : Int)]).getD (Int.toNat 0) tI.z ∧ (startsI T ++ [(s.size : Int)]).getD (Int.toNat 0) tI.z ≤ s.size := by
      rw [show (startsI T ++ [(s.size : Int)]).getD (Int.toNat 0) tI.z = nextS s T from hnx0]; omega
    generalize startsI T = st at *
    generalize endsI T = en at *
    generalize cutW s st en = W at *
    clear hf hm hstk
    refine Run.hold (z := 52) 7 1000 (by rfl) (by rfl) (by rfl) ?_
    refine Run.loop [0, 7, 8, 11, 57] (fun (i : Nat) => [(58, .int .i64 (i : Int))]) (fun i => [(55, tWrd.R 105 (part W tWrd.z i)), (1000, tI.R 3 (st ++ [(s.size : Int)])), (1001, tI.R 3 en)])
      (fun i => i ≤ st.length) (fun i => st.length - i) 0 (Nat.zero_le _) ⟨Le.refl _, trivial⟩ ⟨?_, ?_, MOle.refl _, trivial⟩ ?_
    · refine ⟨rfl, rfl, by rw [part_len _ _ _ (Nat.zero_le _)]; omega, fun i j hi hj => ?_⟩
      unfold Ty.G
      have hiW : i < W.length := by omega
      rw [part_none, show (List.replicate W.length tWrd.z).getD i tWrd.z = tWrd.z by simp [List.getD, hiW]]
      match j, hj with
      | 0, _ => exact Le.refl _
      | 1, _ => exact Le.refl _
    · refine tI.push 3 _ _ _ (fun j hj => ?_)
      match j, hj with
      | 0, _ => exact Le.refl _
    intro i hi2 IH2
    have hpl := part_len W tWrd.z i (by omega)
    have hw2 : IntKind.i64.wrap ((i : Int) + 1) = ((i + 1 : Nat) : Int) := wrap64 (by omega) (by omega)
    have ha1 : i < st.length → (st ++ [(s.size : Int)]).getD i 0 = st.getD i 0 := fun h => by simp [List.getD, List.getElem?_append_left h]
    have hb1 : i < st.length → 0 ≤ (st ++ [(s.size : Int)]).getD (↑i : Int).toNat tI.z ∧ (st ++ [(s.size : Int)]).getD (↑i : Int).toNat tI.z ≤ en.getD (↑i : Int).toNat tI.z ∧ en.getD (↑i : Int).toNat tI.z ≤ (st ++ [(s.size : Int)]).getD (IntKind.i64.wrap (↑i + 1)).toNat tI.z ∧ (st ++ [(s.size : Int)]).getD (IntKind.i64.wrap (↑i + 1)).toNat tI.z ≤ s.size := fun h => by
      obtain ⟨q1, q2, q3, q4⟩ := hso i h
      rw [hw2]
      refine ⟨?_, ?_, q3, q4⟩
      · show 0 ≤ (st ++ [(s.size : Int)]).getD i 0
        rw [ha1 h]; exact q1
      · show (st ++ [(s.size : Int)]).getD i 0 ≤ _
        rw [ha1 h]; exact q2
    have hsl : (st ++ [(s.size : Int)]).length = st.length + 1 := by simp
    refine Run.go ?_; (conv => whnf); repeat' (first | ((with_reducible refine Know.mk fun _ => ?_); conv => whnf) | ((with_reducible refine Need.mk ?_ ?_); exact nd; conv => whnf) | ((with_reducible first | refine Both.mk ?_ ?_ | refine Any.mk fun b hb => ?_ | refine AskB.dec (fun hb => ?_) (fun hb => ?_) | refine AskB.ndec (fun hb => ?_) (fun hb => ?_) | refine AskB.mk (fun hb => ?_) (fun hb => ?_)) <;> conv => whnf) | ((with_reducible first | refine Run.drawX rfl (by decide +kernel) ?_ | refine Run.drawT rfl (by decide +kernel) ?_ | refine Run.drawW rfl (by decide +kernel) ?_); conv => whnf) | fail)
    · have hil : i < st.length := by omega
      refine Run.to _ _ ?_ ?_ (IH2 (i + 1) (by omega) (by omega))
      · exact ⟨Le.refl _, Le.refl _, Le.refl _, Le.refl _, Le.refl _, Le.int hw2, trivial⟩
      · refine ⟨?_, MOle.refl _, MOle.refl _, trivial⟩
        rw [← part_set W tWrd.z i (by omega)]
        refine tWrd.set 105 (part W tWrd.z i) i (W.getD i tWrd.z) (by omega) _ rfl (fun j y hy => ?_)
        rw [hcg2 i hle.2 hil]
        match j, hy with
        | 0, hy =>
          injection hy with hy
          rw [← hy]
          exact Le.str (by
            show s.extract ((st ++ [(s.size : Int)]).getD i 0).toNat (en.getD i 0).toNat = _
            rw [ha1 hil])
        | 1, hy =>
          injection hy with hy
          rw [← hy]
          exact Le.str (by
            show s.extract (en.getD i 0).toNat ((st ++ [(s.size : Int)]).getD (IntKind.i64.wrap (↑i + 1)).toNat 0).toNat = _
            rw [hw2]; rfl)
    · have hie : i = W.length := by omega
      rw [hie, part_all]
      exact Run.leave (ts := [2,3,4]) (.inr ⟨_, rfl⟩) rfl Tryd.func53 rfl (resT ⟨Le.str (by show s.extract 0 ((st ++ [(s.size : Int)]).getD 0 0).toNat = _; rw [hnx0]), Le.refl _, Le.refl _, trivial⟩)
  · exact absurd rfl hb
end Go.Proofs.YteklnpgiloebcaaDoor.V

namespace Go.Proofs.YteklnpgiloebcaaDoor.V
set_option linter.unusedVariables false
set_option linter.unusedSimpArgs false
open Go
/-- A list's words and what stands between, on end. -/
def catW : List Wrd → ByteArray
  | [] => .empty
  | w :: l => w.text ++ (w.tail ++ catW l)
end Go.Proofs.YteklnpgiloebcaaDoor.V

namespace Go.Proofs.YteklnpgiloebcaaDoor.V
set_option linter.unusedVariables false
set_option linter.unusedSimpArgs false
open Go
set_option maxRecDepth 100000
deriving instance DecidableEq for Tok
end Go.Proofs.YteklnpgiloebcaaDoor.V

namespace Go.Proofs.YteklnpgiloebcaaDoor.V
set_option linter.unusedVariables false
set_option linter.unusedSimpArgs false
open Go Go.Proofs Go.RowKit
set_option maxRecDepth 100000
set_option maxHeartbeats 2000000
open Go Go.Proofs Go.Proofs.YteklnpgiloebcaaDoor.V
theorem wordsOf_few (s : ByteArray) : (wordsOf s).1.2.length ≤ 1024 := by
  by_cases h : 65536 < s.size
  · rw [wordsOf_long h]; simp
  · by_cases h2 : 1024 < (specW (toksOf s)).2.length
    · rw [wordsOf_many h h2]; simp
    · rw [wordsOf_fit h h2]; simp only []; omega
end Go.Proofs.YteklnpgiloebcaaDoor.V

namespace Go.Proofs.YteklnpgiloebcaaDoor.V
set_option linter.unusedVariables false
set_option linter.unusedSimpArgs false
open Go Go.Proofs Go.RowKit
set_option maxRecDepth 100000
set_option maxHeartbeats 2000000
open Go Go.Proofs Go.Proofs.YteklnpgiloebcaaDoor.V
theorem ws5 {N : Nat} {w0 : World} {S : Nat → Prop} {gl : GlobOk S w0} {f : FuncId} {R : Ending → World → Prop} {kp : Kept} {ops : Array Oper} {i : Nat} {rest : List Nat} {k : List Item} {env : Env} {h : Heap} {o : Oper} {x y : Operand}
    (p : AV) (t s : ByteArray) (ho : ops.toList[i]? = some o) (hc : calls? o = some (14, [x, y])) (hd : okD ⟨Tryd.prog, TB, tbOk, N, w0, S, gl, f, R, kp⟩ o.dst = true) (hr : ready env ops o = true) (hx : ev (scrubE 900 env) x = .box 5 0) (hy : ev (scrubE 900 env) y = .str s)
    (hs : t.size + s.size ≤ 140737488355328) (hp : p = .nilp ∨ p = .box 5 0)
    (next : Run ⟨Tryd.prog, TB, tbOk, N, w0, S, gl, f, R, kp⟩ (.inRegion ops rest :: k) (putE (envW 90 env) o.dst .u) (bldr 50 5 5 90 (heapW 90 h) (.box 5 0) (t ++ s))) :
    Run ⟨Tryd.prog, TB, tbOk, N, w0, S, gl, f, R, kp⟩ (.inRegion ops (i :: rest) :: k) env (bldr 50 5 5 90 h p t) := by
  refine Run.inline 900 Tryd.f14 _ 19 ho hc Tryd.func14 rfl (by decide) rfl (by show 2 ≤ 19; decide) hd hr (fun a hsz hdf => ?_)
  simp only [List.map, hx, hy]
  have fin : ∀ (E : Env) (H : Heap) (X : AV), (∀ i, E i = scrub 14 (scrub 901 (scrub 900 (env i)))) → (∀ id, Nat.beq id 5 = false → Nat.beq id 90 = false → Nat.beq id 14 = false → Nat.beq id 901 = false → Nat.beq id 900 = false → H id = scrubM 90 (scrubM 14 (scrubM 901 (scrubM 900 (h id))))) →
      MOle (H 5) (.box 50 [.box 5 0, .row 90]) → MOle (H 90) (.row 5 1 (t ++ s).size (bytesG (t ++ s))) → Run ⟨Tryd.prog, TB, tbOk, N, w0, S, gl, f, R, kp⟩ (.inRegion ops rest :: k) (scrubE 90 (putE E o.dst X)) H := by
    intro E H X hE hH h5 h90
    refine Run.weaken (fun i => ?_) (fun id => ?_) next
    · cases hdst : o.dst with
      | none => show Le (scrub 90 (E i)) _; rw [hE]; exact Le.refl _
      | some d =>
        show Le (scrub 90 (upd E d X i)) (upd (envW 90 env) d .u i)
        by_cases e : i = d
        · subst e; rw [upd_same, upd_same]; exact Le.u _
        · rw [upd_other _ _ e, upd_other _ _ e, hE]; exact Le.refl _
    · unfold bldr heapW
      cases e5 : Nat.beq id 5 with
      | true => have := Nat.eq_of_beq_eq_true e5; subst this; exact h5
      | false =>
      cases e90 : Nat.beq id 90 with
      | true => have := Nat.eq_of_beq_eq_true e90; subst this; exact h90
      | false =>
      cases e900 : Nat.beq id 900 with
      | true => simp only [upd, e5, e90, e900, cond_true, cond_false]; exact mole_dead _
      | false =>
      cases e901 : Nat.beq id 901 with
      | true => simp only [upd, e5, e90, e900, e901, cond_true, cond_false]; exact mole_dead _
      | false =>
      cases e14 : Nat.beq id 14 with
      | true => simp only [upd, e5, e90, e900, e901, e14, cond_true, cond_false]; exact mole_dead _
      | false =>
        rw [hH id e5 e90 e14 e901 e900]
        simp only [upd, e5, e90, e900, e901, e14, cond_true, cond_false]
        exact MOle.refl _
  rcases hp with rfl | rfl
  · refine Run.go ?_; (conv => whnf); repeat' (first | ((with_reducible refine Know.mk fun _ => ?_); conv => whnf) | ((with_reducible refine Need.mk ?_ ?_); exact nd; conv => whnf) | ((with_reducible first | refine Both.mk ?_ ?_ | refine Any.mk fun b hb => ?_ | refine AskB.dec (fun hb => ?_) (fun hb => ?_) | refine AskB.ndec (fun hb => ?_) (fun hb => ?_) | refine AskB.mk (fun hb => ?_) (fun hb => ?_)) <;> conv => whnf) | ((with_reducible first | refine Run.drawX rfl (by decide +kernel) ?_ | refine Run.drawT rfl (by decide +kernel) ?_ | refine Run.drawW rfl (by decide +kernel) ?_); conv => whnf) | fail)
    refine Run.inline 901 Tryd.f26 _ 20 rfl rfl Tryd.func26 rfl (by decide) rfl (by decide) rfl rfl (fun a2 hsz2 hdf2 => ?_)
    refine Run.go ?_; (conv => whnf); repeat' (first | ((with_reducible refine Know.mk fun _ => ?_); conv => whnf) | ((with_reducible refine Need.mk ?_ ?_); exact nd; conv => whnf) | ((with_reducible first | refine Both.mk ?_ ?_ | refine Any.mk fun b hb => ?_ | refine AskB.dec (fun hb => ?_) (fun hb => ?_) | refine AskB.ndec (fun hb => ?_) (fun hb => ?_) | refine AskB.mk (fun hb => ?_) (fun hb => ?_)) <;> conv => whnf) | ((with_reducible first | refine Run.drawX rfl (by decide +kernel) ?_ | refine Run.drawT rfl (by decide +kernel) ?_ | refine Run.drawW rfl (by decide +kernel) ?_); conv => whnf) | fail)
    refine Run.toUnsafe (id := 5) (l := [.nilp, .row 90]) (e := 50) (t := 50) (src := 47) (dst := 86) (x := .tmp 8) rfl rfl rfl rfl rfl rfl (by decide) (by kernel_rfl) (by kernel_rfl) (j := (Tryd.prog.info? 50).get (by kernel_rfl)) (by kernel_rfl) (by decide +kernel) ?_
    refine Run.noEscape (f := 41) (x := .tmp 9) rfl rfl rfl rfl Tryd.func41 (by kernel_rfl) (by kernel_rfl) (by kernel_rfl) (by kernel_rfl) ?_
    refine Run.fromUnsafe (id := 5) (l := [.nilp, .row 90]) (e := 50) (u := 50) (src := 86) (dst := 47) (x := .tmp 10) rfl rfl rfl rfl rfl rfl (by kernel_rfl) (by kernel_rfl) (j := (Tryd.prog.info? 50).get (by kernel_rfl)) (by kernel_rfl) (by kernel_rfl) ?_
    refine Run.go ?_; (conv => whnf); repeat' (first | ((with_reducible refine Know.mk fun _ => ?_); conv => whnf) | ((with_reducible refine Need.mk ?_ ?_); exact nd; conv => whnf) | ((with_reducible first | refine Both.mk ?_ ?_ | refine Any.mk fun b hb => ?_ | refine AskB.dec (fun hb => ?_) (fun hb => ?_) | refine AskB.ndec (fun hb => ?_) (fun hb => ?_) | refine AskB.mk (fun hb => ?_) (fun hb => ?_)) <;> conv => whnf) | ((with_reducible first | refine Run.drawX rfl (by decide +kernel) ?_ | refine Run.drawT rfl (by decide +kernel) ?_ | refine Run.drawW rfl (by decide +kernel) ?_); conv => whnf) | fail)
    refine Run.back 901 (ts := []) hsz2 hdf2 (.inl rfl) (by rfl) Tryd.func26 rfl ?_
    refine Run.go ?_; (conv => whnf); repeat' (first | ((with_reducible refine Know.mk fun _ => ?_); conv => whnf) | ((with_reducible refine Need.mk ?_ ?_); exact nd; conv => whnf) | ((with_reducible first | refine Both.mk ?_ ?_ | refine Any.mk fun b hb => ?_ | refine AskB.dec (fun hb => ?_) (fun hb => ?_) | refine AskB.ndec (fun hb => ?_) (fun hb => ?_) | refine AskB.mk (fun hb => ?_) (fun hb => ?_)) <;> conv => whnf) | ((with_reducible first | refine Run.drawX rfl (by decide +kernel) ?_ | refine Run.drawT rfl (by decide +kernel) ?_ | refine Run.drawW rfl (by decide +kernel) ?_); conv => whnf) | fail)
    refine Run.back 900 (ts := [4, 5]) hsz hdf (.inr ⟨_, rfl⟩) (by rfl) Tryd.func14 rfl ?_
    refine Run.holdBoxRow 5 1 90 14 (by rfl) (by rfl) (by rfl) rfl rfl rfl ?_
    refine fin _ _ _ (fun i => rfl) (fun id e5 e90 e14 e901 e900 => ?_) (MOle.refl _) (bytesG_join 5 t s)
    simp only [upd, scrubH, scrubM, bldr, e5, e90, e14, e901, e900, cond_false]
  · refine Run.go ?_; (conv => whnf); repeat' (first | ((with_reducible refine Know.mk fun _ => ?_); conv => whnf) | ((with_reducible refine Need.mk ?_ ?_); exact nd; conv => whnf) | ((with_reducible first | refine Both.mk ?_ ?_ | refine Any.mk fun b hb => ?_ | refine AskB.dec (fun hb => ?_) (fun hb => ?_) | refine AskB.ndec (fun hb => ?_) (fun hb => ?_) | refine AskB.mk (fun hb => ?_) (fun hb => ?_)) <;> conv => whnf) | ((with_reducible first | refine Run.drawX rfl (by decide +kernel) ?_ | refine Run.drawT rfl (by decide +kernel) ?_ | refine Run.drawW rfl (by decide +kernel) ?_); conv => whnf) | fail)
    refine Run.inline 901 Tryd.f26 _ 20 rfl rfl Tryd.func26 rfl (by decide) rfl (by decide) rfl rfl (fun a2 hsz2 hdf2 => ?_)
    refine Run.go ?_; (conv => whnf); repeat' (first | ((with_reducible refine Know.mk fun _ => ?_); conv => whnf) | ((with_reducible refine Need.mk ?_ ?_); exact nd; conv => whnf) | ((with_reducible first | refine Both.mk ?_ ?_ | refine Any.mk fun b hb => ?_ | refine AskB.dec (fun hb => ?_) (fun hb => ?_) | refine AskB.ndec (fun hb => ?_) (fun hb => ?_) | refine AskB.mk (fun hb => ?_) (fun hb => ?_)) <;> conv => whnf) | ((with_reducible first | refine Run.drawX rfl (by decide +kernel) ?_ | refine Run.drawT rfl (by decide +kernel) ?_ | refine Run.drawW rfl (by decide +kernel) ?_); conv => whnf) | fail)
    refine Run.back 901 (ts := []) hsz2 hdf2 (.inl rfl) (by rfl) Tryd.func26 rfl ?_
    refine Run.go ?_; (conv => whnf); repeat' (first | ((with_reducible refine Know.mk fun _ => ?_); conv => whnf) | ((with_reducible refine Need.mk ?_ ?_); exact nd; conv => whnf) | ((with_reducible first | refine Both.mk ?_ ?_ | refine Any.mk fun b hb => ?_ | refine AskB.dec (fun hb => ?_) (fun hb => ?_) | refine AskB.ndec (fun hb => ?_) (fun hb => ?_) | refine AskB.mk (fun hb => ?_) (fun hb => ?_)) <;> conv => whnf) | ((with_reducible first | refine Run.drawX rfl (by decide +kernel) ?_ | refine Run.drawT rfl (by decide +kernel) ?_ | refine Run.drawW rfl (by decide +kernel) ?_); conv => whnf) | fail)
    refine Run.back 900 (ts := [4, 5]) hsz hdf (.inr ⟨_, rfl⟩) (by rfl) Tryd.func14 rfl ?_
    refine Run.holdBoxRow 5 1 90 14 (by rfl) (by rfl) (by rfl) rfl rfl rfl ?_
    refine fin _ _ _ (fun i => rfl) (fun id e5 e90 e14 e901 e900 => ?_) (MOle.refl _) (bytesG_join 5 t s)
    simp only [upd, scrubH, scrubM, bldr, e5, e90, e14, e901, e900, cond_false]
theorem bs5 {N : Nat} {w0 : World} {S : Nat → Prop} {gl : GlobOk S w0} {f : FuncId} {R : Ending → World → Prop} {kp : Kept} {ops : Array Oper} {i : Nat} {rest : List Nat} {k : List Item} {env : Env} {h : Heap} {o : Oper} {x : Operand}
    (p : AV) (t : ByteArray) (ho : ops.toList[i]? = some o) (hc : calls? o = some (17, [x])) (hd : okD ⟨Tryd.prog, TB, tbOk, N, w0, S, gl, f, R, kp⟩ o.dst = true) (hr : ready env ops o = true) (hx : ev (scrubE 900 env) x = .box 5 0)
    (next : Run ⟨Tryd.prog, TB, tbOk, N, w0, S, gl, f, R, kp⟩ (.inRegion ops rest :: k) (putE (scrubE 900 env) o.dst (.str t)) (upd (upd (upd (scrubH 900 h) 900 .dead) 5 .dead) 90 .dead)) :
    Run ⟨Tryd.prog, TB, tbOk, N, w0, S, gl, f, R, kp⟩ (.inRegion ops (i :: rest) :: k) env (bldr 50 5 5 90 h p t) := by
  refine Run.inline 900 Tryd.f17 _ 14 ho hc Tryd.func17 rfl (by decide) rfl (by show 1 ≤ 14; decide) hd hr (fun a hsz hdf => ?_)
  simp only [List.map, hx]
  have fin : ∀ (H : Heap), (∀ id, Nat.beq id 5 = false → Nat.beq id 90 = false → Nat.beq id 900 = false → H id = scrubM 900 (h id)) →
      Run ⟨Tryd.prog, TB, tbOk, N, w0, S, gl, f, R, kp⟩ (.inRegion ops rest :: k) (putE (scrubE 900 env) o.dst (.str t)) H := by
    intro H hH
    refine Run.weaken (fun i => Le.refl _) (fun id => ?_) next
    cases e5 : Nat.beq id 5 with
    | true => simp only [upd, e5, cond_true, cond_false]; cases Nat.beq id 90 <;> exact mole_dead _
    | false =>
    cases e90 : Nat.beq id 90 with
    | true => simp only [upd, e5, e90, cond_true, cond_false]; exact mole_dead _
    | false =>
    cases e900 : Nat.beq id 900 with
    | true => simp only [upd, e5, e90, e900, cond_true, cond_false]; exact mole_dead _
    | false =>
      rw [hH id e5 e90 e900]
      simp only [upd, e5, e90, e900, cond_true, cond_false]
      exact MOle.refl _
  refine Run.go ?_; (conv => whnf); repeat' (first | ((with_reducible refine Know.mk fun _ => ?_); conv => whnf) | ((with_reducible refine Need.mk ?_ ?_); exact nd; conv => whnf) | ((with_reducible first | refine Both.mk ?_ ?_ | refine Any.mk fun b hb => ?_ | refine AskB.dec (fun hb => ?_) (fun hb => ?_) | refine AskB.ndec (fun hb => ?_) (fun hb => ?_) | refine AskB.mk (fun hb => ?_) (fun hb => ?_)) <;> conv => whnf) | ((with_reducible first | refine Run.drawX rfl (by decide +kernel) ?_ | refine Run.drawT rfl (by decide +kernel) ?_ | refine Run.drawW rfl (by decide +kernel) ?_); conv => whnf) | fail)
  · refine Run.unsafeString0 (i := 10) (rest := [11]) (k := [.code .ret]) (x := .tmp 7) (y := .tmp 12) (c := ⟨.builtin .unsafeString, #[.tmp 7, .tmp 12], #[75, 3]⟩) rfl rfl rfl rfl rfl rfl rfl (.inl rfl) (by show AV.int .i64 (t.size : Int) = _; rw [hb]; rfl) ?_
    have ht : t = .empty := by simpa using hb
    refine Run.go ?_; (conv => whnf); repeat' (first | ((with_reducible refine Know.mk fun _ => ?_); conv => whnf) | ((with_reducible refine Need.mk ?_ ?_); exact nd; conv => whnf) | ((with_reducible first | refine Both.mk ?_ ?_ | refine Any.mk fun b hb => ?_ | refine AskB.dec (fun hb => ?_) (fun hb => ?_) | refine AskB.ndec (fun hb => ?_) (fun hb => ?_) | refine AskB.mk (fun hb => ?_) (fun hb => ?_)) <;> conv => whnf) | ((with_reducible first | refine Run.drawX rfl (by decide +kernel) ?_ | refine Run.drawT rfl (by decide +kernel) ?_ | refine Run.drawW rfl (by decide +kernel) ?_); conv => whnf) | fail)
    refine Run.back 900 (ts := [2]) hsz hdf (.inr ⟨_, rfl⟩) (by rfl) Tryd.func17 rfl ?_
    rw [ht] at fin next ⊢
    exact fin _ (fun id e5 e90 e900 => by simp only [upd, scrubH, bldr, e5, e90, e900, cond_false])
  · refine Run.unsafeString (i := 10) (rest := [11]) (k := [.code .ret]) (x := .tmp 7) (y := .tmp 12) (c := ⟨.builtin .unsafeString, #[.tmp 7, .tmp 12], #[75, 3]⟩) t rfl rfl rfl rfl rfl rfl rfl rfl rfl (e := 5) (n := t.size) (q := 90) (get := bytesG t) rfl rfl hb (fun _ _ => rfl) (by kernel_rfl) (by kernel_rfl) ?_
    refine Run.go ?_; (conv => whnf); repeat' (first | ((with_reducible refine Know.mk fun _ => ?_); conv => whnf) | ((with_reducible refine Need.mk ?_ ?_); exact nd; conv => whnf) | ((with_reducible first | refine Both.mk ?_ ?_ | refine Any.mk fun b hb => ?_ | refine AskB.dec (fun hb => ?_) (fun hb => ?_) | refine AskB.ndec (fun hb => ?_) (fun hb => ?_) | refine AskB.mk (fun hb => ?_) (fun hb => ?_)) <;> conv => whnf) | ((with_reducible first | refine Run.drawX rfl (by decide +kernel) ?_ | refine Run.drawT rfl (by decide +kernel) ?_ | refine Run.drawW rfl (by decide +kernel) ?_); conv => whnf) | fail)
    refine Run.back 900 (ts := [2]) hsz hdf (.inr ⟨_, rfl⟩) (by rfl) Tryd.func17 rfl ?_
    exact fin _ (fun id e5 e90 e900 => by simp only [upd, scrubH, bldr, e5, e90, e900, cond_false])
theorem catW_app : ∀ (a b : List Wrd), catW (a ++ b) = catW a ++ catW b
  | [], b => by simp [catW]
  | w :: a, b => by simp [catW, catW_app a b, ByteArray.append_assoc]
theorem catW_take (l : List Wrd) (i : Nat) (h : i < l.length) : catW (l.take (i + 1)) = catW (l.take i) ++ ((l.getD i tWrd.z).text ++ (l.getD i tWrd.z).tail) := by
  rw [List.take_succ_eq_append_getElem h, catW_app, List.getD, List.getElem?_eq_getElem h]
  simp [catW]
theorem catW_takeLe (l : List Wrd) (i : Nat) : (catW (l.take i)).size ≤ (catW l).size := by
  conv => rhs; rw [← List.take_append_drop i l, catW_app, ByteArray.size_append]
  omega
theorem join18_fn (s : ByteArray) (l : List Wrd) (hl : l.length ≤ 1000000000) (hs : s.size + (catW l).size ≤ 1000000000000) : Fn Tryd.prog 54 [.str s, tWrd.L l] (.str (s ++ catW l)) := by
  refine Fn.of Tryd.f54 _ Tryd.func54 rfl (by decide) (by show 2 ≤ _; decide) tbOk 24 rfl fun S w0 gl => ?_
  refine Run.go ?_; (conv => whnf); repeat' (first | ((with_reducible refine Know.mk fun _ => ?_); conv => whnf) | ((with_reducible refine Need.mk ?_ ?_); exact nd; conv => whnf) | ((with_reducible first | refine Both.mk ?_ ?_ | refine Any.mk fun b hb => ?_ | refine AskB.dec (fun hb => ?_) (fun hb => ?_) | refine AskB.ndec (fun hb => ?_) (fun hb => ?_) | refine AskB.mk (fun hb => ?_) (fun hb => ?_)) <;> conv => whnf) | ((with_reducible first | refine Run.drawX rfl (by decide +kernel) ?_ | refine Run.drawT rfl (by decide +kernel) ?_ | refine Run.drawW rfl (by decide +kernel) ?_); conv => whnf) | fail)
  refine Run.holdBoxNil 5 1 90 5 1 (bytesG .empty) rfl rfl rfl rfl ?_
  refine Run.bldr 50 5 5 90 .nilp .empty (MOle.refl _) (MOle.refl _) ?_
  refine ws5 .nilp .empty s rfl rfl rfl rfl rfl rfl (by simp; omega) (.inl rfl) ?_
  refine Run.go ?_; (conv => whnf); repeat' (first | ((with_reducible refine Know.mk fun _ => ?_); conv => whnf) | ((with_reducible refine Need.mk ?_ ?_); exact nd; conv => whnf) | ((with_reducible first | refine Both.mk ?_ ?_ | refine Any.mk fun b hb => ?_ | refine AskB.dec (fun hb => ?_) (fun hb => ?_) | refine AskB.ndec (fun hb => ?_) (fun hb => ?_) | refine AskB.mk (fun hb => ?_) (fun hb => ?_)) <;> conv => whnf) | ((with_reducible first | refine Run.drawX rfl (by decide +kernel) ?_ | refine Run.drawT rfl (by decide +kernel) ?_ | refine Run.drawW rfl (by decide +kernel) ?_); conv => whnf) | fail)
  have hT : ∀ i, (s ++ catW (l.take i)).size ≤ 1000000000000 := fun i => by
    have h1 := catW_takeLe l i
    rw [ByteArray.size_append]; omega
  refine Run.loop [5, 10, 11] (fun (i : Nat) => [(12, .int .i64 (i : Int))]) (fun i => [(5, .box 50 [.box 5 0, .row 90]), (90, .row 5 1 (s ++ catW (l.take i)).size (bytesG (s ++ catW (l.take i))))]) (fun i => i ≤ l.length) (fun i => l.length - i) 0 (Nat.zero_le _) ⟨Le.refl _, trivial⟩ ⟨MOle.refl _, ?_, trivial⟩ ?_
  · have : ByteArray.empty ++ s = s ++ catW (l.take 0) := by simp [catW]
    rw [← this]; exact MOle.refl _
  intro i hi IH
  have hw1 : IntKind.i64.wrap ((i : Int) + 1) = ((i + 1 : Nat) : Int) := wrap64 (by omega) (by omega)
  have hTi := hT i
  refine Run.go ?_; (conv => whnf); repeat' (first | ((with_reducible refine Know.mk fun _ => ?_); conv => whnf) | ((with_reducible refine Need.mk ?_ ?_); exact nd; conv => whnf) | ((with_reducible first | refine Both.mk ?_ ?_ | refine Any.mk fun b hb => ?_ | refine AskB.dec (fun hb => ?_) (fun hb => ?_) | refine AskB.ndec (fun hb => ?_) (fun hb => ?_) | refine AskB.mk (fun hb => ?_) (fun hb => ?_)) <;> conv => whnf) | ((with_reducible first | refine Run.drawX rfl (by decide +kernel) ?_ | refine Run.drawT rfl (by decide +kernel) ?_ | refine Run.drawW rfl (by decide +kernel) ?_); conv => whnf) | fail)
  · have hil : i < l.length := by omega
    have hwi : (l.getD i tWrd.z).text.size + (l.getD i tWrd.z).tail.size ≤ 1000000000000 := by
      have h1 := catW_takeLe l (i + 1)
      rw [catW_take l i hil, ByteArray.size_append, ByteArray.size_append] at h1
      omega
    refine Run.bldr 50 5 5 90 (.box 5 0) (s ++ catW (l.take i)) (MOle.refl _) (MOle.refl _) ?_
    refine ws5 (.box 5 0) _ (l.getD i tWrd.z).text rfl rfl rfl rfl rfl rfl (by omega) (.inr rfl) ?_
    refine Run.tidy [5, 7, 10, 11, 12] [5, 7, 90] ?_; (conv => whnf)
    refine Run.go ?_; (conv => whnf); repeat' (first | ((with_reducible refine Know.mk fun _ => ?_); conv => whnf) | ((with_reducible refine Need.mk ?_ ?_); exact nd; conv => whnf) | ((with_reducible first | refine Both.mk ?_ ?_ | refine Any.mk fun b hb => ?_ | refine AskB.dec (fun hb => ?_) (fun hb => ?_) | refine AskB.ndec (fun hb => ?_) (fun hb => ?_) | refine AskB.mk (fun hb => ?_) (fun hb => ?_)) <;> conv => whnf) | ((with_reducible first | refine Run.drawX rfl (by decide +kernel) ?_ | refine Run.drawT rfl (by decide +kernel) ?_ | refine Run.drawW rfl (by decide +kernel) ?_); conv => whnf) | fail)
    refine Run.bldr 50 5 5 90 (.box 5 0) (s ++ catW (l.take i) ++ (l.getD i tWrd.z).text) (MOle.refl _) (MOle.refl _) ?_
    refine ws5 (.box 5 0) _ (l.getD i tWrd.z).tail rfl rfl rfl rfl rfl rfl (by rw [ByteArray.size_append]; omega) (.inr rfl) ?_
    refine Run.tidy [5, 10, 11, 12] [5, 90] ?_; (conv => whnf)
    refine Run.go ?_; (conv => whnf); repeat' (first | ((with_reducible refine Know.mk fun _ => ?_); conv => whnf) | ((with_reducible refine Need.mk ?_ ?_); exact nd; conv => whnf) | ((with_reducible first | refine Both.mk ?_ ?_ | refine Any.mk fun b hb => ?_ | refine AskB.dec (fun hb => ?_) (fun hb => ?_) | refine AskB.ndec (fun hb => ?_) (fun hb => ?_) | refine AskB.mk (fun hb => ?_) (fun hb => ?_)) <;> conv => whnf) | ((with_reducible first | refine Run.drawX rfl (by decide +kernel) ?_ | refine Run.drawT rfl (by decide +kernel) ?_ | refine Run.drawW rfl (by decide +kernel) ?_); conv => whnf) | fail)
    refine Run.to _ _ ?_ ?_ (IH (i + 1) (by omega) (by omega))
    · exact ⟨Le.refl _, Le.refl _, Le.refl _, Le.int hw1, trivial⟩
    · refine ⟨MOle.refl _, ?_, trivial⟩
      rw [catW_take l i hil]
      simp only [← ByteArray.append_assoc]
      exact MOle.refl _
  · have hie : i = l.length := by omega
    subst hie
    refine Run.bldr 50 5 5 90 (.box 5 0) (s ++ catW (l.take l.length)) (MOle.refl _) (MOle.refl _) ?_
    refine bs5 (.box 5 0) _ rfl rfl rfl rfl rfl ?_
    refine Run.go ?_; (conv => whnf); repeat' (first | ((with_reducible refine Know.mk fun _ => ?_); conv => whnf) | ((with_reducible refine Need.mk ?_ ?_); exact nd; conv => whnf) | ((with_reducible first | refine Both.mk ?_ ?_ | refine Any.mk fun b hb => ?_ | refine AskB.dec (fun hb => ?_) (fun hb => ?_) | refine AskB.ndec (fun hb => ?_) (fun hb => ?_) | refine AskB.mk (fun hb => ?_) (fun hb => ?_)) <;> conv => whnf) | ((with_reducible first | refine Run.drawX rfl (by decide +kernel) ?_ | refine Run.drawT rfl (by decide +kernel) ?_ | refine Run.drawW rfl (by decide +kernel) ?_); conv => whnf) | fail)
    refine Run.leave (ts := [4]) (.inr ⟨_, rfl⟩) rfl Tryd.func54 rfl (Le.str ?_)
    rw [List.take_length]
end Go.Proofs.YteklnpgiloebcaaDoor.V

namespace Go.Proofs.YteklnpgiloebcaaDoor.V
set_option linter.unusedVariables false
set_option linter.unusedSimpArgs false
open Go Go.Proofs Go.RowKit
set_option maxRecDepth 100000
set_option maxHeartbeats 2000000
open Go Go.Proofs Go.Proofs.YteklnpgiloebcaaDoor.V
theorem equal35_fn (a b : List Wrd) (ha : a.length ≤ 100000) : Fn Tryd.prog 55 [tWrd.L a, tWrd.L b] (.bool (decide (a = b))) := by
  refine Fn.of Tryd.f55 _ Tryd.func55 rfl (by decide) (by show 2 ≤ _; decide) tbOk 26 rfl fun S w0 gl => ?_
  refine Run.go ?_; (conv => whnf); repeat' (first | ((with_reducible refine Know.mk fun _ => ?_); conv => whnf) | ((with_reducible refine Need.mk ?_ ?_); exact nd; conv => whnf) | ((with_reducible first | refine Both.mk ?_ ?_ | refine Any.mk fun b hb => ?_ | refine AskB.dec (fun hb => ?_) (fun hb => ?_) | refine AskB.ndec (fun hb => ?_) (fun hb => ?_) | refine AskB.mk (fun hb => ?_) (fun hb => ?_)) <;> conv => whnf) | ((with_reducible first | refine Run.drawX rfl (by decide +kernel) ?_ | refine Run.drawT rfl (by decide +kernel) ?_ | refine Run.drawW rfl (by decide +kernel) ?_); conv => whnf) | fail)
  · have hab : a.length = b.length := by omega
    refine Run.loop [0, 1, 12] (fun (i : Nat) => [(13, .int .i64 (i : Int))]) (fun i => []) (fun i => i ≤ a.length ∧ a.take i = b.take i) (fun i => a.length - i) 0 ⟨Nat.zero_le _, rfl⟩ ⟨Le.refl _, trivial⟩ trivial ?_
    intro i ⟨hi, hc⟩ IH
    have hw : IntKind.i64.wrap ((i : Int) + 1) = ((i + 1 : Nat) : Int) := wrap64 (by omega) (by omega)
    have hat : i < a.length → a.take (i + 1) = a.take i ++ [a.getD i tWrd.z] ∧ b.take (i + 1) = b.take i ++ [b.getD i tWrd.z] := fun h => by
      rw [List.take_succ_eq_append_getElem h, List.take_succ_eq_append_getElem (hab ▸ h), List.getD, List.getD, List.getElem?_eq_getElem h, List.getElem?_eq_getElem (hab ▸ h)]
      exact ⟨rfl, rfl⟩
    refine Run.go ?_; (conv => whnf); repeat' (first | ((with_reducible refine Know.mk fun _ => ?_); conv => whnf) | ((with_reducible refine Need.mk ?_ ?_); exact nd; conv => whnf) | ((with_reducible first | refine Both.mk ?_ ?_ | refine Any.mk fun b hb => ?_ | refine AskB.dec (fun hb => ?_) (fun hb => ?_) | refine AskB.ndec (fun hb => ?_) (fun hb => ?_) | refine AskB.mk (fun hb => ?_) (fun hb => ?_)) <;> conv => whnf) | ((with_reducible first | refine Run.drawX rfl (by decide +kernel) ?_ | refine Run.drawT rfl (by decide +kernel) ?_ | refine Run.drawW rfl (by decide +kernel) ?_); conv => whnf) | fail)
    · refine Run.leave (ts := [4]) (.inr ⟨_, rfl⟩) rfl Tryd.func55 rfl (Le.ff.trans (Le.bool (decide_eq_false (fun h => ?_)).symm))
      subst h
      simp at hb
    · have hil : i < a.length := by omega
      obtain ⟨t1, t2⟩ := hat hil
      have he : a.getD i tWrd.z = b.getD i tWrd.z := by
        have hb2 : (decide ((a.getD i tWrd.z).text = (b.getD i tWrd.z).text) && (decide ((a.getD i tWrd.z).tail = (b.getD i tWrd.z).tail) && true)) = true := by simpa using hb
        simp only [Bool.and_eq_true, decide_eq_true_eq] at hb2
        generalize a.getD i tWrd.z = x at *
        generalize b.getD i tWrd.z = y at *
        obtain ⟨x1, x2⟩ := x
        obtain ⟨y1, y2⟩ := y
        simp only at hb2
        rw [hb2.1, hb2.2.1]
      refine Run.to _ _ ?_ ?_ (IH (i + 1) (by omega) ⟨by omega, ?_⟩)
      · exact ⟨Le.refl _, Le.refl _, Le.refl _, Le.int hw, trivial⟩
      · exact trivial
      · rw [t1, t2, hc, he]
    · have hie : i = a.length := by omega
      refine Run.leave (ts := [4]) (.inr ⟨_, rfl⟩) rfl Tryd.func55 rfl (Le.tt.trans (Le.bool (decide_eq_true ?_).symm))
      rw [hie, List.take_length, hab, List.take_length] at hc
      exact hc
  · refine Run.leave (ts := [4]) (.inr ⟨_, rfl⟩) rfl Tryd.func55 rfl (Le.ff.trans (Le.bool (decide_eq_false (fun h => ?_)).symm))
    rw [h] at hb; exact hb rfl

/-- What Right answers. -/
noncomputable def rightB (hd : ByteArray) (l : List Wrd) : Bool := decide (wordsOf (hd ++ catW l) = ((hd, l), 0))
def FitW (hd : ByteArray) (l : List Wrd) : Prop := l.length ≤ 1000000000 ∧ hd.size + (catW l).size ≤ 1000000000000
theorem right19_fn (hd : ByteArray) (l : List Wrd) (hf : FitW hd l) : Fn Tryd.prog 40 [.str hd, tWrd.L l] (.bool (rightB hd l)) := by
  refine Fn.of Tryd.f40 _ Tryd.func40 rfl (by decide) (by show 2 ≤ _; decide) tbOk 28 rfl fun S w0 gl => ?_
  refine Run.go ?_; (conv => whnf); repeat' (first | ((with_reducible refine Know.mk fun _ => ?_); conv => whnf) | ((with_reducible refine Need.mk ?_ ?_); exact nd; conv => whnf) | ((with_reducible first | refine Both.mk ?_ ?_ | refine Any.mk fun b hb => ?_ | refine AskB.dec (fun hb => ?_) (fun hb => ?_) | refine AskB.ndec (fun hb => ?_) (fun hb => ?_) | refine AskB.mk (fun hb => ?_) (fun hb => ?_)) <;> conv => whnf) | ((with_reducible first | refine Run.drawX rfl (by decide +kernel) ?_ | refine Run.drawT rfl (by decide +kernel) ?_ | refine Run.drawW rfl (by decide +kernel) ?_); conv => whnf) | fail)
  refine Run.callBX (join18_fn hd l hf.1 hf.2) rfl rfl ⟨Le.refl _, Le.refl _, trivial⟩ rfl rfl rfl ?_
  (conv => whnf); repeat' (first | ((with_reducible refine Know.mk fun _ => ?_); conv => whnf) | ((with_reducible refine Need.mk ?_ ?_); exact nd; conv => whnf) | ((with_reducible first | refine Both.mk ?_ ?_ | refine Any.mk fun b hb => ?_ | refine AskB.dec (fun hb => ?_) (fun hb => ?_) | refine AskB.ndec (fun hb => ?_) (fun hb => ?_) | refine AskB.mk (fun hb => ?_) (fun hb => ?_)) <;> conv => whnf) | ((with_reducible first | refine Run.drawX rfl (by decide +kernel) ?_ | refine Run.drawT rfl (by decide +kernel) ?_ | refine Run.drawW rfl (by decide +kernel) ?_); conv => whnf) | fail)
  refine Run.callBX (words15_fn (hd ++ catW l)) rfl rfl ⟨Le.refl _, trivial⟩ rfl rfl rfl ?_
  have hfew := wordsOf_few (hd ++ catW l)
  unfold rightB
  unfold wordsL
  generalize wordsOf (hd ++ catW l) = W at *
  (conv => whnf); repeat' (first | ((with_reducible refine Know.mk fun _ => ?_); conv => whnf) | ((with_reducible refine Need.mk ?_ ?_); exact nd; conv => whnf) | ((with_reducible first | refine Both.mk ?_ ?_ | refine Any.mk fun b hb => ?_ | refine AskB.dec (fun hb => ?_) (fun hb => ?_) | refine AskB.ndec (fun hb => ?_) (fun hb => ?_) | refine AskB.mk (fun hb => ?_) (fun hb => ?_)) <;> conv => whnf) | ((with_reducible first | refine Run.drawX rfl (by decide +kernel) ?_ | refine Run.drawT rfl (by decide +kernel) ?_ | refine Run.drawW rfl (by decide +kernel) ?_); conv => whnf) | fail)
  · refine Run.callBX (equal35_fn W.1.2 l (by omega)) rfl rfl ⟨Le.refl _, Le.refl _, trivial⟩ rfl rfl rfl ?_
    (conv => whnf); repeat' (first | ((with_reducible refine Know.mk fun _ => ?_); conv => whnf) | ((with_reducible refine Need.mk ?_ ?_); exact nd; conv => whnf) | ((with_reducible first | refine Both.mk ?_ ?_ | refine Any.mk fun b hb => ?_ | refine AskB.dec (fun hb => ?_) (fun hb => ?_) | refine AskB.ndec (fun hb => ?_) (fun hb => ?_) | refine AskB.mk (fun hb => ?_) (fun hb => ?_)) <;> conv => whnf) | ((with_reducible first | refine Run.drawX rfl (by decide +kernel) ?_ | refine Run.drawT rfl (by decide +kernel) ?_ | refine Run.drawW rfl (by decide +kernel) ?_); conv => whnf) | fail)
    refine Run.leave (ts := [4]) (.inr ⟨_, rfl⟩) rfl Tryd.func40 rfl (Le.bool ?_)
    obtain ⟨⟨w1, w2⟩, w3⟩ := W
    simp only at hb
    have h3 : w3 = 0 := by assumption
    have h1 : w1 = hd := by assumption
    subst h3; subst h1; simp
  all_goals
    refine Run.leave (ts := [4]) (.inr ⟨_, rfl⟩) rfl Tryd.func40 rfl (Le.ff.trans (Le.bool ?_))
    symm
    refine decide_eq_false (fun e => ?_)
    subst e
    first | exact absurd rfl hb | exact absurd rfl ‹_›
end Go.Proofs.YteklnpgiloebcaaDoor.V

namespace Go.Proofs.YteklnpgiloebcaaDoor.V
set_option linter.unusedVariables false
set_option linter.unusedSimpArgs false
open Go Go.Proofs Go.RowKit
structure Wit where
  name : ByteArray
  head : ByteArray
  words : List Wrd
def wit0 : Wit := ⟨.empty, .empty, []⟩
def tWit : Ty Wit := ⟨3, fun w j => match j with | 0 => .str w.name | 1 => .str w.head | _ => tWrd.L w.words, wit0⟩
structure Tab where
  wits : List Wit
  cols : List (List Int)
def tIL : Ty (List Int) := tL tI
def tabG (t : Tab) : Nat → AV := fun j => match j with | 0 => tWit.L t.wits | _ => tIL.L t.cols
def tbA (t : Tab) : AV := .agg 2 (tabG t)
def alnum (b : Int) : Prop := (65 ≤ b ∧ b ≤ 90) ∨ (97 ≤ b ∧ b ≤ 122) ∨ (48 ≤ b ∧ b ≤ 57)
def NameOk (s : ByteArray) : Prop := 1 ≤ s.size ∧ s.size ≤ 8 ∧ ∀ i, i < s.size → alnum (bt s i)
instance (b : Int) : Decidable (alnum b) := by unfold alnum; infer_instance
instance (s : ByteArray) : Decidable (NameOk s) := by unfold NameOk; infer_instance
def atC (t : Tab) (c i : Nat) : Int := (t.cols.getD c []).getD i 0
def witAt (t : Tab) (i : Nat) : Wit := t.wits.getD i wit0
/-- In how many columns a witness has a word. -/
def cnt (cols : List (List Int)) (i : Nat) : Nat := (cols.filter fun l => !decide (l.getD i 0 = -1)).length
def WitOk (t : Tab) (i : Nat) : Prop := NameOk (witAt t i).name ∧ rightB (witAt t i).head (witAt t i).words = true ∧ ∀ k, k < i → (witAt t k).name ≠ (witAt t i).name
def ColOk (t : Tab) (c : Nat) : Prop := (t.cols.getD c []).length = t.wits.length ∧
  (∀ i, i < t.wits.length → atC t c i = -1 ∨ (atC t c i = (cnt (t.cols.take c) i : Nat) ∧ cnt (t.cols.take c) i < (witAt t i).words.length)) ∧ ∃ i, i < t.wits.length ∧ atC t c i ≠ -1
/-- A table. -/
structure OkT (t : Tab) : Prop where
  n1 : 1 ≤ t.wits.length
  n12 : t.wits.length ≤ 12
  nc : t.cols.length ≤ 4096
  wit : ∀ i, i < t.wits.length → WitOk t i
  col : ∀ c, c < t.cols.length → ColOk t c
  all : ∀ i, i < t.wits.length → cnt t.cols i = (witAt t i).words.length
open Classical in
noncomputable def chkT (t : Tab) : Int := if OkT t then 0 else 121
theorem chk_ok {t : Tab} (h : OkT t) : chkT t = 0 := if_pos h
theorem chk_no {t : Tab} (h : ¬ OkT t) : chkT t = 121 := if_neg h
theorem chk_01 (t : Tab) : (OkT t ∧ chkT t = 0) ∨ (¬ OkT t ∧ chkT t = 121) := by
  by_cases h : OkT t
  · exact .inl ⟨h, chk_ok h⟩
  · exact .inr ⟨h, chk_no h⟩
/-- What the walks ask of a table's size. -/
structure FitT (t : Tab) : Prop where
  wits : t.wits.length ≤ 2000000
  cols : t.cols.length ≤ 2000000
  col : ∀ l ∈ t.cols, l.length ≤ 2000000
  name : ∀ w ∈ t.wits, w.name.size ≤ 2000000
  wit : ∀ w ∈ t.wits, FitW w.head w.words ∧ w.words.length ≤ 2000000 ∧ ∀ v ∈ w.words, v.text.size ≤ 134217728
/-! ### sums -/
def sumR (f : Nat → Nat) : Nat → Nat
  | 0 => 0
  | n + 1 => sumR f n + f n
theorem sumR_congr {f g : Nat → Nat} : ∀ n, (∀ i, i < n → f i = g i) → sumR f n = sumR g n
  | 0, _ => rfl
  | n + 1, h => by simp only [sumR]; rw [sumR_congr n (fun i hi => h i (by omega)), h n (by omega)]
theorem sumR_upd {f g : Nat → Nat} {i d : Nat} : ∀ n, i < n → g i = f i + d → (∀ j, j ≠ i → g j = f j) → sumR g n = sumR f n + d
  | 0, h, _, _ => absurd h (Nat.not_lt_zero _)
  | n + 1, h, h1, h2 => by
    simp only [sumR]
    by_cases e : i = n
    · subst e
      rw [h1, sumR_congr i (fun j hj => h2 j (by omega))]; omega
    · rw [sumR_upd n (by omega) h1 h2, h2 n (by omega)]; omega
theorem sumR_le {f g : Nat → Nat} : ∀ n, (∀ i, i < n → f i ≤ g i) → sumR f n ≤ sumR g n
  | 0, _ => Nat.le_refl _
  | n + 1, h => Nat.add_le_add (sumR_le n (fun i hi => h i (by omega))) (h n (by omega))
theorem sumR_eq {f g : Nat → Nat} : ∀ n, (∀ i, i < n → f i ≤ g i) → sumR g n ≤ sumR f n → ∀ i, i < n → f i = g i
  | 0, _, _, i, hi => absurd hi (Nat.not_lt_zero _)
  | n + 1, h, he, i, hi => by
    have h1 := sumR_le n (fun i hi => h i (by omega))
    have h2 := h n (by omega)
    simp only [sumR] at he
    by_cases e : i = n
    · subst e; omega
    · exact sumR_eq n (fun i hi => h i (by omega)) (by omega) i (by omega)
/-! ### the count of a witness's words, column by column -/
theorem cnt_take (cols : List (List Int)) (c i : Nat) (h : c < cols.length) : cnt (cols.take (c + 1)) i = cnt (cols.take c) i + if (cols.getD c []).getD i 0 = -1 then 0 else 1 := by
  unfold cnt
  rw [take_at cols c [] h, List.filter_append, List.length_append]
  congr 1
  by_cases e : (cols.getD c []).getD i 0 = -1
  · rw [if_pos e, List.filter_cons_of_neg (by rw [decide_eq_true e]; decide)]; rfl
  · rw [if_neg e, List.filter_cons_of_pos (by rw [decide_eq_false e]; rfl)]; rfl
/-- Where the walk through the columns stands: all ahead of c, and of c the cells ahead of i. -/
def nx (t : Tab) (c i j : Nat) : Nat := cnt (t.cols.take (if j < i then c + 1 else c)) j
def nextL (t : Tab) (c i : Nat) : List Int := (List.range t.wits.length).map fun j => ((nx t c i j : Nat) : Int)
theorem nextL_len (t : Tab) (c i : Nat) : (nextL t c i).length = t.wits.length := by simp [nextL]
theorem nextL_at (t : Tab) (c i j : Nat) (h : j < t.wits.length) : (nextL t c i).getD j 0 = (nx t c i j : Nat) := by
  unfold nextL
  rw [List.getD, List.getElem?_map, List.getElem?_range h]; rfl
theorem nx_same (t : Tab) (c i : Nat) : nx t c i i = cnt (t.cols.take c) i := by unfold nx; rw [if_neg (Nat.lt_irrefl _)]
theorem nx_none {t : Tab} {c i : Nat} (hc : c < t.cols.length) (h : atC t c i = -1) (j : Nat) : nx t c (i + 1) j = nx t c i j := by
  unfold nx
  by_cases e : j = i
  · subst e
    rw [if_pos (by omega), if_neg (by omega), cnt_take _ _ _ hc, if_pos (show (t.cols.getD c []).getD j 0 = -1 from h)]; omega
  · by_cases e2 : j < i
    · rw [if_pos (by omega), if_pos e2]
    · rw [if_neg (by omega), if_neg e2]
theorem nx_some {t : Tab} {c i : Nat} (hc : c < t.cols.length) (h : atC t c i ≠ -1) : nx t c (i + 1) i = nx t c i i + 1 ∧ ∀ j, j ≠ i → nx t c (i + 1) j = nx t c i j := by
  unfold nx
  refine ⟨?_, fun j e => ?_⟩
  · rw [if_pos (by omega), if_neg (by omega), cnt_take _ _ _ hc, if_neg (show ¬ (t.cols.getD c []).getD i 0 = -1 from h)]
  · by_cases e2 : j < i
    · rw [if_pos (by omega), if_pos e2]
    · rw [if_neg (by omega), if_neg e2]
theorem nx_end (t : Tab) (c j : Nat) (h : j < t.wits.length) : nx t c t.wits.length j = nx t (c + 1) 0 j := by
  unfold nx
  rw [if_pos h, if_neg (by omega)]
theorem nextL_none {t : Tab} {c i : Nat} (hc : c < t.cols.length) (h : atC t c i = -1) : nextL t c (i + 1) = nextL t c i := by
  unfold nextL
  exact List.map_congr_left (fun j _ => by rw [nx_none hc h])
theorem nextL_some {t : Tab} {c i : Nat} (hc : c < t.cols.length) (hi : i < t.wits.length) (h : atC t c i ≠ -1) : nextL t c (i + 1) = (nextL t c i).set i (((nx t c i i : Nat) : Int) + 1) := by
  obtain ⟨h1, h2⟩ := nx_some hc h
  refine List.ext_getElem? fun j => ?_
  rw [List.getElem?_set]
  unfold nextL
  simp only [List.getElem?_map, List.length_map, List.length_range]
  by_cases e : i = j
  · subst e
    rw [if_pos rfl, if_pos hi, List.getElem?_range hi, Option.map_some, h1]; rfl
  · rw [if_neg e]
    by_cases hj : j < t.wits.length
    · rw [List.getElem?_range hj, Option.map_some, Option.map_some, h2 j (fun e' => e e'.symm)]
    · rw [List.getElem?_eq_none (by simpa using hj)]; rfl
theorem nextL_end (t : Tab) (c : Nat) : nextL t c t.wits.length = nextL t (c + 1) 0 := by
  unfold nextL
  exact List.map_congr_left (fun j hj => by rw [nx_end t c j (by simpa using hj)])
theorem nextL_zero (t : Tab) : nextL t 0 0 = List.replicate t.wits.length 0 := by
  refine List.ext_getElem (by simp [nextL]) fun j k1 k2 => ?_
  simp [nextL, nx, cnt]
def lens (t : Tab) (i : Nat) : Nat := (witAt t i).words.length
def tot (t : Tab) : Nat := sumR (lens t) t.wits.length
def sumN (t : Tab) (c i : Nat) : Nat := sumR (nx t c i) t.wits.length
theorem sumN_none {t : Tab} {c i : Nat} (hc : c < t.cols.length) (h : atC t c i = -1) : sumN t c (i + 1) = sumN t c i := sumR_congr _ (fun j _ => nx_none hc h j)
theorem sumN_some {t : Tab} {c i : Nat} (hc : c < t.cols.length) (hi : i < t.wits.length) (h : atC t c i ≠ -1) : sumN t c (i + 1) = sumN t c i + 1 := sumR_upd _ hi (nx_some hc h).1 (nx_some hc h).2
theorem sumN_end (t : Tab) (c : Nat) : sumN t c t.wits.length = sumN t (c + 1) 0 := sumR_congr _ (fun j hj => nx_end t c j hj)
/-- No more words than there are. -/
def LeT (t : Tab) (c i : Nat) : Prop := ∀ j, j < t.wits.length → nx t c i j ≤ lens t j
theorem le_some {t : Tab} {c i : Nat} (hc : c < t.cols.length) (hl : LeT t c i) (h : atC t c i ≠ -1) (hlt : nx t c i i < lens t i) : LeT t c (i + 1) := fun j hj => by
  by_cases e : j = i
  · subst e; rw [(nx_some hc h).1]; exact hlt
  · rw [(nx_some hc h).2 j e]; exact hl j hj
theorem le_none {t : Tab} {c i : Nat} (hc : c < t.cols.length) (hl : LeT t c i) (h : atC t c i = -1) : LeT t c (i + 1) := fun j hj => by rw [nx_none hc h]; exact hl j hj
theorem le_end {t : Tab} {c : Nat} (hl : LeT t c t.wits.length) : LeT t (c + 1) 0 := fun j hj => by rw [← nx_end t c j hj]; exact hl j hj
theorem le_sum {t : Tab} {c i : Nat} (hl : LeT t c i) : sumN t c i ≤ tot t := sumR_le _ hl
theorem nx_last (t : Tab) (j : Nat) : nx t t.cols.length 0 j = cnt t.cols j := by unfold nx; rw [if_neg (by omega), List.take_length]
theorem all_of {t : Tab} (hl : LeT t t.cols.length 0) (h : tot t ≤ sumN t t.cols.length 0) : ∀ i, i < t.wits.length → cnt t.cols i = (witAt t i).words.length := fun i hi => by
  have := sumR_eq _ hl h i hi
  rw [nx_last] at this; exact this
theorem sum_of {t : Tab} (h : ∀ i, i < t.wits.length → cnt t.cols i = (witAt t i).words.length) : sumN t t.cols.length 0 = tot t := sumR_congr _ (fun j hj => by rw [nx_last]; exact h j hj)
theorem tb_le (t : Tab) {g : Nat → AV} (h0 : Le (g 0) (tWit.L t.wits)) (h1 : Le (g 1) (tIL.L t.cols)) : Le (.agg 2 g) (tbA t) := Le.agg fun j hj => by
  match j, hj with
  | 0, _ => exact h0
  | 1, _ => exact h1
end Go.Proofs.YteklnpgiloebcaaDoor.V

namespace Go.Proofs.YteklnpgiloebcaaDoor.V
set_option linter.unusedVariables false
set_option linter.unusedSimpArgs false
open Go Go.Proofs Go.RowKit
set_option maxRecDepth 100000
theorem bt_get! (s : ByteArray) (i : Nat) : ((s.get! i).toNat : Int) = bt s i := by
  unfold bt
  cases s with | mk a => 
  show ((a[i]!).toNat : Int) = _
  simp only [List.getD_eq_getElem?_getD, Array.getElem?_toList]
  rw [← Array.getD_eq_getD_getElem?]
  rfl
/-- A text of small bytes: its runes are its bytes. -/
theorem dec_ascii {s : ByteArray} {p : Nat} (h : bt s p < 128) : Utf8.decode s p = ((bt s p).toNat, 1) := by
  unfold Utf8.decode
  have e := bt_get! s p
  have h1 : (s.get! p).toNat < 128 := by omega
  simp only [Nat.add_zero, if_pos h1]
  rw [← e]; rfl
end Go.Proofs.YteklnpgiloebcaaDoor.V

namespace Go.Proofs.YteklnpgiloebcaaDoor.V
set_option linter.unusedVariables false
set_option linter.unusedSimpArgs false
open Go Go.Proofs Go.RowKit
set_option maxRecDepth 100000
set_option maxHeartbeats 4000000
/-- A small rune is its byte. -/
theorem dec_small (s : ByteArray) (p : Nat) (h : (Utf8.decode s p).1 < 128) : bt s p = ((Utf8.decode s p).1 : Nat) ∧ (Utf8.decode s p).2 = 1 := by
  have hb := bt_lt s p
  rw [dec_at] at h ⊢
  have k0 := bt_lt s (p + 1)
  rcases Lib.decodeN_shape (s.size - p) (bt s p).toNat (bt s (p + 1)).toNat (bt s (p + 2)).toNat (bt s (p + 3)).toNat with ⟨c, e⟩ | ⟨c1, c2, c3, cv, e⟩ | ⟨c1, c2, c3, c4, cv, cs, e⟩ | ⟨c1, c2, c3, c4, c5, cv, cw, e⟩ | e
  all_goals (rw [e] at h ⊢; simp only at h ⊢)
  · exact ⟨by omega, trivial⟩
  all_goals (exfalso; omega)
theorem named_fn (s : ByteArray) : Fn Tryd.prog 39 [.str s] (.bool (decide (NameOk s))) := by
  refine Fn.of Tryd.f39 _ Tryd.func39 rfl (by decide) (by show 1 ≤ _; decide) tbOk 40 rfl fun S w0 gl => ?_
  have hno : ¬ NameOk s → decide (NameOk s) = false := fun h => decide_eq_false h
  have hz : s.size = 0 ↔ s = ⟨#[]⟩ := ⟨fun h => by
    apply ByteArray.ext
    exact Array.eq_empty_of_size_eq_zero h, fun h => by rw [h]; rfl⟩
  refine Run.go ?_; (conv => whnf); repeat' (first | ((with_reducible refine Know.mk fun _ => ?_); conv => whnf) | ((with_reducible refine Need.mk ?_ ?_); exact nd; conv => whnf) | ((with_reducible first | refine Both.mk ?_ ?_ | refine Any.mk fun b hb => ?_ | refine AskB.dec (fun hb => ?_) (fun hb => ?_) | refine AskB.ndec (fun hb => ?_) (fun hb => ?_) | refine AskB.mk (fun hb => ?_) (fun hb => ?_)) <;> conv => whnf) | ((with_reducible first | refine Run.drawX rfl (by decide +kernel) ?_ | refine Run.drawT rfl (by decide +kernel) ?_ | refine Run.drawW rfl (by decide +kernel) ?_); conv => whnf) | fail)
  · exact Run.leave (ts := [2]) (.inr ⟨_, rfl⟩) rfl Tryd.func39 rfl (Le.ff.trans (Le.bool (hno (fun h => by have := h.1; have := hz.mpr hb; omega)).symm))
  · exact Run.leave (ts := [2]) (.inr ⟨_, rfl⟩) rfl Tryd.func39 rfl (Le.ff.trans (Le.bool (hno (fun h => by have := h.2.1; omega)).symm))
  rename_i hne _
  have hs8 : s.size ≤ 8 := by omega
  have hs1 : 1 ≤ s.size := by
    have := mt hz.mp hne
    omega
  refine Run.loop [0, 13] (fun (p : Nat) => []) (fun p => [(13, .iter s p)]) (fun p => p ≤ s.size ∧ ∀ i, i < p → alnum (bt s i)) (fun p => s.size - p) 0 ⟨Nat.zero_le _, fun i hi => absurd hi (Nat.not_lt_zero _)⟩ trivial ⟨MOle.refl _, trivial⟩ ?_
  intro p ⟨hp, ha⟩ IH
  have hsm := dec_small s p
  show Run _ _ (lst (_ ++ [])) (lstH [(13, .iter s p)])
  refine Run.go ?_; (conv => whnf); repeat' (first | ((with_reducible refine Know.mk fun _ => ?_); conv => whnf) | ((with_reducible refine Need.mk ?_ ?_); exact nd; conv => whnf) | ((with_reducible refine Both.mk ?_ ?_) <;> conv => whnf) | ((with_reducible refine Any.mk fun b hb => ?_); conv => whnf) | ((with_reducible first | refine AskB.dec (fun hb => ?_) (fun hb => ?_) | refine AskB.ndec (fun hb => ?_) (fun hb => ?_) | refine AskB.mk (fun hb => ?_) (fun hb => ?_)) <;> first | (exfalso; omega) | (conv => whnf)) | ((with_reducible first | refine Run.drawX rfl (by decide +kernel) ?_ | refine Run.drawT rfl (by decide +kernel) ?_ | refine Run.drawW rfl (by decide +kernel) ?_); conv => whnf) | fail)
  all_goals try (
    have hps : p < s.size := by omega
    have hr : (Utf8.decode s p).1 < 128 := by omega
    obtain ⟨h1, h2⟩ := hsm hr
    have hal : alnum (bt s p) := by unfold alnum; omega
    refine Run.to _ _ ?_ ?_ (IH (p + 1) (by omega) ⟨by omega, fun i hi => ?_⟩)
    · exact ⟨Le.refl _, Le.refl _, trivial⟩
    · rw [h2]; exact ⟨MOle.refl _, trivial⟩
    · by_cases e : i = p
      · subst e; exact hal
      · exact ha i (by omega))
  all_goals try (
    have hps : p < s.size := by omega
    refine Run.leave (ts := [2]) (.inr ⟨_, rfl⟩) rfl Tryd.func39 rfl (Le.ff.trans (Le.bool (hno (fun h => ?_)).symm))
    have hal := h.2.2 p hps
    have h128 : bt s p < 128 := by unfold alnum at hal; omega
    have hd := dec_ascii h128
    have hbl := bt_lt s p
    have h1 : (((Utf8.decode s p).1 : Nat) : Int) = bt s p := by rw [hd]; simp only []; omega
    unfold alnum at hal
    omega)
  all_goals (
    refine Run.leave (ts := [2]) (.inr ⟨_, rfl⟩) rfl Tryd.func39 rfl (Le.tt.trans (Le.bool (decide_eq_true ⟨hs1, hs8, fun i hi => ha i (by omega)⟩).symm)))
theorem name_fn (s : ByteArray) : Fn Tryd.prog 30 [.str s] (.bool (decide (NameOk s))) := by
  refine Fn.of Tryd.f30 _ Tryd.func30 rfl (by decide) (by show 1 ≤ _; decide) tbOk 45 rfl fun S w0 gl => ?_
  have hno : ¬ NameOk s → decide (NameOk s) = false := fun h => decide_eq_false h
  refine Run.go ?_; (conv => whnf); repeat' (first | ((with_reducible refine Know.mk fun _ => ?_); conv => whnf) | ((with_reducible refine Need.mk ?_ ?_); exact nd; conv => whnf) | ((with_reducible first | refine Both.mk ?_ ?_ | refine Any.mk fun b hb => ?_ | refine AskB.dec (fun hb => ?_) (fun hb => ?_) | refine AskB.ndec (fun hb => ?_) (fun hb => ?_) | refine AskB.mk (fun hb => ?_) (fun hb => ?_)) <;> conv => whnf) | ((with_reducible first | refine Run.drawX rfl (by decide +kernel) ?_ | refine Run.drawT rfl (by decide +kernel) ?_ | refine Run.drawW rfl (by decide +kernel) ?_); conv => whnf) | fail)
  · exact Run.leave (ts := [2]) (.inr ⟨_, rfl⟩) rfl Tryd.func30 rfl (Le.ff.trans (Le.bool (hno (fun h => by have := h.1; omega)).symm))
  · exact Run.leave (ts := [2]) (.inr ⟨_, rfl⟩) rfl Tryd.func30 rfl (Le.ff.trans (Le.bool (hno (fun h => by have := h.2.1; omega)).symm))
  have hs8 : s.size ≤ 8 := by omega
  have hs1 : 1 ≤ s.size := by omega
  refine Run.loop [0] (fun (p : Nat) => [(3, .int .i64 (p : Int))]) (fun p => []) (fun p => p ≤ s.size ∧ ∀ i, i < p → alnum (bt s i)) (fun p => s.size - p) 0 ⟨Nat.zero_le _, fun i hi => absurd hi (Nat.not_lt_zero _)⟩ ⟨Le.refl _, trivial⟩ trivial ?_
  intro p ⟨hp, ha⟩ IH
  have hwp : IntKind.i64.wrap ((p : Int) + 1) = ((p + 1 : Nat) : Int) := wrap64 (by omega) (by omega)
  refine Run.go ?_; (conv => whnf); repeat' (first | ((with_reducible refine Know.mk fun _ => ?_); conv => whnf) | ((with_reducible refine Need.mk ?_ ?_); exact nd; conv => whnf) | ((with_reducible refine Both.mk ?_ ?_) <;> conv => whnf) | ((with_reducible refine Any.mk fun b hb => ?_); conv => whnf) | ((with_reducible first | refine AskB.dec (fun hb => ?_) (fun hb => ?_) | refine AskB.ndec (fun hb => ?_) (fun hb => ?_) | refine AskB.mk (fun hb => ?_) (fun hb => ?_)) <;> first | (exfalso; omega) | (conv => whnf)) | ((with_reducible first | refine Run.drawX rfl (by decide +kernel) ?_ | refine Run.drawT rfl (by decide +kernel) ?_ | refine Run.drawW rfl (by decide +kernel) ?_); conv => whnf) | fail)
  all_goals try (
    have hps : p < s.size := by omega
    have hal : alnum (bt s p) := by unfold alnum; simp only [Int.toNat_natCast] at *; omega
    refine Run.to _ _ ?_ ?_ (IH (p + 1) (by omega) ⟨by omega, fun i hi => ?_⟩)
    · exact ⟨Le.refl _, Le.int hwp, trivial⟩
    · trivial
    · by_cases e : i = p
      · subst e; exact hal
      · exact ha i (by omega))
  all_goals try (
    have hps : p < s.size := by omega
    refine Run.leave (ts := [2]) (.inr ⟨_, rfl⟩) rfl Tryd.func30 rfl (Le.ff.trans (Le.bool (hno (fun h => ?_)).symm))
    have hal := h.2.2 p hps
    unfold alnum at hal
    simp only [Int.toNat_natCast] at *
    omega)
  all_goals (
    refine Run.leave (ts := [2]) (.inr ⟨_, rfl⟩) rfl Tryd.func30 rfl (Le.tt.trans (Le.bool (decide_eq_true ⟨hs1, hs8, fun i hi => ha i (by omega)⟩).symm)))
end Go.Proofs.YteklnpgiloebcaaDoor.V

