/-
The texts MD, Vt, BXo, ME, BWa, BRa, BWb, BRk, BWc, BRe, BWe, of each what the law needs.
-/
import Derived.Test.YteklnpgiloebcaaGreatDoorQAo1
import Derived.Test.YteklnpgiloebcaaGreatDoorRows
import Derived.ProofKit
import Derived.OpenShut
import Derived.ShutString
import Derived.ChangeOld
import Derived.SizedLaws
import Derived.JoinedCond
import Derived.ChangeArms
import Derived.Lib.Builder
import Derived.Laws.Externs
import Derived.Lib.UnsafeStr
import Derived.Lib.BufferRead
import Derived.Lib.Bytealg
import Derived.Laws.Small
import Derived.Laws.IdiomStrings
import Derived.Laws.AppendOwn
import Derived.Lib.TrimU
import Derived.Test.YteklnpgiloebcaaGreatDoorProg
import Derived.Test.YteklnpgiloebcaaGreatDoorCards
import Derived.Test.YteklnpgiloebcaaGreatDoorTie
import Derived.Lib.LaidIn
import Derived.Lib.LaidU8
import Derived.Lay
import Derived.Deep.DeepHandedRow
import Derived.Deep.DeepWitnessRowRef
import Derived.Lib.DecodeN
import Derived.Lib.RuneCountTail
namespace Go.Proofs.YteklnpgiloebcaaGreatDoor.V
set_option linter.unusedVariables false
set_option linter.unusedSimpArgs false
open Go Go.RowKit

/-- A store that turns one object and nothing else. -/
def astoreN (P : TT) (t : TypeId) (x y : AV) (h : Heap) (K : Nat → MO → Prop) (stop : Prop) : Prop :=
  match P.underlying t with
  | some _ => match cellsAV y with
    | some l => (match x with
      | .madr id i sz a b => match h id with
        | .mat e sz0 n get0 o ei szi len get hole => cond (Nat.beq l.length (P.cellsOf t) && Nat.ble (b + l.length) sz && l.all noRef)
            (K id (.mat e sz0 n get0 o ei szi len (updIn get i (updRow (get i) a b l)) hole)) stop
        | _ => stop
      | .box id off => match h id with
        | .box t' l0 => cond (Nat.beq l.length (P.cellsOf t)) (cond (Nat.ble (off + l.length) l0.length) (K id (.box t' (setL l0 off l))) stop) stop
        | _ => stop
      | .radr id sz i j => match h id with
        | .row e sz' n get => cond (Nat.beq l.length (P.cellsOf t)) (cond (Nat.ble (j + l.length) sz && l.all noRef) (K id (.row e sz' n (updRow get i j l))) stop) stop
        | _ => stop
      | _ => stop)
    | none => stop
  | none => stop

/-! ### what is asked of the list itself -/
def hasEdge (o : Oper) (j : Nat) : Bool := o.after.toList.any fun e => Region.binds .any e && Nat.beq e.on j
def drawStatW (ops : Array Oper) : Bool := (List.range ops.size).all fun i => match ops.toList[i]? with
  | none => false
  | some o => (o.after.toList.all fun e => !Region.binds .any e || Nat.blt e.on i) &&
    (((looks ops o).all fun s => (List.range ops.size).all fun j => match dstOf ops j with
      | some d => !(Nat.beq d s) || hasEdge o j
      | none => true) &&
    ((List.range ops.size).all fun j => Nat.beq j i || match dstOf ops j, o.dst with
      | some d, some d' => !(Nat.beq d d')
      | _, _ => true))

/-! ### the walk, in the text's order -/
def isSt (o : Oper) : Option (TypeId × Operand × Operand) := match o.op, o.guard, o.dst with
  | .store t x y, none, none => some (t, x, y)
  | _, _, _ => none
def rdsOf (o : Oper) (env : Env) : List Nat := o.op.operands.toList.flatMap fun y => idOf (ev env y)
def rdsQ (o : Oper) (env : Env) : Option (List Nat) := match calls? o with
  | some _ => none
  | none => some (rdsOf o env)
def clear (id : Nat) : Option (List Nat) → Bool
  | some l => !memL id l
  | none => false
where memL (id : Nat) : List Nat → Bool
  | [] => false
  | x :: l => cond (Nat.beq id x) true (memL id l)
def okS (o : Oper) (id : Nat) (p : Nat × Option (List Nat)) : Bool := cond (hasEdge o p.1) true (clear id p.2)
def okQ (o : Oper) (rd : Option (List Nat)) (s : Nat × Nat) : Bool := cond (hasEdge o s.1) true (clear s.2 rd)

def aqW (C : Ctx) (ops : Array Oper) (k : List Item) : List Oper → Nat → Env → Heap → List (Nat × Option (List Nat)) → List (Nat × Nat) → Prop
  | [], _, env, h, _, _ => aexec C 400 k env h
  | o :: rest, i, env, h, past, sts => match isSt o with
    | some (t, x, y) => fv (ev env x) fun x => fv (ev env y) fun y => astoreN C.T t x y h (fun id m => cond (sts.all (fun s => hasEdge o s.1) && past.all (okS o id)) (aqW C ops k rest (i + 1) env (upd h id m) past ((i, id) :: sts)) False) False
    | none => withDst o fun dst => cond (okD C.N dst) (match o.guard with
      | none => cond (sts.all (okQ o (rdsQ o env))) (aqStep C h o dst env (fun env' => aqW C ops k rest (i + 1) env' h ((i, rdsQ o env) :: past) sts)) False
      | some (j, want) => match dstOf ops j with
        | some d => match env d with
          | .tt => cond want (cond (sts.all (okQ o (rdsQ o env))) (aqStep C h o dst env (fun env' => aqW C ops k rest (i + 1) env' h ((i, rdsQ o env) :: past) sts)) False) (aqW C ops k rest (i + 1) (putE env dst .sk) h ((i, some []) :: past) sts)
          | .ff => cond want (aqW C ops k rest (i + 1) (putE env dst .sk) h ((i, some []) :: past) sts) (cond (sts.all (okQ o (rdsQ o env))) (aqStep C h o dst env (fun env' => aqW C ops k rest (i + 1) env' h ((i, rdsQ o env) :: past) sts)) False)
          | .sk => aqW C ops k rest (i + 1) (putE env dst .sk) h ((i, some []) :: past) sts
          | _ => False
        | none => False) False

/-! ### what the walk says, whatever the order -/
inductive Rec where
  | st (id : Nat)
  | q (rd : Option (List Nat))

def StSem (C : Ctx) (h h' : Heap) (t : TypeId) (x y : Operand) (E : Env) : Prop :=
  ∀ env ι a w, Rel C env h ι a w → VR w (okB C h ι w) (ev E x) (rf h ι) (a.eval x) → VR w (okB C h ι w) (ev E y) (rf h ι) (a.eval y) →
    ∃ w' ι', (Instr.storeAt t (a.eval x) (a.eval y)).run C.P w = .ok () w' ∧ Rel C env h' ι' a w'

def OpW (C : Ctx) (ops : Array Oper) (E : Env) (Hs : Nat → Heap) (rec : Nat → Rec) (j : Nat) : Prop :=
  ∃ o, ops[j]? = some o ∧ match rec j with
    | .st id => o.dst = none ∧ (∃ m, Hs (j + 1) = upd (Hs j) id m) ∧ ∃ t x y, o.op = .store t x y ∧ o.guard = none ∧ StSem C (Hs j) (Hs (j + 1)) t x y E
    | .q rd => okD C.N o.dst = true ∧ Hs (j + 1) = Hs j ∧
      ((GuardSem ops E o true ∧ ∃ x, (∀ h', (∀ id, clear id rd = false → h' id = Hs j id) → Quiet C h' o (ev E) x) ∧ ∀ d, o.dst = some d → Le x (E d)) ∨ (GuardSem ops E o false ∧ ∀ d, o.dst = some d → Le .sk (E d)))

def Pair (o : Oper) (j' : Nat) : Rec → Rec → Bool
  | .st _, .st _ => hasEdge o j'
  | .st id, .q rd => okS o id (j', rd)
  | .q rd, .st id => okQ o rd (j', id)
  | .q _, .q _ => true

section
variable {C : Ctx} {ops : Array Oper}

/-! ### in any order -/
def drawStatWX (ops : Array Oper) : Bool := drawStatW ops && ops.toList.all fun o => !memOp o
end

end Go.Proofs.YteklnpgiloebcaaGreatDoor.V

namespace Go.Proofs.YteklnpgiloebcaaGreatDoor.V
set_option linter.unusedVariables false
set_option linter.unusedSimpArgs false
open Go Go.RowKit

structure Both (p q : Prop) : Prop where
  one : p
  two : q

/-- Does i wait for j, itself or by way of others? -/
def reachB (ops : Array Oper) : Nat → Nat → Nat → Bool
  | 0, _, _ => false
  | f + 1, i, j => match ops.toList[i]? with
    | some o => (o.after.toList.any fun e => Region.binds .any e && Nat.beq e.on j) || o.after.toList.any fun e => Region.binds .any e && reachB ops f e.on j
    | none => false
def Closed (ops : Array Oper) (listed : Array Bool) : Prop := ∀ (i : Nat) o, ops[i]? = some o → listed.getD i false = true → ∀ e ∈ o.after, Region.binds .any e = true → listed.getD e.on false = true
theorem getD_mono {listed : Array Bool} {i j : Nat} (h : listed.getD j false = true) : (listed.setIfInBounds i true).getD j false = true := by
  rw [Array.getD_eq_getD_getElem?] at h ⊢
  rw [Array.getElem?_setIfInBounds]
  split
  · split
    · rfl
    · subst_vars
      rename_i h2
      rw [Array.getElem?_eq_none (by omega)] at h; cases h
  · exact h
theorem Closed.set {ops : Array Oper} {listed : Array Bool} {i : Nat} (hc : Closed ops listed) (hpre : ∀ o, ops[i]? = some o → ∀ e ∈ o.after, Region.binds .any e = true → listed.getD e.on false = true) : Closed ops (listed.setIfInBounds i true) := by
  intro i2 o ho hl e he hb
  by_cases h : i = i2
  · subst h; exact getD_mono (hpre o ho e he hb)
  · refine getD_mono (hc i2 o ho ?_ e he hb)
    rw [Array.getD_eq_getD_getElem?, Array.getElem?_setIfInBounds, if_neg h] at hl
    rw [Array.getD_eq_getD_getElem?]; exact hl
theorem reach_listed {ops : Array Oper} {listed : Array Bool} (hc : Closed ops listed) {j : Nat} : ∀ (f i : Nat), (∀ o, ops[i]? = some o → ∀ e ∈ o.after, Region.binds .any e = true → listed.getD e.on false = true) → reachB ops f i j = true → listed.getD j false = true := by
  intro f
  induction f with
  | zero => intro i _ h; cases h
  | succ f ih =>
    intro i hpre h
    unfold reachB at h
    cases ho : ops.toList[i]? with
    | none => rw [ho] at h; cases h
    | some o =>
      have ho' : ops[i]? = some o := by simpa using ho
      rw [ho] at h
      simp only [Bool.or_eq_true] at h
      rcases h with h | h
      · obtain ⟨e, he, h3⟩ := List.any_eq_true.mp h
        rw [Bool.and_eq_true] at h3
        rw [← Nat.eq_of_beq_eq_true h3.2]
        exact hpre o ho' e (by simpa using he) h3.1
      · obtain ⟨e, he, h3⟩ := List.any_eq_true.mp h
        rw [Bool.and_eq_true] at h3
        have hl := hpre o ho' e (by simpa using he) h3.1
        exact ih e.on (fun o2 ho2 => hc e.on o2 ho2 hl) h3.2

structure Stat2 (ops : Array Oper) (p m : Nat) : Prop where
  le : p < ops.size
  mp : m ≤ p
  edge : ∀ (i : Nat) o, ops[i]? = some o → ∀ e ∈ o.after, Region.binds .any e = true → e.on < i
  look : ∀ (i : Nat) o, i < p → ops[i]? = some o → ∀ s ∈ looks ops o, ∀ j, j < p → dstOf ops j = some s → ∃ e ∈ o.after, Region.binds .any e = true ∧ e.on = j
  one : ∀ i j d, i < p → j < p → dstOf ops i = some d → dstOf ops j = some d → i = j
  tail : ∀ (i : Nat), p ≤ i → i < ops.size → ∀ j, j < i → ¬ (i = p ∧ j = m) → reachB ops 40 i j = true

def drawStat2 (ops : Array Oper) (p m : Nat) : Bool := Nat.blt p ops.size && Nat.ble m p && (List.range ops.size).all fun i => match ops.toList[i]? with
  | none => false
  | some o => (o.after.toList.all fun e => !Region.binds .any e || Nat.blt e.on i) &&
    cond (Nat.blt i p) (!storeOp o && ((looks ops o).all fun s => (List.range p).all fun j => match dstOf ops j with
      | some d => !(Nat.beq d s) || (o.after.toList.any fun e => Region.binds .any e && Nat.beq e.on j)
      | none => true) &&
    ((List.range p).all fun j => Nat.beq j i || match dstOf ops j, o.dst with
      | some d, some d' => !(Nat.beq d d')
      | _, _ => true)) ((List.range i).all fun j => (Nat.beq i p && Nat.beq j m) || reachB ops 40 i j)

theorem Stat2.of {ops : Array Oper} {p m : Nat} (hs : drawStat2 ops p m = true) : Stat2 ops p m := by
  unfold drawStat2 at hs
  rw [Bool.and_eq_true, Bool.and_eq_true] at hs
  obtain ⟨⟨hle, hmp⟩, hs⟩ := hs
  have key : ∀ (i : Nat) o, ops[i]? = some o → (o.after.toList.all fun e => !Region.binds .any e || Nat.blt e.on i) = true ∧
    cond (Nat.blt i p) (!storeOp o && ((looks ops o).all fun s => (List.range p).all fun j => match dstOf ops j with
      | some d => !(Nat.beq d s) || (o.after.toList.any fun e => Region.binds .any e && Nat.beq e.on j)
      | none => true) &&
    ((List.range p).all fun j => Nat.beq j i || match dstOf ops j, o.dst with
      | some d, some d' => !(Nat.beq d d')
      | _, _ => true)) ((List.range i).all fun j => (Nat.beq i p && Nat.beq j m) || reachB ops 40 i j) = true := by
    intro i o ho
    have hi : i < ops.size := (Array.getElem?_eq_some_iff.1 ho).1
    have := List.all_eq_true.mp hs i (List.mem_range.mpr hi)
    have ho' : ops.toList[i]? = some o := by simpa using ho
    rw [ho'] at this
    simpa only [Bool.and_eq_true] using this
  have hlt : ∀ i, i < p → Nat.blt i p = true := fun i hi => by rw [Nat.blt_eq]; exact hi
  refine ⟨by simpa [Nat.blt_eq] using hle, Nat.ble_eq ▸ hmp, ?_, ?_, ?_, ?_⟩
  · intro i o ho e he hb
    have := List.all_eq_true.mp (key i o ho).1 e (by simpa using he)
    rw [hb] at this
    simpa [Nat.blt_eq] using this
  · intro i o hip ho s hs' j hjp hj
    have h0 := (key i o ho).2
    rw [hlt i hip, cond_true, Bool.and_eq_true, Bool.and_eq_true] at h0
    have h1 := List.all_eq_true.mp h0.1.2 s hs'
    have h2 := List.all_eq_true.mp h1 j (List.mem_range.mpr hjp)
    rw [hj] at h2
    simp only [Nat.beq_refl, Bool.not_true, Bool.false_or] at h2
    obtain ⟨e, he, h3⟩ := List.any_eq_true.mp h2
    rw [Bool.and_eq_true] at h3
    exact ⟨e, by simpa using he, h3.1, Nat.eq_of_beq_eq_true h3.2⟩
  · intro i j d hip hjp hi hj
    have hi' := hi
    unfold dstOf at hi'
    cases ho : ops.toList[i]? with
    | none => rw [ho] at hi'; cases hi'
    | some o =>
      rw [ho] at hi'
      have hd : o.dst = some d := hi'
      have h0 := (key i o (by simpa using ho)).2
      rw [hlt i hip, cond_true, Bool.and_eq_true] at h0
      have h1 := List.all_eq_true.mp h0.2 j (List.mem_range.mpr hjp)
      rw [hj, hd] at h1
      simp only [Nat.beq_refl, Bool.not_true, Bool.or_false] at h1
      exact (Nat.eq_of_beq_eq_true h1).symm
  · intro i hip hi j hj hne
    obtain ⟨o, ho⟩ : ∃ o, ops[i]? = some o := ⟨_, Array.getElem?_eq_getElem hi⟩
    have h0 := (key i o ho).2
    have : Nat.blt i p = false := by rw [Bool.eq_false_iff]; intro e; rw [Nat.blt_eq] at e; omega
    rw [this, cond_false] at h0
    have h1 := List.all_eq_true.mp h0 j (List.mem_range.mpr hj)
    rw [Bool.or_eq_true] at h1
    rcases h1 with h1 | h1
    · rw [Bool.and_eq_true] at h1
      exact absurd ⟨Nat.eq_of_beq_eq_true h1.1, Nat.eq_of_beq_eq_true h1.2⟩ hne
    · exact h1

section
variable {C : Ctx} {h : Heap} {ops : Array Oper}

theorem sched_tail2 {p m0 : Nat} (S : Stat2 ops p m0) : ∀ (m q : Nat) (listed : Array Bool) (l : List Nat), m = ops.size - q → p ≤ q → q ≤ ops.size → listed.size = ops.size → (∀ j, j < q → listed.getD j true = true) → (∀ j, q ≤ j → j < ops.size → listed.getD j true = false) →
    Closed ops listed → Sched ops listed l → l = List.range' q (ops.size - q) := by
  intro m
  induction m with
  | zero =>
    intro q listed l hm hpq hqs hsz h1 h2 hcl hs
    have hq : q = ops.size := by omega
    subst hq
    rw [Nat.sub_self]
    cases l with
    | nil => rfl
    | cons i rest => obtain ⟨hi, hil, _⟩ := hs; rw [h1 i hi] at hil; cases hil
  | succ m ih =>
    intro q listed l hm hpq hqs hsz h1 h2 hcl hs
    have hq : q < ops.size := by omega
    cases l with
    | nil => have := hs q hq; rw [h2 q (Nat.le_refl _) hq] at this; cases this
    | cons i rest =>
      obtain ⟨hi, hil, hpre, hs'⟩ := hs
      have hqi : q ≤ i := by
        rcases Nat.lt_or_ge i q with h' | h'
        · rw [h1 i h'] at hil; cases hil
        · exact h'
      have hiq : i = q := by
        rcases Nat.lt_or_ge q i with h' | h'
        · exfalso
          have hmp := S.mp
          have := reach_listed hcl 40 i hpre (S.tail i (by omega) hi q h' (by omega))
          rw [getD_two (b := true) (by omega), h2 q (Nat.le_refl _) hq] at this; cases this
        · omega
      subst hiq
      have e1 : ops.size - i = (ops.size - (i + 1)) + 1 := by omega
      rw [e1, List.range'_succ]
      congr 1
      refine ih (i + 1) (listed.setIfInBounds i true) rest (by omega) (by omega) (by omega) (by simpa using hsz) (fun j hj => ?_) (fun j hj1 hj2 => ?_) (hcl.set hpre) hs'
      · rw [getD_set]
        split
        · rfl
        · exact h1 j (by omega)
      · rw [getD_set, if_neg (by omega)]
        exact h2 j (by omega) hj2

theorem any_ok2 {p m d : Nat} (S : Stat2 ops p m) (hmp : m < p) (hdm : dstOf ops m = some d) {k : List Item} {E : Env} (hall : ∀ j, j < p → OpSem C h ops E j) (next : Run C (.inRegion ops (List.range' p (ops.size - p)) :: k) E h)
    (next2 : Run C (.inRegion ops (p :: m :: List.range' (p + 1) (ops.size - (p + 1))) :: k) (upd E d .u) h) :
    ∀ (l : List Nat) (listed : Array Bool), listed.size = ops.size → (∀ j, p ≤ j → j < ops.size → listed.getD j true = false) → Closed ops listed → Sched ops listed l → Run C (.inRegion ops l :: k) (envX ops p E listed) h := by
  have hple := S.le
  have fin : ∀ (l : List Nat) (listed : Array Bool), listed.size = ops.size → (∀ j, p ≤ j → j < ops.size → listed.getD j true = false) → (∀ j, j < p → listed.getD j true = true) → Closed ops listed → Sched ops listed l → Run C (.inRegion ops l :: k) (envX ops p E listed) h := by
    intro l listed hsz h2 h1 hcl hs
    rw [sched_tail2 S _ p listed l rfl (Nat.le_refl _) (by omega) hsz h1 h2 hcl hs]
    refine Run.weaken (fun s => ?_) (fun _ => MOle.refl _) next
    unfold envX
    rw [unl_false (fun j hj _ => h1 j hj)]
    exact Le.refl _
  intro l
  induction l with
  | nil =>
    intro listed hsz h2 hcl hs
    refine fin [] listed hsz h2 (fun j hj => hs j (by omega)) hcl hs
  | cons i rest ih =>
    intro listed hsz h2 hcl hs
    by_cases hip : p ≤ i
    · have hs0 := hs
      obtain ⟨hi, hil, hpre, hs'⟩ := hs
      have hwait : ∀ j, j < i → ¬ (i = p ∧ j = m) → listed.getD j true = true := fun j hj hne => by
        have := reach_listed hcl 40 i hpre (S.tail i hip hi j hj hne)
        rw [getD_two (b := false) (by omega)]; exact this
      have hpi : i = p := by
        rcases Nat.lt_or_ge p i with h' | h'
        · have := hwait p h' (by omega)
          rw [h2 p (Nat.le_refl _) hple] at this; cases this
        · omega
      subst hpi
      cases hml : listed.getD m true with
      | true =>
        refine fin (i :: rest) listed hsz h2 (fun j hj => ?_) hcl hs0
        by_cases e : j = m
        · subst e; exact hml
        · exact hwait j hj (by omega)
      | false =>
        -- the late one comes next
        have hrest : rest = m :: List.range' (i + 1) (ops.size - (i + 1)) := by
          cases rest with
          | nil =>
            have := hs' m (by omega)
            rw [getD_set, if_neg (by omega), hml] at this; cases this
          | cons i2 rest2 =>
            obtain ⟨hi2, hil2, hpre2, hs2⟩ := hs'
            have hi2m : i2 = m := by
              by_cases e : i2 = m
              · exact e
              · exfalso
                rw [getD_set] at hil2
                by_cases e2 : i = i2
                · rw [if_pos e2] at hil2; cases hil2
                · rw [if_neg e2] at hil2
                  have h3 : i < i2 := by
                    rcases Nat.lt_or_ge i2 i with h' | h'
                    · have := hwait i2 h' (by omega)
                      rw [hil2] at this; cases this
                    · omega
                  have := reach_listed (hcl.set hpre) 40 i2 hpre2 (S.tail i2 (by omega) hi2 m (by omega) (by omega))
                  rw [getD_two (b := true) (by simpa [hsz] using (by omega : m < ops.size)), getD_set, if_neg (by omega), hml] at this; cases this
            subst hi2m
            congr 1
            refine sched_tail2 S _ (i + 1) _ rest2 rfl (by omega) (by omega) (by simpa using hsz) (fun j hj => ?_) (fun j hj1 hj2 => ?_) ((hcl.set hpre).set hpre2) hs2
            · rw [getD_set]
              split
              · rfl
              · rw [getD_set]
                split
                · rfl
                · exact hwait j (by omega) (by omega)
            · rw [getD_set, if_neg (by omega), getD_set, if_neg (by omega)]
              exact h2 j (by omega) hj2
        rw [hrest]
        refine Run.weaken (fun s => ?_) (fun _ => MOle.refl _) next2
        unfold envX
        by_cases hsd : s = d
        · subst hsd
          rw [upd_same]
          exact Le.u _
        · rw [upd_other _ _ hsd, unl_false (fun j hj hjd => ?_)]
          · exact Le.refl _
          · by_cases e : j = m
            · subst e; rw [hdm] at hjd; injection hjd with e2; exact absurd e2.symm hsd
            · exact hwait j hj (by omega)
    have hip : i < p := by omega
    obtain ⟨hi, hil, hpre, hs'⟩ := hs
    obtain ⟨o, ho, hd, hsem⟩ := hall i hip
    have hdsti : dstOf ops i = o.dst := by unfold dstOf; rw [show ops.toList[i]? = some o by simpa using ho]; rfl
    have hlk : ∀ s ∈ looks ops o, envX ops p E listed s = E s := by
      intro s hs2
      unfold envX
      rw [unl_false (fun j hjp hj => ?_)]
      · rfl
      · obtain ⟨e, h1, h2, h3⟩ := S.look i o hip ho s hs2 j hjp hj
        have := hpre o ho e h1 h2
        rw [h3] at this
        have hjl : j < listed.size := by rw [hsz]; exact dstOf_lt hj
        rw [getD_two (b := false) hjl]; exact this
    have hrec := ih (listed.setIfInBounds i true) (by simpa using hsz) (fun j h1 h3 => by rw [getD_set, if_neg (by omega)]; exact h2 j h1 h3) (hcl.set hpre) hs'
    have hw : ∀ (want' : Bool), GuardSem ops E o want' → ∀ ι a w, Rel C (envX ops p E listed) h ι a w → Region.wanted o (yielded ops a.tmps) = want' := by
      intro want' hgs ι a w R
      unfold GuardSem at hgs
      split at hgs
      · rename_i hg; rw [hgs]; exact wanted_none hg _
      · rename_i j want hg
        obtain ⟨d, hj, hbb⟩ := hgs
        have hv := R.env d
        rw [hlk d (looks_guard hg hj)] at hv
        rcases hbb with ⟨b, hb, rfl⟩ | ⟨hb, rfl⟩
        · have hv := hb _ _ _ _ hv
          have hy : yielded ops a.tmps j = some b := by
            have hj' : (ops[j]?).bind (·.dst) = some d := by unfold dstOf at hj; simpa using hj
            unfold yielded
            rw [hj']
            rw [Array.getD_eq_getD_getElem?] at hv
            simp only [Option.bind_some]
            cases hq2 : a.tmps[d]? with
            | none => rw [hq2] at hv; cases hv
            | some u => rw [hq2] at hv; simp only [Option.getD_some] at hv; subst hv; rfl
          exact wanted_some hg hy
        · exact wanted_sk hg (yield_sk hj (hb _ _ _ _ hv))
    have hle : ∀ (x : AV), (∀ d, o.dst = some d → Le x (E d)) → ∀ s, Le (putE (envX ops p E listed) o.dst x s) (envX ops p E (listed.setIfInBounds i true) s) := by
      intro x hx s
      by_cases hsd : o.dst = some s
      · rw [hsd]
        simp only [putE, upd_same]
        unfold envX
        cases unl ops p (listed.setIfInBounds i true) s with
        | true => exact Le.u _
        | false => exact hx s hsd
      · have e1 : putE (envX ops p E listed) o.dst x s = envX ops p E listed s := by
          cases hq : o.dst with
          | none => rfl
          | some d => exact upd_other _ _ (fun e => hsd (by rw [hq, e]))
        rw [e1]
        unfold envX
        cases hu : unl ops p (listed.setIfInBounds i true) s with
        | true => exact Le.u _
        | false =>
          have : unl ops p listed s = false := by
            refine unl_false fun j hjp hj => ?_
            unfold unl at hu
            rw [List.any_eq_false] at hu
            have := hu j (List.mem_range.mpr hjp)
            simp only [hj, beq_self_eq_true, Bool.and_true, Bool.not_eq_true, Bool.not_eq_false'] at this
            rw [getD_set] at this
            by_cases hij : i = j
            · subst hij; exact absurd (hdsti ▸ hj) hsd
            · rwa [if_neg hij] at this
          rw [this]; exact Le.refl _
    rcases hsem with ⟨hgs, x, hq, hx⟩ | ⟨hgs, hx⟩
    · refine Run.of_step fun ι a w b cs _ R => ?_
      obtain ⟨v, w', ι', hst, R', hv⟩ := hq _ ι a w R (fun y hy => by
        have := ev_ok R y
        cases y with
        | tmp s => have e : ev (envX ops p E listed) (.tmp s) = ev E (.tmp s) := hlk s (looks_tmp hy)
                   rw [e] at this; exact this
        | const v => exact this
        | global g => exact this
        | func f => exact this) b k cs ops i rest ho (hw true hgs ι a w R)
      exact ⟨_, h, ι', _, w', _, hst, (R'.put hv hd).weaken (hle x hx) (fun _ => MOle.refl _), hrec⟩
    · exact skip_ok ho hd (hw false hgs) (Run.weaken (hle .sk hx) (fun _ => MOle.refl _) hrec)

theorem any_ok3 {p : Nat} (S : Stat2 ops p p) {k : List Item} {E : Env} (hall : ∀ j, j < p → OpSem C h ops E j) (next : Run C (.inRegion ops (List.range' p (ops.size - p)) :: k) E h) :
    ∀ (l : List Nat) (listed : Array Bool), listed.size = ops.size → (∀ j, p ≤ j → j < ops.size → listed.getD j true = false) → Closed ops listed → Sched ops listed l → Run C (.inRegion ops l :: k) (envX ops p E listed) h := by
  have hple := S.le
  have fin : ∀ (l : List Nat) (listed : Array Bool), listed.size = ops.size → (∀ j, p ≤ j → j < ops.size → listed.getD j true = false) → (∀ j, j < p → listed.getD j true = true) → Closed ops listed → Sched ops listed l → Run C (.inRegion ops l :: k) (envX ops p E listed) h := by
    intro l listed hsz h2 h1 hcl hs
    rw [sched_tail2 S _ p listed l rfl (Nat.le_refl _) (by omega) hsz h1 h2 hcl hs]
    refine Run.weaken (fun s => ?_) (fun _ => MOle.refl _) next
    unfold envX
    rw [unl_false (fun j hj _ => h1 j hj)]
    exact Le.refl _
  intro l
  induction l with
  | nil =>
    intro listed hsz h2 hcl hs
    refine fin [] listed hsz h2 (fun j hj => hs j (by omega)) hcl hs
  | cons i rest ih =>
    intro listed hsz h2 hcl hs
    by_cases hip : p ≤ i
    · have hs0 := hs
      obtain ⟨hi, hil, hpre, hs'⟩ := hs
      have hwait : ∀ j, j < i → listed.getD j true = true := fun j hj => by
        have := reach_listed hcl 40 i hpre (S.tail i hip hi j hj (by omega))
        rw [getD_two (b := false) (by omega)]; exact this
      exact fin (i :: rest) listed hsz h2 (fun j hj => hwait j (by omega)) hcl hs0
    have hip : i < p := by omega
    obtain ⟨hi, hil, hpre, hs'⟩ := hs
    obtain ⟨o, ho, hd, hsem⟩ := hall i hip
    have hdsti : dstOf ops i = o.dst := by unfold dstOf; rw [show ops.toList[i]? = some o by simpa using ho]; rfl
    have hlk : ∀ s ∈ looks ops o, envX ops p E listed s = E s := by
      intro s hs2
      unfold envX
      rw [unl_false (fun j hjp hj => ?_)]
      · rfl
      · obtain ⟨e, h1, h2, h3⟩ := S.look i o hip ho s hs2 j hjp hj
        have := hpre o ho e h1 h2
        rw [h3] at this
        have hjl : j < listed.size := by rw [hsz]; exact dstOf_lt hj
        rw [getD_two (b := false) hjl]; exact this
    have hrec := ih (listed.setIfInBounds i true) (by simpa using hsz) (fun j h1 h3 => by rw [getD_set, if_neg (by omega)]; exact h2 j h1 h3) (hcl.set hpre) hs'
    have hw : ∀ (want' : Bool), GuardSem ops E o want' → ∀ ι a w, Rel C (envX ops p E listed) h ι a w → Region.wanted o (yielded ops a.tmps) = want' := by
      intro want' hgs ι a w R
      unfold GuardSem at hgs
      split at hgs
      · rename_i hg; rw [hgs]; exact wanted_none hg _
      · rename_i j want hg
        obtain ⟨d, hj, hbb⟩ := hgs
        have hv := R.env d
        rw [hlk d (looks_guard hg hj)] at hv
        rcases hbb with ⟨b, hb, rfl⟩ | ⟨hb, rfl⟩
        · have hv := hb _ _ _ _ hv
          have hy : yielded ops a.tmps j = some b := by
            have hj' : (ops[j]?).bind (·.dst) = some d := by unfold dstOf at hj; simpa using hj
            unfold yielded
            rw [hj']
            rw [Array.getD_eq_getD_getElem?] at hv
            simp only [Option.bind_some]
            cases hq2 : a.tmps[d]? with
            | none => rw [hq2] at hv; cases hv
            | some u => rw [hq2] at hv; simp only [Option.getD_some] at hv; subst hv; rfl
          exact wanted_some hg hy
        · exact wanted_sk hg (yield_sk hj (hb _ _ _ _ hv))
    have hle : ∀ (x : AV), (∀ d, o.dst = some d → Le x (E d)) → ∀ s, Le (putE (envX ops p E listed) o.dst x s) (envX ops p E (listed.setIfInBounds i true) s) := by
      intro x hx s
      by_cases hsd : o.dst = some s
      · rw [hsd]
        simp only [putE, upd_same]
        unfold envX
        cases unl ops p (listed.setIfInBounds i true) s with
        | true => exact Le.u _
        | false => exact hx s hsd
      · have e1 : putE (envX ops p E listed) o.dst x s = envX ops p E listed s := by
          cases hq : o.dst with
          | none => rfl
          | some d => exact upd_other _ _ (fun e => hsd (by rw [hq, e]))
        rw [e1]
        unfold envX
        cases hu : unl ops p (listed.setIfInBounds i true) s with
        | true => exact Le.u _
        | false =>
          have : unl ops p listed s = false := by
            refine unl_false fun j hjp hj => ?_
            unfold unl at hu
            rw [List.any_eq_false] at hu
            have := hu j (List.mem_range.mpr hjp)
            simp only [hj, beq_self_eq_true, Bool.and_true, Bool.not_eq_true, Bool.not_eq_false'] at this
            rw [getD_set] at this
            by_cases hij : i = j
            · subst hij; exact absurd (hdsti ▸ hj) hsd
            · rwa [if_neg hij] at this
          rw [this]; exact Le.refl _
    rcases hsem with ⟨hgs, x, hq, hx⟩ | ⟨hgs, hx⟩
    · refine Run.of_step fun ι a w b cs _ R => ?_
      obtain ⟨v, w', ι', hst, R', hv⟩ := hq _ ι a w R (fun y hy => by
        have := ev_ok R y
        cases y with
        | tmp s => have e : ev (envX ops p E listed) (.tmp s) = ev E (.tmp s) := hlk s (looks_tmp hy)
                   rw [e] at this; exact this
        | const v => exact this
        | global g => exact this
        | func f => exact this) b k cs ops i rest ho (hw true hgs ι a w R)
      exact ⟨_, h, ι', _, w', _, hst, (R'.put hv hd).weaken (hle x hx) (fun _ => MOle.refl _), hrec⟩
    · exact skip_ok ho hd (hw false hgs) (Run.weaken (hle .sk hx) (fun _ => MOle.refl _) hrec)


/-- Where the first statement stands that makes memory or stores. -/
def pfxM : List Oper → Nat → Nat
  | [], i => i
  | o :: rest, i => cond (storeOp o) i (pfxM rest (i + 1))

theorem Run.drawT {id : Nat} {k : List Item} {env : Env} (hm : C.P.follows .mixedOrders = true) (hs : drawStat2 ops (pfxM ops.toList 0) (pfxM ops.toList 0) = true)
    (hq : (fun p => aq C h ops (ops.toList.take p) env (fun E => aexec C 400 (.inRegion ops (List.range' p (ops.size - p)) :: k) E h)) (pfxM ops.toList 0)) :
    Run C (.code (.region id ops true) :: k) env h := by
  generalize pfxM ops.toList 0 = p at hs hq
  have S := Stat2.of hs
  refine ⟨fun ι a w b cs hb hkd R => ?_⟩
  obtain ⟨E, hE, hE1, hE2⟩ := aq_ok (⟨by have := S.le; omega, S.edge, S.look, S.one⟩ : Stat0 ops p) (ops.toList.take p) 0 (by simp) env ι a w _ R hq
  have hf : ∀ j, j < ops.size → (Array.replicate ops.size false).getD j true = false := fun j hj => by simp [hj]
  have hrun := any_ok3 S (fun j hj => hE2 j (Nat.zero_le _) hj) (aexec_ok 400 hE) (Region.schedule (C.P.follows .mixedOrders) ops (w.tape w.drawn (.order b.fn id))) (Array.replicate ops.size false) (by simp)
    (fun j _ hj => hf j hj) (fun i o ho hl => by rw [Array.getD_eq_getD_getElem?, Array.getElem?_replicate] at hl; split at hl <;> cases hl) (sched_of hm S.edge _)
  have Rd : Rel C env h ι a { w with drawn := w.drawn + 1 } := R.grow ((Below.refl _ _).drew)
  have R' : Rel C (envX ops p E (Array.replicate ops.size false)) h ι a { w with drawn := w.drawn + 1 } := Rd.weaken (fun s => by
    unfold envX
    cases hu : unl ops p (Array.replicate ops.size false) s with
    | true => exact Le.u _
    | false =>
      refine (hE1 s fun j _ hjp hj => ?_).1
      unfold unl at hu
      rw [List.any_eq_false] at hu
      have := hu j (List.mem_range.mpr hjp)
      have hjl := dstOf_lt hj
      simp [hj, hjl] at this) (fun _ => MOle.refl _)
  obtain ⟨e, w2, fr, h1, h2, h3⟩ := hrun.run ι a _ b cs hb hkd R'
  exact ⟨e, w2, fr, h1, Comes.of_steps (.one step_region_draw) h2, h3⟩

theorem Run.drawL {id : Nat} {k : List Item} {env : Env} (p m d : Nat) {op om : Oper} (hm : C.P.follows .mixedOrders = true) (hmp : m < p) (hs : drawStat2 ops p m = true) (hdm : dstOf ops m = some d) (hop : ops[p]? = some op) (hom : ops[m]? = some om)
    (hgp : op.guard = none) (hgm : om.guard = none) (hdp : okD C.N op.dst = true) (hdm2 : okD C.N om.dst = true)
    (hq : aq C h ops (ops.toList.take p) env (fun E => Both (aexec C 400 (.inRegion ops (List.range' p (ops.size - p)) :: k) E h)
      (aop C op (upd E d .u) h (fun env' h' x => fv x fun x => aop C om (putE env' op.dst x) h' (fun env' h' x => fv x fun x => aexec C 400 (.inRegion ops (List.range' (p + 1) (ops.size - (p + 1))) :: k) (putE env' om.dst x) h') (Run C (.inRegion ops (m :: List.range' (p + 1) (ops.size - (p + 1))) :: k) (putE env' op.dst x) h')) (Run C (.inRegion ops (p :: m :: List.range' (p + 1) (ops.size - (p + 1))) :: k) (upd E d .u) h)))) :
    Run C (.code (.region id ops true) :: k) env h := by
  have S := Stat2.of hs
  refine ⟨fun ι a w b cs hb hkd R => ?_⟩
  obtain ⟨E, hE, hE1, hE2⟩ := aq_ok (⟨by have := S.le; omega, S.edge, S.look, S.one⟩ : Stat0 ops p) (ops.toList.take p) 0 (by simp) env ι a w _ R hq
  have hf : ∀ j, j < ops.size → (Array.replicate ops.size false).getD j true = false := fun j hj => by simp [hj]
  have next2 : Run C (.inRegion ops (p :: m :: List.range' (p + 1) (ops.size - (p + 1))) :: k) (upd E d .u) h := by
    refine op_ok hop hdp (fun env' h' x hk => ?_) (fun _ _ _ _ => wanted_none hgp _) hE.two
    rw [fv_eq] at hk
    refine op_ok hom hdm2 (fun env' h' x hk => ?_) (fun _ _ _ _ => wanted_none hgm _) hk
    rw [fv_eq] at hk
    exact aexec_ok 400 hk
  have hrun := any_ok2 S hmp hdm (fun j hj => hE2 j (Nat.zero_le _) hj) (aexec_ok 400 hE.one) next2 (Region.schedule (C.P.follows .mixedOrders) ops (w.tape w.drawn (.order b.fn id))) (Array.replicate ops.size false) (by simp)
    (fun j _ hj => hf j hj) (fun i o ho hl => by rw [Array.getD_eq_getD_getElem?, Array.getElem?_replicate] at hl; split at hl <;> cases hl) (sched_of hm S.edge _)
  have Rd : Rel C env h ι a { w with drawn := w.drawn + 1 } := R.grow ((Below.refl _ _).drew)
  have R' : Rel C (envX ops p E (Array.replicate ops.size false)) h ι a { w with drawn := w.drawn + 1 } := Rd.weaken (fun s => by
    unfold envX
    cases hu : unl ops p (Array.replicate ops.size false) s with
    | true => exact Le.u _
    | false =>
      refine (hE1 s fun j _ hjp hj => ?_).1
      unfold unl at hu
      rw [List.any_eq_false] at hu
      have := hu j (List.mem_range.mpr hjp)
      have hjl := dstOf_lt hj
      simp [hj, hjl] at this) (fun _ => MOle.refl _)
  obtain ⟨e, w2, fr, h1, h2, h3⟩ := hrun.run ι a _ b cs hb hkd R'
  exact ⟨e, w2, fr, h1, Comes.of_steps (.one step_region_draw) h2, h3⟩
end
end Go.Proofs.YteklnpgiloebcaaGreatDoor.V

namespace Go.Proofs.YteklnpgiloebcaaGreatDoor.V
set_option linter.unusedVariables false
set_option linter.unusedSimpArgs false
open Go Go.RowKit

/-! ### references told anew -/
def mapRef (p : Nat → Bool) (f : Nat → Nat) : AV → AV
  | .row id => cond (p id) (.row (f id)) .u
  | .radr id sz i j => cond (p id) (.radr (f id) sz i j) .u
  | .box id off => cond (p id) (.box (f id) off) .u
  | .obj id => cond (p id) (.obj (f id)) .u
  | .mrow id i => cond (p id) (.mrow (f id) i) .u
  | .madr id i sz a b => cond (p id) (.madr (f id) i sz a b) .u
  | .agg n get => .agg n (fun j => mapRef p f (get j))
  | .tup n get => .tup n (fun j => mapRef p f (get j))
  | x => x

theorem mapRef_scr (p : Nat → Bool) (f : Nat → Nat) : Scr (mapRef p f) := by
  refine ⟨fun _ _ => rfl, fun _ _ => rfl, fun x h1 h2 h3 => ?_⟩
  cases x <;> first
    | rfl
    | exact absurd rfl (h2 _ _)
    | exact absurd rfl (h3 _ _)
    | exact absurd rfl (h1 (fun _ => .dead) (fun _ _ => .nilIface) _)
    | (exfalso; exact h1 (fun _ => .dead) (fun _ _ => .nilIface) _ ⟨rfl, trivial⟩)
    | (exfalso; exact h1 (fun _ => .dead) (fun _ _ => .slice (some ⟨0, 0, none⟩) 0 0) _ ⟨0, 0, 0, rfl, rfl, trivial⟩)
    | (exfalso; exact h1 (fun _ => .dead) (fun _ _ => .pointer (some ⟨0, 0, none⟩)) _ ⟨0, rfl, rfl⟩)

/-- References lead where they led, under other names. -/
theorem rf_mapRef {p : Nat → Bool} {f : Nat → Nat} {h h' : Heap} {ι ι' : Loc} {σ : AV → AV} (hp : ∀ id, p id = true → ι' (f id) = ι id ∧ (h' (f id) = .dead ∨ h' (f id) = scrM σ (h id)))
    {w : World} {ok : Nat → Prop} {x : AV} {v : Value} (hr : rf h ι x v) : VR w ok (mapRef p f x) (rf h' ι') v := by
  cases x with
  | row id =>
    cases hb : p id with
    | false => simp only [mapRef, hb, cond_false, VR]
    | true => simp only [mapRef, hb, cond_true, VR]; exact (show v = ι id 0 from hr).trans (by rw [(hp id hb).1])
  | obj id =>
    cases hb : p id with
    | false => simp only [mapRef, hb, cond_false, VR]
    | true => simp only [mapRef, hb, cond_true, VR]; exact (show v = ι id 0 from hr).trans (by rw [(hp id hb).1])
  | box id off =>
    cases hb : p id with
    | false => simp only [mapRef, hb, cond_false, VR]
    | true =>
      simp only [mapRef, hb, cond_true, VR]
      obtain ⟨g, h1, h2⟩ := hr
      exact ⟨g, by rw [(hp id hb).1]; exact h1, h2⟩
  | radr id sz i j =>
    cases hb : p id with
    | false => simp only [mapRef, hb, cond_false, VR]
    | true =>
      simp only [mapRef, hb, cond_true, VR]
      obtain ⟨g, n, c, h1, h2, h3⟩ := hr
      refine ⟨g, n, c, by rw [(hp id hb).1]; exact h1, h2, ?_⟩
      rcases (hp id hb).2 with e2 | e2
      · rw [e2]; trivial
      · rw [e2]
        cases hq : h id <;> rw [hq] at h3 <;> first | trivial | exact h3
  | mrow id i =>
    cases hb : p id with
    | false => simp only [mapRef, hb, cond_false, VR]
    | true =>
      simp only [mapRef, hb, cond_true, VR]
      refine ⟨hr.1.trans (by rw [(hp id hb).1]), ?_⟩
      have h3 := hr.2
      rcases (hp id hb).2 with e2 | e2
      · rw [e2]; trivial
      · rw [e2]
        cases hq : h id <;> rw [hq] at h3 <;> first | trivial | exact h3
  | madr id i sz a b =>
    cases hb : p id with
    | false => simp only [mapRef, hb, cond_false, VR]
    | true =>
      simp only [mapRef, hb, cond_true, VR]
      obtain ⟨g, n, c, h1, h2, h3⟩ := hr
      refine ⟨g, n, c, by rw [(hp id hb).1]; exact h1, h2, ?_⟩
      rcases (hp id hb).2 with e2 | e2
      · rw [e2]; trivial
      · rw [e2]
        cases hq : h id <;> rw [hq] at h3 <;> first | trivial | exact h3
  | _ => exact absurd hr (by simp [rf])

theorem MR.monoB {B B' : Nat} (hB : B' ≤ B) {w : World} {ok : Nat → Prop} {r : Ref} {m : MO} {v : Nat → Value} (hm : MR B w ok r m v) : MR B' w ok r m v := by
  have key : ∀ {e sz n : Nat} {v : Value} {xs : List Value}, ownsX w B e sz v n xs → ownsX w B' e sz v n xs := by
    intro e sz n v xs ho
    refine ⟨ho.1, ?_⟩
    rcases ho.2 with hn | ⟨g, cap, cur, e1, hBg, rest⟩
    · exact .inl hn
    · exact .inr ⟨g, cap, cur, e1, Nat.le_trans hB hBg, rest⟩
  cases m with
  | row e sz n get => obtain ⟨xs, ho, rest⟩ := hm; exact ⟨xs, key ho, rest⟩
  | mat e sz n get0 o ei szi len get hole =>
    obtain ⟨ho, ⟨xs, hx, rest⟩, hrows, hap⟩ := hm
    refine ⟨ho, ⟨xs, key hx, rest⟩, fun i hi hh => ?_, hap⟩
    obtain ⟨h2, ys, hy, r2⟩ := hrows i hi hh
    exact ⟨h2, ys, key hy, r2⟩
  | _ => exact hm

/-! ### contracts -/
def objsH (objs : List MO) : Heap := fun k => objs.getD k .dead

/-- Where what a call answers may lie: in what its arguments lead to, or in new memory that is not among what is handed over. -/
def okF (S : Nat → Prop) (B : Nat) (objs : List MO) (ι : Loc) (w' : World) (b : Nat) : Prop := b < w'.heap.size ∧ (S b ∨ B ≤ b) ∧ ∀ k, objsH objs k ≠ .dead → ¬ owns (objsH objs k) (ι k) b

structure Fresh (S : Nat → Prop) (B : Nat) (objs : List MO) (ι : Loc) (w' : World) : Prop where
  obj : ∀ k, MR B w' (okF S B objs ι w') (rf (objsH objs) ι) (objsH objs k) (ι k)
  one : ∀ k i, (ι k i).oneCell' = true
  base : ∀ k, objsH objs k ≠ .dead → ∀ g, owns (objsH objs k) (ι k) g → B ≤ g ∧ g < w'.heap.size
  apart : ∀ k k', objsH objs k ≠ .dead → objsH objs k' ≠ .dead → k ≠ k' → ∀ g, owns (objsH objs k) (ι k) g → ¬ owns (objsH objs k') (ι k') g

def PostF (S : Nat → Prop) (w : World) (r : AV) (objs : List MO) (e : Ending) (w' : World) : Prop :=
  ∃ v ι, e = .returned v ∧ Below w.heap.size w w' ∧ Fresh S w.heap.size objs ι w' ∧ VR w' (okF S w.heap.size objs ι w') r (rf (objsH objs) ι) v

/-- Called with what reads as 'args', the function returns what reads as 'r', with new memory that is the caller's own; nothing that was there has changed. -/
structure FnF (P : Program) (f : FuncId) (args : List AV) (r : AV) (objs : List MO) : Prop where
  there : ∃ fn, P.funcs[f]? = some fn ∧ fn.name ≠ "runtime.NumGoroutine" ∧ fn.body.isNone = false
  calls : ∀ (S : Nat → Prop) (w : World) (vs : Array Value), (∀ b, S b → b < w.heap.size) → GlobOk S w → args.length = vs.size →
    (∀ (i : Nat) x v, args[i]? = some x → vs[i]? = some v → VR w S x noref v) → Calls P f vs w (PostF S w r objs)

theorem FnF.of {P : Program} {f : FuncId} {args : List AV} {r : AV} {objs : List MO} (fn : Func) (c : Code) (hf : P.funcs[f]? = some fn) (hb : fn.body = some c) (hname : fn.name ≠ "runtime.NumGoroutine") (hn : args.length ≤ fn.ntmps)
    {T : TT} (tok : TOk P T) (N : Nat) (hN : fn.ntmps = N)
    (hrun : ∀ S w0 (gl : GlobOk S w0), Run { P := P, T := T, tok := tok, N := N, w0 := w0, S := S, glob := gl, f := f, R := PostF S w0 r objs } [.code c] (envOf args) noObjs) : FnF P f args r objs := by
  subst hN
  refine ⟨⟨fn, hf, hname, by rw [hb]; rfl⟩, fun S w vs hS gl hlen hargs cs => ?_⟩
  let b : Frame := { (default : Frame) with fn := f, kind := .normal }
  have henter : Frame.enter P f vs .normal = b.at { tmps := vs ++ Array.replicate (fn.ntmps - vs.size) undef, defers := [] } [.code c] := by
    simp [Frame.enter, Frame.at, hf, hb, b]
  rw [henter]
  refine (hrun S w gl).run (fun _ _ => .nilIface) _ w b cs rfl rfl ?_
  constructor
  · exact Below.refl _ _
  · rfl
  · simp; omega
  · intro i
    have := envOf_ok (C := { P := P, T := T, tok := tok, N := fn.ntmps, w0 := w, S := S, glob := gl, f := f, R := PostF S w r objs }) (n := fn.ntmps - vs.size) (r := noref) hlen hargs i
    exact VR.mono (fun b hb => ⟨hS b hb, .inl hb, fun id hl => absurd rfl hl⟩) (fun _ _ => rfl) _ _ _ _ (fun _ _ h => False.elim h) this
  · intro id; trivial
  · intro id i; rfl
  · intro id hl; exact absurd rfl hl
  · intro id id' hl; exact absurd rfl hl

section
variable {C : Ctx} {env : Env} {h : Heap} {ι : Loc} {a : Act} {w : World}

/-- What is handed over: the objects 'ids', told as 'objs'. -/
def handed (ids : List Nat) (objs : List MO) (h : Heap) : Prop := match ids, objs with
  | [], [] => True
  | id :: ids, m :: objs => MOle (h id) m ∧ handed ids objs h
  | _, _ => False

theorem handed_at {h : Heap} : ∀ {ids : List Nat} {objs : List MO}, handed ids objs h → ids.length = objs.length ∧ ∀ k, k < objs.length → MOle (h (ids.getD k 0)) (objsH objs k)
  | [], [], _ => ⟨rfl, fun k hk => absurd hk (Nat.not_lt_zero _)⟩
  | id :: ids, m :: objs, hh => by
    obtain ⟨h1, h2⟩ := hh
    obtain ⟨h3, h4⟩ := handed_at h2
    refine ⟨by simp [h3], fun k hk => ?_⟩
    cases k with
    | zero => exact h1
    | succ k => exact h4 k (by simpa using hk)
  | [], _ :: _, hh => hh.elim
  | _ :: _, [], hh => hh.elim

def noRefM : MO → Bool
  | .box _ l => l.all noRef
  | .frame _ _ => false
  | .clo _ l => l.all noRef
  | _ => true

theorem scr_noRef {σ : AV → AV} (S : Scr σ) {x : AV} (hx : noRef x = true) : σ x = x := by
  cases x with
  | row => cases hx
  | radr => cases hx
  | box => cases hx
  | obj => cases hx
  | mrow => cases hx
  | madr => cases hx
  | agg => cases hx
  | tup => cases hx
  | _ => exact S.plain _ (fun _ _ _ hr => by simp [rf] at hr) (fun _ _ e => by cases e) (fun _ _ e => by cases e)
theorem scrM_noRef {σ : AV → AV} (S : Scr σ) {m : MO} (hm : noRefM m = true) : scrM σ m = m := by
  cases m with
  | box t l =>
    have hl : l.map σ = l := by
      have : ∀ x ∈ l, σ x = x := fun x hx => scr_noRef S (List.all_eq_true.mp hm x hx)
      rw [List.map_congr_left this]; simp
    show MO.box t (l.map σ) = _
    rw [hl]
  | frame => cases hm
  | clo f l =>
    have hl : l.map σ = l := by
      have : ∀ x ∈ l, σ x = x := fun x hx => scr_noRef S (List.all_eq_true.mp hm x hx)
      rw [List.map_congr_left this]; simp
    show MO.clo f (l.map σ) = _
    rw [hl]
  | _ => rfl

def memL (ids : List Nat) (id : Nat) : Bool := match ids with
  | [] => false
  | x :: l => cond (Nat.beq id x) true (memL l id)
def idxL (ids : List Nat) (id : Nat) : Nat := match ids with
  | [] => 0
  | x :: l => cond (Nat.beq id x) 0 (idxL l id + 1)
theorem memL_ok : ∀ {ids : List Nat} {id : Nat}, memL ids id = true → idxL ids id < ids.length ∧ ids.getD (idxL ids id) 0 = id
  | [], id, h => by cases h
  | x :: l, id, h => by
    unfold memL at h
    unfold idxL
    cases hb : Nat.beq id x with
    | true => have := Nat.eq_of_beq_eq_true hb; subst this; simp
    | false =>
      rw [hb, cond_false] at h
      obtain ⟨h1, h2⟩ := memL_ok h
      rw [cond_false]
      exact ⟨by simpa using h1, by simpa using h2⟩
theorem idxL_at : ∀ {ids : List Nat} {k : Nat}, ids.Nodup → k < ids.length → memL ids (ids.getD k 0) = true ∧ idxL ids (ids.getD k 0) = k
  | [], k, _, hk => absurd hk (Nat.not_lt_zero _)
  | x :: l, 0, _, _ => by simp [memL, idxL]
  | x :: l, k + 1, hn, hk => by
    obtain ⟨h1, h2⟩ := List.nodup_cons.mp hn
    have hk' : k < l.length := by simpa using hk
    obtain ⟨h3, h4⟩ := idxL_at h2 hk'
    have hne : l.getD k 0 ≠ x := by
      rw [List.getD, List.getElem?_eq_getElem hk']
      exact fun e => h1 (e ▸ List.getElem_mem hk')
    have e1 : (x :: l).getD (k + 1) 0 = l.getD k 0 := by simp
    rw [e1]
    unfold memL idxL
    rw [beq_ne hne, cond_false, cond_false]
    exact ⟨h3, by rw [h4]⟩

theorem Run.leaveF {k : List Item} {fn : Func} {ts : List Nat} {r : AV} {objs : List MO} (ids : List Nat) (hk : k = [] ∨ ∃ k', k = .code .ret :: k') (hR : C.R = PostF C.S C.w0 r objs) (hf : C.P.funcs[C.f]? = some fn) (hres : fn.results = (ts.map ResultVar.tmp).toArray)
    (hids : ids.Nodup) (hobjs : handed ids objs h) (hnr : objs.all noRefM = true)
    (hle : Le (mapRef (memL ids) (idxL ids) (resAV env ts)) r) : Run C k env h := by
  obtain ⟨hlen, hat⟩ := handed_at hobjs
  refine ⟨fun ι a w b cs hb hkd R0 => ?_⟩
  let h1 : Heap := fun id => cond (memL ids id) (objsH objs (idxL ids id)) .dead
  have h1at : ∀ k, k < objs.length → h1 (ids.getD k 0) = objsH objs k := by
    intro k hk
    obtain ⟨e1, e2⟩ := idxL_at hids (show k < ids.length by omega)
    show cond (memL ids (ids.getD k 0)) _ _ = _
    rw [e1, cond_true, e2]
  have R : Rel C env h1 ι a w := R0.weaken (fun _ => Le.refl _) (fun id => by
    show MOle (h id) (cond (memL ids id) _ _)
    cases hm : memL ids id with
    | false => rw [cond_false]; cases h id <;> trivial
    | true =>
      rw [cond_true]
      obtain ⟨e1, e2⟩ := memL_ok hm
      have := hat (idxL ids id) (by omega)
      rwa [e2] at this)
  have hv : VR w (okB C h1 ι w) (resAV env ts) (rf h1 ι) (resV a.tmps ts) := by
    match ts, hle, hres with
    | [t], _, _ => exact R.env t
    | [], _, _ => exact ⟨#[], rfl, rfl, fun j hj => by cases hj⟩
    | t :: u :: ts, _, _ =>
      refine ⟨_, rfl, by simp, fun j hj => ?_⟩
      refine ⟨a.tmps.getD ((t :: u :: ts).getD j 0) undef, ?_, R.env _⟩
      rw [List.getElem?_toArray, List.getElem?_map, List.getElem?_eq_getElem hj, List.getD, List.getElem?_eq_getElem hj]
      rfl
  have S := mapRef_scr (memL ids) (idxL ids)
  let ι' : Loc := fun k => ι (ids.getD k 0)
  have hdead : ∀ k, objsH objs k ≠ .dead → k < objs.length := by
    intro k hl
    rcases Nat.lt_or_ge k objs.length with h' | h'
    · exact h'
    · exfalso; exact hl (by unfold objsH; rw [List.getD, List.getElem?_eq_none h']; rfl)
  have hscr : ∀ k, scrM (mapRef (memL ids) (idxL ids)) (objsH objs k) = objsH objs k := by
    intro k
    refine scrM_noRef S ?_
    unfold objsH
    rw [List.getD]
    cases hq : objs[k]? with
    | none => rfl
    | some m => exact List.all_eq_true.mp hnr m (List.mem_of_getElem? hq)
  have hσ : ∀ (w : World) ok x v, rf h1 ι x v → VR w ok (mapRef (memL ids) (idxL ids) x) (rf (objsH objs) ι') v := fun w ok x v hr =>
    rf_mapRef (σ := mapRef (memL ids) (idxL ids)) (fun id hm => by
      obtain ⟨e1, e2⟩ := memL_ok hm
      refine ⟨by show ι (ids.getD (idxL ids id) 0) = _; rw [e2], .inr ?_⟩
      have := h1at (idxL ids id) (by omega)
      rw [e2] at this
      rw [this, hscr]) hr
  have hok : ∀ b, okB C h1 ι w b → okF C.S C.B objs ι' w b := fun b hb => ⟨hb.1, hb.2.1, fun k hl => by
    have := hb.2.2 (ids.getD k 0)
    rw [h1at k (hdead k hl)] at this
    exact this hl⟩
  have hlive : ∀ k, objsH objs k ≠ .dead → h1 (ids.getD k 0) ≠ .dead := fun k hl => by rw [h1at k (hdead k hl)]; exact hl
  refine ⟨.returned _, w, { b.at a k with mode := .returning }, ?_, ?_, hb, rfl, R.defers, hkd, fn, by show C.P.funcs[b.fn]? = _; rw [hb]; exact hf, results_run hres a.tmps w⟩
  · rw [hR]
    refine ⟨_, ι', rfl, R.below, ⟨fun k => ?_, fun k i => R.one _ i, fun k hl g hg => ?_, fun k k' hl hl' hne g hg => ?_⟩, ?_⟩
    · by_cases hl : objsH objs k = .dead
      · rw [hl]; trivial
      · have hm := R.obj (ids.getD k 0)
        rw [h1at k (hdead k hl)] at hm
        have := MR.scr S (hσ _ _) hok (fun _ _ => rfl) (fun _ _ => rfl) hm
        rwa [hscr] at this
    · have := R.base (ids.getD k 0) (hlive k hl) g (by rw [h1at k (hdead k hl)]; exact hg)
      exact this
    · have hkl := hdead k hl
      have hkl' := hdead k' hl'
      have hneq : ids.getD k 0 ≠ ids.getD k' 0 := fun e => hne (by
        have e1 := (idxL_at hids (show k < ids.length by omega)).2
        have e2 := (idxL_at hids (show k' < ids.length by omega)).2
        rw [e] at e1; omega)
      have := R.apart (ids.getD k 0) (ids.getD k' 0) (hlive k hl) (hlive k' hl') hneq g (by rw [h1at k hkl]; exact hg)
      rwa [h1at k' hkl'] at this
    · exact hle _ _ _ _ (VR.scr S (hσ _ _) hok (fun _ _ => rfl) _ _ hv)
  · rcases hk with rfl | ⟨k', rfl⟩
    · exact Steps.one step_end
    · exact Steps.one step_ret

/-! ### calling them -/
def inR (q n id : Nat) : Bool := Nat.ble q id && Nat.blt id (q + n)
def outR (q n id : Nat) : Bool := !inR q n id
def ltN (n id : Nat) : Bool := Nat.blt id n
/-- The caller's objects with what has been handed over, under the ids from 'q' on. -/
def gotH (q : Nat) (objs : List MO) (h : Heap) : Heap := fun id => cond (inR q objs.length id) (scrM (mapRef (ltN objs.length) (fun k => q + k)) (objsH objs (id - q))) (scrM (mapRef (outR q objs.length) (fun k => k)) (h id))
def gotE (q n : Nat) (env : Env) : Env := fun i => mapRef (outR q n) (fun k => k) (env i)

theorem Rel.got (R : Rel C env h ι a w) (q : Nat) {objs : List MO} {w' : World} {ιF : Loc} {r : AV} {v : Value} (hbel : Below w.heap.size w w') (F : Fresh (okB C h ι w) w.heap.size objs ιF w')
    (hv : VR w' (okF (okB C h ι w) w.heap.size objs ιF w') r (rf (objsH objs) ιF) v) :
    ∃ ι', Rel C (gotE q objs.length env) (gotH q objs h) ι' a w' ∧ VR w' (okB C (gotH q objs h) ι' w') (mapRef (ltN objs.length) (fun k => q + k) r) (rf (gotH q objs h) ι') v := by
  let n := objs.length
  let ι' : Loc := fun id => cond (inR q n id) (ιF (id - q)) (ι id)
  have hB : C.B ≤ w.heap.size := R.below.size
  have S1 := mapRef_scr (outR q n) (fun k => k)
  have S2 := mapRef_scr (ltN n) (fun k => q + k)
  have hsz := hbel.size
  have yes : ∀ id, inR q n id = true → gotH q objs h id = scrM (mapRef (ltN n) (fun k => q + k)) (objsH objs (id - q)) ∧ ι' id = ιF (id - q) ∧ q ≤ id ∧ id < q + n := by
    intro id hb
    have hb2 := hb
    unfold inR at hb2
    rw [Bool.and_eq_true, Nat.blt_eq] at hb2
    refine ⟨?_, ?_, Nat.ble_eq ▸ hb2.1, hb2.2⟩
    · show cond (inR q n id) _ _ = _; rw [hb]; rfl
    · show cond (inR q n id) _ _ = _; rw [hb]; rfl
  have no : ∀ id, inR q n id = false → gotH q objs h id = scrM (mapRef (outR q n) (fun k => k)) (h id) ∧ ι' id = ι id := by
    intro id hb
    constructor
    · show cond (inR q n id) _ _ = _; rw [hb]; rfl
    · show cond (inR q n id) _ _ = _; rw [hb]; rfl
  have dead : ∀ {σ : AV → AV} {m : MO}, scrM σ m ≠ .dead → m ≠ .dead := fun hl e => hl (scrM_dead.mpr e)
  have old : ∀ id, inR q n id = false → gotH q objs h id ≠ .dead → h id ≠ .dead := fun id hb hl => by rw [(no id hb).1] at hl; exact dead hl
  have new : ∀ id, inR q n id = true → gotH q objs h id ≠ .dead → objsH objs (id - q) ≠ .dead := fun id hb hl => by rw [(yes id hb).1] at hl; exact dead hl
  have oown : ∀ id, inR q n id = false → ∀ g, owns (gotH q objs h id) (ι' id) g ↔ owns (h id) (ι id) g := fun id hb g => by rw [(no id hb).1, (no id hb).2, owns_scrM]
  have nown : ∀ id, inR q n id = true → ∀ g, owns (gotH q objs h id) (ι' id) g ↔ owns (objsH objs (id - q)) (ιF (id - q)) g := fun id hb g => by rw [(yes id hb).1, (yes id hb).2.1, owns_scrM]
  have hok1 : ∀ b, okB C h ι w b → okB C (gotH q objs h) ι' w' b := fun b hb => ⟨by have := hb.1; omega, hb.2.1, fun id hl hg => by
    cases hr : inR q n id with
    | true => have := (F.base _ (new id hr hl) b ((nown id hr b).mp hg)).1; have := hb.1; omega
    | false => exact hb.2.2 id (old id hr hl) ((oown id hr b).mp hg)⟩
  have hok2 : ∀ b, okF (okB C h ι w) w.heap.size objs ιF w' b → okB C (gotH q objs h) ι' w' b := fun b hb => ⟨hb.1, by
      rcases hb.2.1 with h1 | h1
      · exact h1.2.1
      · exact .inr (by omega), fun id hl hg => by
    cases hr : inR q n id with
    | true => exact hb.2.2 _ (new id hr hl) ((nown id hr b).mp hg)
    | false =>
      have hg' := (oown id hr b).mp hg
      rcases hb.2.1 with h1 | h1
      · exact h1.2.2 id (old id hr hl) hg'
      · have := (R.base id (old id hr hl) b hg').2; omega⟩
  have hw : ∀ b, okB C h ι w b → w'.heap[b]? = w.heap[b]? := fun b hb => hbel.block b hb.1
  have hσ1 : ∀ ok x v, rf h ι x v → VR w' ok (mapRef (outR q n) (fun k => k) x) (rf (gotH q objs h) ι') v := fun ok x v hr =>
    rf_mapRef (σ := mapRef (outR q n) (fun k => k)) (fun id hp => by
      have hr : inR q n id = false := by unfold outR at hp; simpa using hp
      exact ⟨(no id hr).2, .inr (no id hr).1⟩) hr
  have hσ2 : ∀ ok x v, rf (objsH objs) ιF x v → VR w' ok (mapRef (ltN n) (fun k => q + k) x) (rf (gotH q objs h) ι') v := fun ok x v hr =>
    rf_mapRef (σ := mapRef (ltN n) (fun k => q + k)) (fun id hp => by
      have hlt : id < n := by unfold ltN at hp; rwa [Nat.blt_eq] at hp
      have hr : inR q n (q + id) = true := by unfold inR; rw [Bool.and_eq_true, Nat.blt_eq]; exact ⟨Nat.ble_eq.symm ▸ Nat.le_add_right q id, by omega⟩
      have e : q + id - q = id := by omega
      have := yes (q + id) hr
      rw [e] at this
      exact ⟨this.2.1, .inr this.1⟩) hr
  refine ⟨ι', ⟨R.below.trans (hbel.mono hB), R.defers, R.size, fun i => VR.scr S1 (hσ1 _) hok1 hw _ _ (R.env i), fun id => ?_, fun id i => ?_, fun id hl g hg => ?_, fun id id' hl hl' hne g hg hg' => ?_⟩, VR.scr S2 (hσ2 _) hok2 (fun _ _ => rfl) _ _ hv⟩
  · cases hr : inR q n id with
    | true =>
      rw [(yes id hr).1, (yes id hr).2.1]
      exact MR.monoB hB (MR.scr S2 (hσ2 _) hok2 (fun _ _ => rfl) (fun _ _ => rfl) (F.obj _))
    | false =>
      by_cases hl : h id = .dead
      · rw [(no id hr).1, hl]; trivial
      · rw [(no id hr).1, (no id hr).2]
        exact MR.scr S1 (hσ1 _) hok1 hw (fun g hg => hbel.block g (R.base id hl g hg).2) (R.obj id)
  · cases hr : inR q n id with
    | true => rw [(yes id hr).2.1]; exact F.one _ i
    | false => rw [(no id hr).2]; exact R.one id i
  · cases hr : inR q n id with
    | true => have := F.base _ (new id hr hl) g ((nown id hr g).mp hg); exact ⟨by omega, this.2⟩
    | false => have := R.base id (old id hr hl) g ((oown id hr g).mp hg); exact ⟨this.1, by omega⟩
  · cases hr : inR q n id with
    | true =>
      have b1 := F.base _ (new id hr hl) g ((nown id hr g).mp hg)
      cases hr' : inR q n id' with
      | true =>
        have h1 := yes id hr
        have h2 := yes id' hr'
        exact F.apart _ _ (new id hr hl) (new id' hr' hl') (by omega) g ((nown id hr g).mp hg) ((nown id' hr' g).mp hg')
      | false => have := (R.base id' (old id' hr' hl') g ((oown id' hr' g).mp hg')).2; omega
    | false =>
      have b1 := R.base id (old id hr hl) g ((oown id hr g).mp hg)
      cases hr' : inR q n id' with
      | true => have := (F.base _ (new id' hr' hl') g ((nown id' hr' g).mp hg')).1; omega
      | false => exact R.apart id id' (old id hr hl) (old id' hr' hl') hne g ((oown id hr g).mp hg) ((oown id' hr' g).mp hg')

theorem postF_returned {S : Nat → Prop} {w : World} {r : AV} {objs : List MO} : ∀ e w', PostF S w r objs e w' → ∃ v, e = .returned v := fun e w' ⟨v, _, h, _⟩ => ⟨v, h⟩

/-! ### answers that hold no memory but their own -/
def FlatM : MO → Prop
  | .row _ sz n get => ∀ i j, i < n → j < sz → flat (get i j) = true
  | .mat _ sz n get0 o _ szi len get _ => (∀ i j, i < n → j < sz → j ≠ o → flat (get0 i j) = true) ∧ ∀ i a b, i < n → a < len i → b < szi → flat (get i a b) = true
  | .box _ l => ∀ x ∈ l, flat x = true
  | .frame _ _ => False
  | .clo _ l => ∀ x ∈ l, flat x = true
  | _ => True

theorem MR.flat {B : Nat} {w : World} {ok ok' : Nat → Prop} {r : Ref} {m : MO} {v : Nat → Value} (hf : FlatM m) (hm : MR B w ok r m v) : MR B w ok' r m v := by
  cases m with
  | box t l =>
    obtain ⟨g, cs, e, hg, hs, hc⟩ := hm
    refine ⟨g, cs, e, hg, hs, fun j x hx => ?_⟩
    obtain ⟨cv, c1, c2, c3⟩ := hc j x hx
    exact ⟨cv, c1, c2, flat_ok _ _ _ (hf x (List.mem_of_getElem? hx)) c3⟩
  | row e sz n get =>
    obtain ⟨xs, ho, h1, hc⟩ := hm
    refine ⟨xs, ho, h1, fun i j hi hj => ?_⟩
    obtain ⟨cv, c1, c3⟩ := hc i j hi hj
    exact ⟨cv, c1, flat_ok _ _ _ (hf i j hi hj) c3⟩
  | mat e sz n get0 o ei szi len get hole =>
    obtain ⟨ho, ⟨xs, hx, h1, hc0, hin⟩, hrows, hap⟩ := hm
    refine ⟨ho, ⟨xs, hx, h1, fun i j hi hj hne => ?_, hin⟩, fun i hi hh => ?_, hap⟩
    · obtain ⟨cv, c1, c3⟩ := hc0 i j hi hj hne
      exact ⟨cv, c1, flat_ok _ _ _ (hf.1 i j hi hj hne) c3⟩
    · obtain ⟨h2, ys, hy, hy1, hyc⟩ := hrows i hi hh
      refine ⟨h2, ys, hy, hy1, fun a b ha hb' => ?_⟩
      obtain ⟨u, u1, u3⟩ := hyc a b ha hb'
      exact ⟨u, u1, flat_ok _ _ _ (hf.2 i a b hi ha hb') u3⟩
  | frame => exact hf.elim
  | clo f l =>
    obtain ⟨cs, e, hs, hc⟩ := hm
    refine ⟨cs, e, hs, fun j x hx => ?_⟩
    obtain ⟨cv, c1, c3⟩ := hc j x hx
    exact ⟨cv, c1, flat_ok _ _ _ (hf x (List.mem_of_getElem? hx)) c3⟩
  | _ => exact hm

theorem PostF.flat {S S' : Nat → Prop} {w w' : World} {r : AV} {objs : List MO} {e : Ending} (hr : V.flat r = true) (ho : ∀ m ∈ objs, FlatM m) (hp : PostF S w r objs e w') : PostF S' w r objs e w' := by
  obtain ⟨v, ι, he, hb, F, hv⟩ := hp
  refine ⟨v, ι, he, hb, ⟨fun k => MR.flat ?_ (F.obj k), F.one, F.base, F.apart⟩, flat_ok _ _ _ hr hv⟩
  unfold objsH
  rw [List.getD]
  cases hq : objs[k]? with
  | none => trivial
  | some m => exact ho m (List.mem_of_getElem? hq)

/-- Such a call may be handed what is the caller's own. -/
theorem Run.callFA {ops : Array Oper} {i : Nat} {rest : List Nat} {k : List Item} {o : Oper} {f : FuncId} {xs : List Operand} {args : List AV} {r : AV} {objs : List MO} (q : Nat) (hfn : FnF C.P f args r objs) (ho : ops.toList[i]? = some o) (hc : calls? o = some (f, xs))
    (hargs : ArgsLe (xs.map (fun x => bor h (ev env x))) args) (hd : okD C.N o.dst = true) (hr : ready env ops o = true) (hflat : flat r = true) (hobjs : ∀ m ∈ objs, FlatM m)
    (next : aexec C 400 (.inRegion ops rest :: k) (putE (gotE q objs.length env) o.dst (mapRef (ltN objs.length) (fun k => q + k) r)) (gotH q objs h)) : Run C (.inRegion ops (i :: rest) :: k) env h :=
  Run.of_step fun ι a w b cs _ R => by
    have ho' : ops[i]? = some o := by simpa using ho
    have hcalls := hfn.calls (fun b => b < w.heap.size) w (xs.map a.eval).toArray (fun b hb => hb) R.globAll (by rw [hargs.at.1]; simp) (fun i x v hx hv => by
      obtain ⟨x0, hx0, hle0⟩ := hargs.at.2 i x hx
      rw [List.getElem?_map] at hx0
      rw [List.getElem?_toArray, List.getElem?_map] at hv
      cases hq : xs[i]? with
      | none => rw [hq] at hx0; cases hx0
      | some y =>
        rw [hq] at hx0 hv
        cases hx0; cases hv
        exact hle0 _ _ _ _ (fz_ok R (fun b hb => hb.1) (fun id hl g hg => (R.base id hl g hg).2) _ _ (ev_ok R y)))
    obtain ⟨v, w', hp, hst⟩ := step_call (b := b) (k := k) (cs := cs) (rest := rest) ho' (ready_ok hr R) (exec_call hc hfn.there a w) hcalls postF_returned
    obtain ⟨v', ιF, e, hbel, F, hv⟩ := PostF.flat (S' := okB C h ι w) hflat hobjs hp
    cases e
    obtain ⟨ι', R', hv'⟩ := R.got q hbel F hv
    exact ⟨_, _, ι', _, w', _, hst, R'.put hv' hd, aexec_ok 400 next⟩

/-! ### what is given up may be read for ever -/
def repl (z : Nat) (y : AV) (g : Nat → AV) : AV → AV
  | .row id => cond (Nat.beq id z) y (.row id)
  | .radr id sz i j => cond (Nat.beq id z) .u (.radr id sz i j)
  | .box id off => cond (Nat.beq id z) .u (.box id off)
  | .obj id => cond (Nat.beq id z) .u (.obj id)
  | .mrow id i => cond (Nat.beq id z) (g i) (.mrow id i)
  | .madr id i sz a b => cond (Nat.beq id z) .u (.madr id i sz a b)
  | .agg n get => .agg n (fun j => repl z y g (get j))
  | .tup n get => .tup n (fun j => repl z y g (get j))
  | x => x
theorem repl_scr (z : Nat) (y : AV) (g : Nat → AV) : Scr (repl z y g) := by
  refine ⟨fun _ _ => rfl, fun _ _ => rfl, fun x h1 h2 h3 => ?_⟩
  cases x <;> first
    | rfl
    | exact absurd rfl (h2 _ _)
    | exact absurd rfl (h3 _ _)
    | exact absurd rfl (h1 (fun _ => .dead) (fun _ _ => .nilIface) _)
    | (exfalso; exact h1 (fun _ => .dead) (fun _ _ => .nilIface) _ ⟨rfl, trivial⟩)
    | (exfalso; exact h1 (fun _ => .dead) (fun _ _ => .slice (some ⟨0, 0, none⟩) 0 0) _ ⟨0, 0, 0, rfl, rfl, trivial⟩)
    | (exfalso; exact h1 (fun _ => .dead) (fun _ _ => .pointer (some ⟨0, 0, none⟩)) _ ⟨0, rfl, rfl⟩)

theorem Rel.freeze (R : Rel C env h ι a w) (z : Nat) (hl : h z ≠ .dead) {y : AV} {g : Nat → AV}
    (hy : ∀ ok, (∀ b, okB C h ι w b → ok b) → (∀ b, owns (h z) (ι z) b → ok b) → ∀ r, VR w ok y r (ι z 0))
    (hg : ∀ ok, (∀ b, okB C h ι w b → ok b) → (∀ b, owns (h z) (ι z) b → ok b) → ∀ r i, (match h z with | .mat _ _ n _ _ _ _ _ _ hole => i < n ∧ hole ≠ some i | _ => True) → VR w ok (g i) r (ι z (i + 1))) :
    Rel C (fun i => repl z y g (env i)) (upd (upd (fun id => scrM (repl z y g) (h id)) z .dead) z .dead) (upd ι z (ι z)) a w := by
  have S := repl_scr z y g
  have hι : ∀ id, upd ι z (ι z) id = ι id := fun id => by
    by_cases e : id = z
    · subst e; rw [upd_same]
    · rw [upd_other _ _ e]
  have hoz : ∀ b, owns .dead (ι z) b → owns (h z) (ι z) b := fun b hb => owns_zero hb
  refine (R.remake S z z .dead (ι z) w (Below.refl _ _) (fun _ _ => rfl) (fun _ _ _ _ _ _ => rfl) (R.one z) (fun g' hg' => R.base z hl g' (hoz g' hg')) (fun g' hg' hok => hok.2.2 z hl (hoz g' hg'))
    (fun id hd _ hl2 g' hg' hg2 => R.apart id z hl2 hl hd g' hg' (hoz g' hg2)) (fun hok x v hr => ?_) (fun hok => trivial)).1
  have hokz : ∀ b, owns (h z) (ι z) b → okB C (upd (upd (fun id => scrM (repl z y g) (h id)) z .dead) z .dead) (upd ι z (ι z)) w b := by
    intro b hb
    have := R.base z hl b hb
    refine ⟨this.2, .inr this.1, fun id hl2 hg' => ?_⟩
    by_cases e : id = z
    · subst e; rw [upd_same] at hl2; exact hl2 rfl
    · rw [upd_other _ _ e, upd_other _ _ e, upd_other _ _ e, owns_scrM] at hg'
      rw [upd_other _ _ e, upd_other _ _ e] at hl2
      exact R.apart id z (fun e2 => hl2 (scrM_dead.mpr e2)) hl e b hg' hb
  have hmem : ∀ id, id ≠ z → upd (upd (fun id => scrM (repl z y g) (h id)) z .dead) z .dead id = scrM (repl z y g) (h id) := fun id e => by rw [upd_other _ _ e, upd_other _ _ e]
  cases x with
  | row id =>
    by_cases e : id = z
    · subst e
      simp only [repl, Nat.beq_refl, cond_true]
      rw [show v = ι id 0 from hr]
      exact hy _ hok hokz _
    · simp only [repl, beq_ne e, cond_false, VR]
      exact (show v = ι id 0 from hr).trans (by rw [hι])
  | obj id =>
    by_cases e : id = z
    · subst e; simp only [repl, Nat.beq_refl, cond_true, VR]
    · simp only [repl, beq_ne e, cond_false, VR]
      exact (show v = ι id 0 from hr).trans (by rw [hι])
  | box id off =>
    by_cases e : id = z
    · subst e; simp only [repl, Nat.beq_refl, cond_true, VR]
    · simp only [repl, beq_ne e, cond_false, VR]
      obtain ⟨g', h1, h2⟩ := hr
      exact ⟨g', by rw [hι]; exact h1, h2⟩
  | radr id sz i j =>
    by_cases e : id = z
    · subst e; simp only [repl, Nat.beq_refl, cond_true, VR]
    · simp only [repl, beq_ne e, cond_false, VR]
      obtain ⟨g', n, c, h1, h2, h3⟩ := hr
      refine ⟨g', n, c, by rw [hι]; exact h1, h2, ?_⟩
      rw [hmem id e]
      cases hq : h id <;> rw [hq] at h3 <;> first | trivial | exact h3
  | mrow id i =>
    by_cases e : id = z
    · subst e
      simp only [repl, Nat.beq_refl, cond_true]
      rw [hr.1]
      exact hg _ hok hokz _ i hr.2
    · simp only [repl, beq_ne e, cond_false, VR]
      refine ⟨hr.1.trans (by rw [hι]), ?_⟩
      have h3 := hr.2
      rw [hmem id e]
      cases hq : h id <;> rw [hq] at h3 <;> first | trivial | exact h3
  | madr id i sz a b =>
    by_cases e : id = z
    · subst e; simp only [repl, Nat.beq_refl, cond_true, VR]
    · simp only [repl, beq_ne e, cond_false, VR]
      obtain ⟨g', n, c, h1, h2, h3⟩ := hr
      refine ⟨g', n, c, by rw [hι]; exact h1, h2, ?_⟩
      rw [hmem id e]
      cases hq : h id <;> rw [hq] at h3 <;> first | trivial | exact h3
  | _ => exact absurd hr (by simp [rf])

/-- An own row is given up: from now on it is a slice like any other. -/
theorem Run.freeze {k : List Item} (z : Nat) {e sz n : Nat} {get : Nat → Nat → AV} (hz : h z = .row e sz n get)
    (hr : Run C k (fun i => repl z (.sl n sz get) (fun _ => .u) (env i)) (upd (upd (fun id => scrM (repl z (.sl n sz get) (fun _ => .u)) (h id)) z .dead) z .dead)) : Run C k env h :=
  ⟨fun ι a w b cs hb hkd R => hr.run _ a w b cs hb hkd (R.freeze z (by rw [hz]; simp) (fun ok h1 h2 r => row_sl R hz h1 h2 r) (fun _ _ _ _ _ _ => trivial))⟩
end

end Go.Proofs.YteklnpgiloebcaaGreatDoor.V

namespace Go.Proofs.YteklnpgiloebcaaGreatDoor.V
set_option linter.unusedVariables false
set_option linter.unusedSimpArgs false
open Go Go.RowKit

/-- Lists of lists, each one's own. -/
def Ty.M {α : Type} (T : Ty α) (eo ei : Nat) (ls : List (List α)) : MO := .mat eo 1 ls.length (fun _ _ => .u) 0 ei T.sz (fun i => (ls.getD i []).length) (fun i a b => T.G (ls.getD i []) a b) none

theorem MOle.mat' {e sz n o ei szi : Nat} {g0 g0' : Nat → Nat → AV} {len len' : Nat → Nat} {g g' : Nat → Nat → Nat → AV} {hole : Option Nat} {n' : Nat} (hn : n = n') (h0 : ∀ i j, i < n → j < sz → j ≠ o → Le (g0 i j) (g0' i j))
    (h : ∀ i, i < n → hole ≠ some i → len i = len' i ∧ ∀ a b, a < len i → b < szi → Le (g i a b) (g' i a b)) : MOle (.mat e sz n g0 o ei szi len g hole) (.mat e sz n' g0' o ei szi len' g' hole) := ⟨rfl, rfl, hn, rfl, rfl, rfl, rfl, h0, h⟩

/-- Lists of lists that are only read. -/
def tL {α : Type} (T : Ty α) : Ty (List α) := ⟨1, fun l _ => T.L l, []⟩
theorem Le.tt' {b : Bool} (h : b = true) : Le (.bool b) .tt := by subst h; exact fun _ _ _ _ h => h
theorem Le.one {x y : AV} (h : Le x y) : ∀ (j : Nat) z, [x][j]? = some z → Le z y := by
  intro j z hz
  cases j with
  | zero => cases hz; exact h
  | succ j => cases hz

/-- Types whose values hold no memory. -/
def Ty.Flat {α : Type} (T : Ty α) : Prop := ∀ x j, j < T.sz → flat (T.enc x j) = true
theorem Ty.R_flat {α : Type} {T : Ty α} (hT : T.Flat) {e : Nat} {l : List α} : FlatM (T.R e l) := fun i j _ hj => hT _ j hj
theorem flat_nil : ∀ m ∈ ([] : List MO), FlatM m := fun m hm => by cases hm
theorem flat_cons {m : MO} {l : List MO} (h1 : FlatM m) (h2 : ∀ m ∈ l, FlatM m) : ∀ x ∈ m :: l, FlatM x := fun x hx => by
  rcases List.mem_cons.mp hx with e | h
  · subst e; exact h1
  · exact h2 x h

/-! ### a list turned from its head on -/
def mapTo {α : Type} (f : α → α) (l : List α) (c : Nat) : List α := (l.take c).map f ++ l.drop c
theorem mapTo_zero {α : Type} (f : α → α) (l : List α) : mapTo f l 0 = l := by simp [mapTo]
theorem mapTo_len {α : Type} (f : α → α) (l : List α) (c : Nat) : (mapTo f l c).length = l.length := by
  simp only [mapTo, List.length_append, List.length_map, List.length_take, List.length_drop]; omega
theorem mapTo_all {α : Type} (f : α → α) (l : List α) : mapTo f l l.length = l.map f := by simp [mapTo]
theorem mapTo_at {α : Type} (f : α → α) (l : List α) (c : Nat) (d : α) (h : c < l.length) : (mapTo f l c).getD c d = l.getD c d := by
  unfold mapTo
  rw [List.getD, List.getElem?_append_right (by simp; omega)]
  simp [List.getD, Nat.min_eq_left (Nat.le_of_lt h)]
theorem mapTo_set {α : Type} (f : α → α) (l : List α) (c : Nat) (d : α) (h : c < l.length) : (mapTo f l c).set c (f (l.getD c d)) = mapTo f l (c + 1) := by
  refine List.ext_getElem (by rw [List.length_set, mapTo_len, mapTo_len]) fun i h1 h2 => ?_
  rw [List.getElem_set]
  rw [mapTo_len] at h2
  by_cases e : c = i
  · subst e
    rw [if_pos rfl]
    simp only [mapTo]
    rw [List.getElem_append_left (by simp; omega)]
    simp [List.getD, h]
  · rw [if_neg e]
    rcases Nat.lt_or_ge i c with h3 | h3
    · simp only [mapTo]
      rw [List.getElem_append_left (by simp; omega), List.getElem_append_left (by simp; omega)]
      simp
    · simp only [mapTo]
      rw [List.getElem_append_right (by simp; omega), List.getElem_append_right (by simp; omega)]
      simp only [List.getElem_drop, List.length_map, List.length_take]
      congr 1
      omega

/-! ### answers of several parts -/
def tupL (l : List AV) : AV := .tup l.length (fun j => l.getD j .u)
theorem ArgsLe.get {xs ys : List AV} (h : ArgsLe xs ys) (j : Nat) (hj : j < xs.length) : Le (xs.getD j .u) (ys.getD j .u) := by
  obtain ⟨h1, h2⟩ := h.at
  have hj2 : j < ys.length := by omega
  obtain ⟨x, hx, hle⟩ := h2 j ys[j] (List.getElem?_eq_getElem hj2)
  rw [List.getD, hx, List.getD, List.getElem?_eq_getElem hj2]
  exact hle
theorem resT {env : Env} {h : Heap} {t u : Nat} {ts : List Nat} {ys : List AV} (hle : ArgsLe ((t :: u :: ts).map fun t => fz h (env t)) ys) : Le (fz h (resAV env (t :: u :: ts))) (V.tupL ys) := by
  have h1 := hle.at.1
  unfold V.tupL
  rw [h1, List.length_map]
  refine Le.tup fun j hj => ?_
  have := hle.get j (by simpa using hj)
  rw [List.getD, List.getElem?_map, List.getElem?_eq_getElem hj] at this
  show Le (fz h (env ((t :: u :: ts).getD j 0))) _
  rw [List.getD, List.getElem?_eq_getElem hj]
  exact this
/-- Code that several ways reach (behind a label): shown once, under whatever its items turn out to be. -/
theorem Run.cutAt {C : Ctx} {env : Env} {h : Heap} {k0 : List Item} (kk : List Item) (A : Ctx → List Item → Prop) (main : A C kk → Run C k0 env h) (g : A C kk) : Run C k0 env h := main g
/-- Behind a goto's label. -/
theorem Run.skipSeq {C : Ctx} {env : Env} {h : Heap} {c : Code} {k : List Item} (hr : Run C (.code c :: k) env h) : Run C (.code (.seq .skip c) :: k) env h := Run.quiet (fun b a cs w => step_seq) (Run.quiet (fun b a cs w => step_skip) hr)
/-- A function whose one answer is an aggregate that lies in a cell. -/
theorem Run.leaveC {C : Ctx} {env : Env} {h : Heap} {k : List Item} {fn : Func} {t : Nat} {ty : TypeId} {m : Nat} {get : Nat → AV} {r : AV} (hk : k = [] ∨ ∃ k', k = .code .ret :: k') (hR : C.R = Post C.S C.w0 r) (hf : C.P.funcs[C.f]? = some fn) (hres : fn.results = #[.cell t ty])
    (hp : placeAt h (env t) = some (m, get)) (hg : isAggT C.T ty = some true) (hm : C.T.cellsOf ty ≤ m) (hle : Le (fz h (.agg (C.T.cellsOf ty) get)) r) : Run C k env h := by
  refine ⟨fun ι a w b cs hb hkd R => ?_⟩
  obtain ⟨ad, had, hc⟩ := placeAt_ok R hp (R.env t)
  let v : Value := .agg ((List.range (C.T.cellsOf ty)).map fun j => (w.cell? (ad.add j)).getD undef).toArray
  have hv : VR w (okB C h ι w) (.agg (C.T.cellsOf ty) get) (rf h ι) v := by
    refine ⟨_, rfl, by simp, fun j hj => ?_⟩
    obtain ⟨cv, c1, c2, c3⟩ := hc j (by omega)
    exact ⟨cv, by simp [hj, c1], c2, c3⟩
  have hrun : (results fn a.tmps).run C.P w = .ok v w := by
    have hl : (loadVar ty ad).run C.P w = .ok v w := run_loadVar_agg hg _ (fun j hj => by obtain ⟨cv, c1, _⟩ := hc j (by omega); rw [c1]; rfl)
    have hm2 : (resM a.tmps (.cell t ty)).run C.P w = .ok v w := by
      show (asAddr (a.tmps.getD t undef) >>= fun ad => loadVar ty ad).run C.P w = _
      rw [had]
      simp only [asAddr, Sem.run_bind, Sem.run_pure, Result.andThen_ok]
      exact hl
    rw [results_eq, hres]
    have : (#[ResultVar.cell t ty].mapM (resM a.tmps)).run C.P w = .ok #[v] w := by
      rw [show (#[ResultVar.cell t ty] : Array ResultVar) = [ResultVar.cell t ty].toArray from rfl, List.mapM_toArray, Sem.run_map]
      simp only [List.mapM_cons, List.mapM_nil, Sem.run_bind, Sem.run_pure, Result.andThen_ok, hm2]
    rw [Sem.run_bind, this]
    rfl
  refine ⟨.returned _, w, { b.at a k with mode := .returning }, ?_, ?_, hb, rfl, R.defers, hkd, fn, by show C.P.funcs[b.fn]? = _; rw [hb]; exact hf, hrun⟩
  · rw [hR]
    refine ⟨_, rfl, R.below, ?_⟩
    refine hle _ _ _ _ (fz_ok R (fun b hb' => ⟨hb'.2.1, hb'.1⟩) (fun id hl g hg => ?_) _ _ hv)
    have := R.base id hl g hg
    exact ⟨.inr this.1, this.2⟩
  · rcases hk with rfl | ⟨k', rfl⟩
    · exact Steps.one step_end
    · exact Steps.one step_ret
end Go.Proofs.YteklnpgiloebcaaGreatDoor.V

namespace Go.Proofs.YteklnpgiloebcaaGreatDoor.V
set_option linter.unusedVariables false
set_option linter.unusedSimpArgs false
open Go
set_option maxRecDepth 100000
theorem wrap32 {a : Int} (h1 : -2147483648 ≤ a) (h2 : a ≤ 2147483647) : IntKind.i32.wrap a = a := by
  show (if (true && decide (a % 4294967296 ≥ 2147483648)) = true then a % 4294967296 - 4294967296 else a % 4294967296) = a
  split
  · rename_i h
    have : a % 4294967296 ≥ 2147483648 := by simpa using h
    omega
  · rename_i h
    have : ¬ a % 4294967296 ≥ 2147483648 := by simpa using h
    omega
theorem and_u8 (m : Nat) (k : Nat) (h : ∀ n : Fin 256, IntKind.u8.wrap ↑(BitVec.ofInt IntKind.u8.bits (n.val : Int) &&& BitVec.ofInt IntKind.u8.bits (m : Int)).toNat = ((n.val % k : Nat) : Int)) (b : Int) (h1 : 0 ≤ b) (h2 : b < 256) :
    IntKind.u8.wrap ↑(BitVec.ofInt IntKind.u8.bits b &&& BitVec.ofInt IntKind.u8.bits (m : Int)).toNat = b % (k : Int) := by
  have := h ⟨b.toNat, by omega⟩
  simp only [Int.toNat_of_nonneg h1] at this
  rw [this]
  simp [Int.toNat_of_nonneg h1]
theorem and_u8_31 (b : Int) (h1 : 0 ≤ b) (h2 : b < 256) : IntKind.u8.wrap ↑(BitVec.ofInt IntKind.u8.bits b &&& BitVec.ofInt IntKind.u8.bits 31).toNat = b % 32 := and_u8 31 32 (by decide +kernel) b h1 h2
theorem and_u8_63 (b : Int) (h1 : 0 ≤ b) (h2 : b < 256) : IntKind.u8.wrap ↑(BitVec.ofInt IntKind.u8.bits b &&& BitVec.ofInt IntKind.u8.bits 63).toNat = b % 64 := and_u8 63 64 (by decide +kernel) b h1 h2
theorem and_u8_15 (b : Int) (h1 : 0 ≤ b) (h2 : b < 256) : IntKind.u8.wrap ↑(BitVec.ofInt IntKind.u8.bits b &&& BitVec.ofInt IntKind.u8.bits 15).toNat = b % 16 := and_u8 15 16 (by decide +kernel) b h1 h2
theorem and_u8_7 (b : Int) (h1 : 0 ≤ b) (h2 : b < 256) : IntKind.u8.wrap ↑(BitVec.ofInt IntKind.u8.bits b &&& BitVec.ofInt IntKind.u8.bits 7).toNat = b % 8 := and_u8 7 8 (by decide +kernel) b h1 h2
theorem or_i32 (x y : Int) (k : Nat) (hx : 0 ≤ x) (hy : 0 ≤ y) (h : x % (2 ^ k : Nat) = 0) (hk : y < (2 ^ k : Nat)) (hs : x + y < 2147483648) :
    IntKind.i32.wrap ↑(BitVec.ofInt IntKind.i32.bits x ||| BitVec.ofInt IntKind.i32.bits y).toNat = x + y := by
  have e1 : (BitVec.ofInt IntKind.i32.bits x).toNat = x.toNat := by
    show (BitVec.ofInt 32 x).toNat = _
    rw [BitVec.toNat_ofInt]; omega
  have e2 : (BitVec.ofInt IntKind.i32.bits y).toNat = y.toNat := by
    show (BitVec.ofInt 32 y).toNat = _
    rw [BitVec.toNat_ofInt]; omega
  rw [BitVec.toNat_or, e1, e2]
  have hd : x.toNat = 2 ^ k * (x.toNat / 2 ^ k) := by
    have : x.toNat % 2 ^ k = 0 := by
      have h3 : ((x.toNat % 2 ^ k : Nat) : Int) = 0 := by rw [Int.natCast_emod, Int.toNat_of_nonneg hx]; exact h
      omega
    have := Nat.div_add_mod x.toNat (2 ^ k)
    omega
  have h4 : y.toNat < 2 ^ k := by
    have : ((y.toNat : Nat) : Int) < (2 ^ k : Nat) := by rw [Int.toNat_of_nonneg hy]; exact hk
    exact_mod_cast this
  have h5 := Nat.two_pow_add_eq_or_of_lt h4 (x.toNat / 2 ^ k)
  rw [← hd] at h5
  rw [← h5]
  have h6 : ((x.toNat + y.toNat : Nat) : Int) = x + y := by omega
  rw [h6]
  exact wrap32 (by omega) (by omega)
theorem bits2 (a b : Int) (ha : 0 ≤ a ∧ a < 256) (hb : 0 ≤ b ∧ b < 256) : IntKind.i32.wrap ↑(BitVec.ofInt IntKind.i32.bits (IntKind.i32.wrap (IntKind.i32.wrap (IntKind.u8.wrap ↑(BitVec.ofInt IntKind.u8.bits a &&& BitVec.ofInt IntKind.u8.bits 31).toNat) * 2 ^ min (Int.toNat 6) IntKind.i32.bits)) ||| BitVec.ofInt IntKind.i32.bits (IntKind.i32.wrap (IntKind.u8.wrap ↑(BitVec.ofInt IntKind.u8.bits b &&& BitVec.ofInt IntKind.u8.bits 63).toNat))).toNat = a % 32 * 64 + b % 64 := by
  rw [and_u8_31 a ha.1 ha.2, and_u8_63 b hb.1 hb.2, wrap32 (a := a % 32) (by omega) (by omega), wrap32 (a := b % 64) (by omega) (by omega)]
  show IntKind.i32.wrap ↑(BitVec.ofInt IntKind.i32.bits (IntKind.i32.wrap (a % 32 * 64)) ||| BitVec.ofInt IntKind.i32.bits (b % 64)).toNat = _
  rw [wrap32 (a := a % 32 * 64) (by omega) (by omega)]
  exact or_i32 _ _ 6 (by omega) (by omega) (by omega) (by omega) (by omega)
theorem bits3 (a b c : Int) (ha : 0 ≤ a ∧ a < 256) (hb : 0 ≤ b ∧ b < 256) (hc : 0 ≤ c ∧ c < 256) : IntKind.i32.wrap ↑(BitVec.ofInt IntKind.i32.bits (IntKind.i32.wrap ↑(BitVec.ofInt IntKind.i32.bits (IntKind.i32.wrap (IntKind.i32.wrap (IntKind.u8.wrap ↑(BitVec.ofInt IntKind.u8.bits a &&& BitVec.ofInt IntKind.u8.bits 15).toNat) * 2 ^ min (Int.toNat 12) IntKind.i32.bits)) ||| BitVec.ofInt IntKind.i32.bits (IntKind.i32.wrap (IntKind.i32.wrap (IntKind.u8.wrap ↑(BitVec.ofInt IntKind.u8.bits b &&& BitVec.ofInt IntKind.u8.bits 63).toNat) * 2 ^ min (Int.toNat 6) IntKind.i32.bits))).toNat) ||| BitVec.ofInt IntKind.i32.bits (IntKind.i32.wrap (IntKind.u8.wrap ↑(BitVec.ofInt IntKind.u8.bits c &&& BitVec.ofInt IntKind.u8.bits 63).toNat))).toNat = a % 16 * 4096 + b % 64 * 64 + c % 64 := by
  rw [and_u8_15 a ha.1 ha.2, and_u8_63 b hb.1 hb.2, and_u8_63 c hc.1 hc.2, wrap32 (a := a % 16) (by omega) (by omega), wrap32 (a := b % 64) (by omega) (by omega), wrap32 (a := c % 64) (by omega) (by omega)]
  show IntKind.i32.wrap ↑(BitVec.ofInt IntKind.i32.bits (IntKind.i32.wrap ↑(BitVec.ofInt IntKind.i32.bits (IntKind.i32.wrap (a % 16 * 4096)) ||| BitVec.ofInt IntKind.i32.bits (IntKind.i32.wrap (b % 64 * 64))).toNat) ||| BitVec.ofInt IntKind.i32.bits (c % 64)).toNat = _
  rw [wrap32 (a := a % 16 * 4096) (by omega) (by omega), wrap32 (a := b % 64 * 64) (by omega) (by omega), or_i32 (a % 16 * 4096) (b % 64 * 64) 12 (by omega) (by omega) (by omega) (by omega) (by omega)]
  exact or_i32 _ _ 6 (by omega) (by omega) (by omega) (by omega) (by omega)
theorem bits4 (a b c d : Int) (ha : 0 ≤ a ∧ a < 256) (hb : 0 ≤ b ∧ b < 256) (hc : 0 ≤ c ∧ c < 256) (hd : 0 ≤ d ∧ d < 256) : IntKind.i32.wrap ↑(BitVec.ofInt IntKind.i32.bits (IntKind.i32.wrap ↑(BitVec.ofInt IntKind.i32.bits (IntKind.i32.wrap ↑(BitVec.ofInt IntKind.i32.bits (IntKind.i32.wrap (IntKind.i32.wrap (IntKind.u8.wrap ↑(BitVec.ofInt IntKind.u8.bits a &&& BitVec.ofInt IntKind.u8.bits 7).toNat) * 2 ^ min (Int.toNat 18) IntKind.i32.bits)) ||| BitVec.ofInt IntKind.i32.bits (IntKind.i32.wrap (IntKind.i32.wrap (IntKind.u8.wrap ↑(BitVec.ofInt IntKind.u8.bits b &&& BitVec.ofInt IntKind.u8.bits 63).toNat) * 2 ^ min (Int.toNat 12) IntKind.i32.bits))).toNat) ||| BitVec.ofInt IntKind.i32.bits (IntKind.i32.wrap (IntKind.i32.wrap (IntKind.u8.wrap ↑(BitVec.ofInt IntKind.u8.bits c &&& BitVec.ofInt IntKind.u8.bits 63).toNat) * 2 ^ min (Int.toNat 6) IntKind.i32.bits))).toNat) ||| BitVec.ofInt IntKind.i32.bits (IntKind.i32.wrap (IntKind.u8.wrap ↑(BitVec.ofInt IntKind.u8.bits d &&& BitVec.ofInt IntKind.u8.bits 63).toNat))).toNat = a % 8 * 262144 + b % 64 * 4096 + c % 64 * 64 + d % 64 := by
  rw [and_u8_7 a ha.1 ha.2, and_u8_63 b hb.1 hb.2, and_u8_63 c hc.1 hc.2, and_u8_63 d hd.1 hd.2, wrap32 (a := a % 8) (by omega) (by omega), wrap32 (a := b % 64) (by omega) (by omega), wrap32 (a := c % 64) (by omega) (by omega), wrap32 (a := d % 64) (by omega) (by omega)]
  show IntKind.i32.wrap ↑(BitVec.ofInt IntKind.i32.bits (IntKind.i32.wrap ↑(BitVec.ofInt IntKind.i32.bits (IntKind.i32.wrap ↑(BitVec.ofInt IntKind.i32.bits (IntKind.i32.wrap (a % 8 * 262144)) ||| BitVec.ofInt IntKind.i32.bits (IntKind.i32.wrap (b % 64 * 4096))).toNat) ||| BitVec.ofInt IntKind.i32.bits (IntKind.i32.wrap (c % 64 * 64))).toNat) ||| BitVec.ofInt IntKind.i32.bits (d % 64)).toNat = _
  rw [wrap32 (a := a % 8 * 262144) (by omega) (by omega), wrap32 (a := b % 64 * 4096) (by omega) (by omega), wrap32 (a := c % 64 * 64) (by omega) (by omega), or_i32 (a % 8 * 262144) (b % 64 * 4096) 18 (by omega) (by omega) (by omega) (by omega) (by omega), or_i32 (a % 8 * 262144 + b % 64 * 4096) (c % 64 * 64) 12 (by omega) (by omega) (by omega) (by omega) (by omega)]
  exact or_i32 _ _ 6 (by omega) (by omega) (by omega) (by omega) (by omega)
end Go.Proofs.YteklnpgiloebcaaGreatDoor.V

namespace Go.Proofs.YteklnpgiloebcaaGreatDoor.V
set_option linter.unusedVariables false
set_option linter.unusedSimpArgs false
open Go Go.RowKit Go.ChangeShapes Go.WideShapes Go.ChangeAt

/-- Cells that read as x. -/
def CellsAt {α : Type} (w : World) (T : Ty α) (x : α) (off : Nat) (cs : List Value) : Prop := ∀ j, j < T.sz → ∃ cv, cs[off + j]? = some cv ∧ cv.oneCell' = true ∧ VR w (fun b => b < w.heap.size) (T.enc x j) noref cv

structure Dec (P : Program) (t : TypeId) {α : Type} (T : Ty α) (bk : α → Nat) : Prop where
  size : P.cellsOf t = T.sz
  read : ∀ {H : Type} (enc : TypeId × Value → H) (w : World) (fuel : Nat) (cs : List Value) (d : DataW H) ps, DataW.trod enc P w 0 (fun _ => true) true fuel t cs = some (d, ps) →
    ∃ x : α, CellsAt w T x 0 cs ∧ bk x ≤ Rows.uptoBulk d

theorem cells_one1 {α : Type} {w : World} {T : Ty α} {x : α} {v : Value} (hs : T.sz = 1) (h1 : v.oneCell' = true) (hv : VR w (fun b => b < w.heap.size) (T.enc x 0) noref v) : CellsAt w T x 0 [v] := by
  intro j hj
  have : j = 0 := by omega
  subst this
  exact ⟨v, rfl, h1, hv⟩
def tK (k : IntKind) : Ty Int := ⟨1, fun x _ => .int k x, 0⟩
theorem Dec.int {P : Program} {t : TypeId} {k : IntKind} (hu : P.underlying t = some (.int k)) (hc : P.cellsOf t = 1) : Dec P t (tK k) (fun _ => 1) := by
  refine ⟨hc, fun enc w fuel cs d ps h => ?_⟩
  obtain ⟨n, rfl, e, _⟩ := DataW.trod_int hu h
  cases e
  exact ⟨n, cells_one1 rfl rfl rfl, by simp [Rows.uptoBulk]⟩
theorem Dec.str {P : Program} {t : TypeId} (hu : P.underlying t = some .string) (hc : P.cellsOf t = 1) : Dec P t tS (fun x => x.size + 1) := by
  refine ⟨hc, fun enc w fuel cs d ps h => ?_⟩
  obtain ⟨n, rfl, e, hs⟩ := DataW.trod_string hu h
  cases e
  exact ⟨n, cells_one1 rfl rfl ⟨rfl, hs⟩, by simp [Rows.uptoBulk]⟩

def sumL {α : Type} (bk : α → Nat) : List α → Nat
  | [] => 0
  | x :: l => bk x + sumL bk l
theorem sumL_append {α : Type} (bk : α → Nat) (l m : List α) : sumL bk (l ++ m) = sumL bk l + sumL bk m := by
  induction l with
  | nil => simp [sumL]
  | cons x l ih => simp only [List.cons_append, sumL, ih]; omega
theorem sumL_mem {α : Type} (bk : α → Nat) {l : List α} {x : α} (h : x ∈ l) : bk x ≤ sumL bk l := by
  induction l with
  | nil => cases h
  | cons y l ih =>
    rcases List.mem_cons.mp h with e | h'
    · subst e; simp [sumL]
    · have := ih h'; simp only [sumL]; omega
theorem sumL_len {α : Type} (bk : α → Nat) (h1 : ∀ x, 1 ≤ bk x) (l : List α) : l.length ≤ sumL bk l := by
  induction l with
  | nil => simp
  | cons x l ih => have := h1 x; simp only [sumL, List.length_cons]; omega

theorem bulkAll_append {H : Type} (l r : List (DataW H)) : Rows.uptoBulkAll (l ++ r) = Rows.uptoBulkAll l + Rows.uptoBulkAll r := by
  induction l with
  | nil => simp [Rows.uptoBulkAll]
  | cons y l ih => simp only [List.cons_append, Rows.uptoBulkAll, ih]; omega
theorem Dec.slice {P : Program} {t e : TypeId} {α : Type} {T : Ty α} {bk : α → Nat} (hu : P.underlying t = some (.slice e)) (hc : P.cellsOf t = 1) (hz : 0 < T.sz) (D : Dec P e T bk) : Dec P t (tL T) (fun l => sumL bk l + 1) := by
  refine ⟨hc, fun enc w fuel cs d ps h => ?_⟩
  rcases DataW.trod_slice hu h with ⟨rfl, ed⟩ | ⟨a, len, cap, elems, rest, n, rfl, rfl, ed, hb, hl, hcap, hlen, hel, _, _⟩
  · cases ed
    exact ⟨[], cells_one1 rfl rfl (Ty.nil T _ _ _ _ rfl), by simp [Rows.uptoBulk, sumL]⟩
  · cases ed
    have key : ∀ m, m ≤ len → ∃ l : List α, l.length = m ∧ (∀ i, i < m → ∃ cs, w.cells? 0 (a.add (i * P.cellsOf e)) (P.cellsOf e) = some cs ∧ CellsAt w T (l.getD i T.z) 0 cs) ∧ sumL bk l ≤ Rows.uptoBulkAll ((elems.take m).map (·.1)) := by
      intro m
      induction m with
      | zero => intro _; exact ⟨[], rfl, fun i hi => absurd hi (Nat.not_lt_zero _), by simp [sumL]⟩
      | succ m ih =>
        intro hm
        obtain ⟨l, h1, h2, h3⟩ := ih (by omega)
        have he := hel m (by omega)
        rw [List.getElem?_eq_getElem (by omega : m < elems.length)] at he
        simp only [Option.bind_eq_some_iff] at he
        obtain ⟨csm, hcs, htr⟩ := he
        obtain ⟨x, hx, hbx⟩ := D.read enc w n csm elems[m].1 elems[m].2 htr
        refine ⟨l ++ [x], by simp [h1], fun i hi => ?_, ?_⟩
        · rcases Nat.lt_or_ge i m with h' | h'
          · obtain ⟨cs, h4, h5⟩ := h2 i h'
            refine ⟨cs, h4, ?_⟩
            rw [show (l ++ [x]).getD i T.z = l.getD i T.z by simp [List.getD, List.getElem?_append_left (by omega : i < l.length)]]
            exact h5
          · have : i = m := by omega
            subst this
            refine ⟨csm, hcs, ?_⟩
            rw [show (l ++ [x]).getD i T.z = x by simp [List.getD, List.getElem?_append_right (by omega : l.length ≤ i), h1]]
            exact hx
        · have ht : elems.take (m + 1) = elems.take m ++ [elems[m]] := by rw [List.take_add_one, List.getElem?_eq_getElem (by omega : m < elems.length)]; rfl
          rw [sumL_append, ht, List.map_append, bulkAll_append]
          simp only [sumL, List.map_cons, List.map_nil, Rows.uptoBulkAll]
          omega
    obtain ⟨l, h1, h2, h3⟩ := key len (Nat.le_refl _)
    refine ⟨l, cells_one1 rfl rfl ⟨some a, cap, by rw [h1], by omega, hcap, (fun e => by cases e), fun hn => ⟨a, rfl, ?_, fun i j hi hj => ?_⟩⟩, ?_⟩
    · obtain ⟨cs, h4, h5⟩ := h2 0 (by omega)
      have := World.cells?_block h4 (by rw [D.size]; exact hz)
      simpa [addr_block] using this
    · obtain ⟨cs, h4, h5⟩ := h2 i (by omega)
      obtain ⟨cv, c1, c2, c3⟩ := h5 j hj
      obtain ⟨_, _, h6⟩ := World.cells?_some h4
      refine ⟨cv, ?_, c2, c3⟩
      have := h6 j (by rw [D.size]; exact hj)
      rw [addr_add, D.size] at this
      rw [this]; simpa using c1
    · rw [List.take_of_length_le (by omega)] at h3
      simp only [Rows.uptoBulk]
      omega

/-! ### structs, field by field -/
structure DecF (P : Program) (fs : List Field) (off : Nat) {α : Type} (T : Ty α) (bk : α → Nat) : Prop where
  read : ∀ {H : Type} (enc : TypeId × Value → H) (w : World) (fuel : Nat) (cs : List Value) (xs : List (DataW H × List MemPlace)), xs.length = fs.length →
    (∀ (i : Nat) (f : Field), fs[i]? = some f → DataW.trod enc P w 0 (fun _ => true) true fuel f.type ((cs.drop f.offset).take (P.cellsOf f.type)) = xs[i]?) →
    ∃ x : α, CellsAt w T x off cs ∧ bk x ≤ Rows.uptoBulkAll (xs.map (·.1))
def tU : Ty Unit := ⟨0, fun _ _ => .u, ()⟩
def tP {α β : Type} (T : Ty α) (U : Ty β) : Ty (α × β) := ⟨T.sz + U.sz, fun x j => cond (Nat.blt j T.sz) (T.enc x.1 j) (U.enc x.2 (j - T.sz)), (T.z, U.z)⟩
theorem DecF.nil {P : Program} {off : Nat} : DecF P [] off tU (fun _ => 0) := ⟨fun enc w fuel cs xs _ _ => ⟨(), fun j hj => absurd hj (Nat.not_lt_zero _), Nat.zero_le _⟩⟩
theorem DecF.cons {P : Program} {f : Field} {fs : List Field} {off : Nat} {α β : Type} {T : Ty α} {U : Ty β} {bk : α → Nat} {bu : β → Nat} (ho : f.offset = off) (D : Dec P f.type T bk) (F : DecF P fs (off + T.sz) U bu) :
    DecF P (f :: fs) off (tP T U) (fun x => bk x.1 + bu x.2) := by
  refine ⟨fun enc w fuel cs xs hl h => ?_⟩
  cases xs with
  | nil => simp at hl
  | cons y ys =>
    have h0 := h 0 f rfl
    obtain ⟨x, hx, hbx⟩ := D.read enc w fuel _ y.1 y.2 (by rw [h0]; rfl)
    obtain ⟨u, hu, hbu⟩ := F.read enc w fuel cs ys (by simpa using hl) (fun i g hg => by simpa using h (i + 1) g (by simpa using hg))
    refine ⟨(x, u), fun j hj => ?_, by simp only [List.map_cons, Rows.uptoBulkAll]; omega⟩
    unfold tP at hj ⊢
    simp only at hj ⊢
    by_cases hjt : j < T.sz
    · rw [show Nat.blt j T.sz = true by rw [Nat.blt_eq]; exact hjt, cond_true]
      obtain ⟨cv, c1, c2, c3⟩ := hx j hjt
      refine ⟨cv, ?_, c2, c3⟩
      rw [Nat.zero_add, List.getElem?_take_of_lt (by rw [D.size]; exact hjt), List.getElem?_drop, ho] at c1
      exact c1
    · rw [show Nat.blt j T.sz = false by rw [Bool.eq_false_iff]; intro e; rw [Nat.blt_eq] at e; exact hjt e, cond_false]
      obtain ⟨cv, c1, c2, c3⟩ := hu (j - T.sz) (by omega)
      exact ⟨cv, by rw [show off + j = off + T.sz + (j - T.sz) by omega]; exact c1, c2, c3⟩
theorem Dec.struct {P : Program} {t : TypeId} {fs : Array Field} {α : Type} {T : Ty α} {bk : α → Nat} (hu : P.underlying t = some (.struct fs)) (hc : P.cellsOf t = T.sz) (F : DecF P fs.toList 0 T bk) : Dec P t T (fun x => bk x + 1) := by
  refine ⟨hc, fun enc w fuel cs d ps h => ?_⟩
  obtain ⟨xs, n, rfl, ed, hl, hlx, hf⟩ := DataW.trod_struct hu h
  cases ed
  obtain ⟨x, hx, hb⟩ := F.read enc w n cs xs (by simpa using hlx) (fun i f hif => hf i f (by simpa using hif))
  exact ⟨x, hx, by simp only [Rows.uptoBulk]; omega⟩
theorem Dec.map {P : Program} {t : TypeId} {α β : Type} {T : Ty α} {T' : Ty β} {bk : α → Nat} {bk' : β → Nat} (f : α → β) (hs : T'.sz = T.sz) (hle : ∀ x j, j < T.sz → Le (T.enc x j) (T'.enc (f x) j)) (hb : ∀ x, bk' (f x) ≤ bk x) (D : Dec P t T bk) : Dec P t T' bk' := by
  refine ⟨D.size.trans hs.symm, fun enc w fuel cs d ps h => ?_⟩
  obtain ⟨x, hx, hbx⟩ := D.read enc w fuel cs d ps h
  refine ⟨f x, fun j hj => ?_, Nat.le_trans (hb x) hbx⟩
  obtain ⟨cv, c1, c2, c3⟩ := hx j (by omega)
  exact ⟨cv, c1, c2, hle x j (by omega) _ _ _ _ c3⟩

/-! ### arguments -/
structure Arg (P : Program) (t : TypeId) {α : Type} (E : α → AV) (bk : α → Nat) : Prop where
  read : ∀ {H : Type} (enc : TypeId × Value → H) (W : World) (base : Nat) (v : Value) (d : DataW H) ps, Value.okWide P W .any base t v → DataW.Trod enc P W 0 (fun _ => true) true t v d ps →
    ∃ x : α, VR W (fun b => b < W.heap.size) (E x) noref v ∧ bk x ≤ Rows.uptoBulk d
theorem Arg.struct {P : Program} {t : TypeId} {fs : Array Field} {α : Type} {T : Ty α} {bk : α → Nat} (hu : P.underlying t = some (.struct fs)) (D : Dec P t T bk) : Arg P t (fun x => .agg T.sz (T.enc x)) bk := by
  refine ⟨fun enc W base v d ps ok ⟨fuel, h⟩ => ?_⟩
  obtain ⟨cs, rfl, hsz⟩ := okWide_struct hu ok
  obtain ⟨x, hx, hb⟩ := D.read enc W fuel _ d ps h
  refine ⟨x, ⟨cs, rfl, by rw [hsz, D.size], fun j hj => ?_⟩, hb⟩
  obtain ⟨cv, c1, c2, c3⟩ := hx j hj
  exact ⟨cv, by simpa [Value.cells] using c1, c2, c3⟩

structure ArgsD (P : Program) (ts : List TypeId) (G : List AV → Nat → Prop) : Prop where
  read : ∀ {H : Type} (enc : TypeId × Value → H) (W : World) (base : Nat) (vs : List Value) (ds : List (DataW H)) ps, (∀ (j : Nat) t v, ts[j]? = some t → vs[j]? = some v → Value.okWide P W .any base t v) →
    DataW.TrodAll enc P W 0 (fun _ => true) true ts vs ds ps →
    ∃ avs b, G avs b ∧ b ≤ Rows.uptoBulkAll ds ∧ avs.length = vs.length ∧ ∀ (i : Nat) x v, avs[i]? = some x → vs[i]? = some v → VR W (fun b => b < W.heap.size) x noref v
theorem ArgsD.nil {P : Program} : ArgsD P [] (fun avs b => avs = [] ∧ b = 0) := by
  refine ⟨fun enc W base vs ds ps ok h => ?_⟩
  obtain ⟨rfl, rfl, rfl⟩ := trodAll_nil h
  exact ⟨[], 0, ⟨rfl, rfl⟩, Nat.zero_le _, rfl, fun i x v hx => by cases hx⟩
theorem ArgsD.cons {P : Program} {t : TypeId} {ts : List TypeId} {α : Type} {E : α → AV} {bk : α → Nat} {G : List AV → Nat → Prop} (A : Arg P t E bk) (As : ArgsD P ts G) : ArgsD P (t :: ts) (fun avs b => ∃ x avs' b', avs = E x :: avs' ∧ b = bk x + b' ∧ G avs' b') := by
  refine ⟨fun enc W base vs ds ps ok h => ?_⟩
  obtain ⟨v, vs', d, ds', p, q, rfl, rfl, rfl, hd, hrest⟩ := trodAll_cons h
  obtain ⟨x, hx, hb⟩ := A.read enc W base v d p (ok 0 t v rfl rfl) hd
  obtain ⟨avs, b, hG, hb2, hlen, hall⟩ := As.read enc W base vs' ds' q (fun j t v h1 h2 => ok (j + 1) t v (by simpa using h1) (by simpa using h2)) hrest
  refine ⟨E x :: avs, bk x + b, ⟨x, avs, b, rfl, rfl, hG⟩, by simp only [Rows.uptoBulkAll]; omega, by simp [hlen], fun i y u hy hu => ?_⟩
  cases i with
  | zero => cases hy; cases hu; exact hx
  | succ i => exact hall i y u hy hu

/-- The law's call: true, and nothing that was there has turned. -/
theorem ArgsD.calls {P : Program} {f : FuncId} {ts : List TypeId} {G : List AV → Nat → Prop} (A : ArgsD P ts G) {B : Nat} (hfn : ∀ avs b, G avs b → b ≤ B → Fn P f avs .tt) {H : Type} (enc : TypeId × Value → H) (W : World) (base : Nat) (args : Array Value) (ds : List (DataW H)) ps (gl : GlobOk (fun b => b < W.heap.size) W)
    (ok : ∀ (j : Nat) t v, ts[j]? = some t → args[j]? = some v → Value.okWide P W .any base t v) (h : DataW.TrodAll enc P W 0 (fun _ => true) true ts args.toList ds ps) (hB : Rows.uptoBulkAll ds ≤ B) :
    Calls P f args W fun e W' => e = .returned (.bool true) ∧ Below W.heap.size W W' := by
  obtain ⟨avs, b, hG, hb, hlen, hall⟩ := A.read enc W base args.toList ds ps (fun j t v h1 h2 => ok j t v h1 (by simpa using h2)) h
  refine ((hfn avs b hG (by omega)).calls (fun b => b < W.heap.size) W args (fun b hb => hb) gl (by simpa using hlen) (fun i x v hx hv => hall i x v hx (by simpa using hv))).mono ?_
  rintro e W' ⟨v, rfl, hbel, hv⟩
  have : v = .bool true := hv
  subst this
  exact ⟨rfl, hbel⟩
/-- The arguments read as they did. -/
theorem stay {P : Program} (hl : laidOutB P = true) {H : Type} {enc : TypeId × Value → H} {W W' : World} (hb : Below W.heap.size W W') : ∀ {ts : List TypeId}, (ts.all fun t => P.readableRec t && Nat.blt t P.types.size) = true → ∀ {vs : List Value} {ds : List (DataW H)} {ps : List MemPlace},
    DataW.TrodAll enc P W 0 (fun _ => true) true ts vs ds ps → DataW.TrodAll enc P W' 0 (fun b => decide (b < W.heap.size)) true ts vs ds ps
  | [], _, vs, ds, ps, h => by obtain ⟨rfl, rfl, rfl⟩ := trodAll_nil h; exact trodAll_mk0
  | t :: ts, ht, vs, ds, ps, h => by
    obtain ⟨v, vs', d, ds', p, q, rfl, rfl, rfl, hd, hrest⟩ := trodAll_cons h
    rw [List.all_cons, Bool.and_eq_true, Bool.and_eq_true] at ht
    refine trodAll_cons_mk (Below.trod hl ht.1.1 (by simpa [Nat.blt_eq] using ht.1.2) hd hb ?_) (stay hl hb ht.2 hrest)
    obtain ⟨m, hm⟩ := hd
    exact DataW.trod_lt m _ _ _ hm
end Go.Proofs.YteklnpgiloebcaaGreatDoor.V

namespace Go.Proofs.YteklnpgiloebcaaGreatDoor.V
set_option linter.unusedVariables false
set_option linter.unusedSimpArgs false
open Go Go.RowKit
theorem Ty.setAt {α : Type} (T : Ty α) (e : Nat) (l : List α) (i i0 o o0 : Nat) (x : α) (hi : i < l.length) (e1 : i0 = i) (e2 : o0 = o) (cs : List AV) (hc : ∀ (j : Nat) y, cs[j]? = some y → Le y (T.enc x (o + j))) (ho : ∀ j, j < T.sz → j < o ∨ o + cs.length ≤ j → Le (T.enc (l.getD i T.z) j) (T.enc x j)) :
    MOle (.row e T.sz l.length (updRow (T.G l) i0 o0 cs)) (T.R e (l.set i x)) := by
  subst e1; subst e2
  refine ⟨rfl, rfl, by simp, fun i' j hi' hj => ?_⟩
  unfold updRow Ty.G
  by_cases hii : i' = i0
  · subst hii
    have : (l.set i' x).getD i' T.z = x := by simp [List.getD, hi]
    rw [this]
    by_cases hin : o0 ≤ j ∧ j < o0 + cs.length
    · rw [if_pos ⟨rfl, hin⟩]
      have hj2 : j - o0 < cs.length := by omega
      rw [List.getD, List.getElem?_eq_getElem hj2]
      have := hc (j - o0) _ (List.getElem?_eq_getElem hj2)
      rw [show o0 + (j - o0) = j by omega] at this
      exact this
    · rw [if_neg (fun h => hin h.2)]
      exact ho j hj (by omega)
  · rw [if_neg (fun h => hii h.1)]
    have : (l.set i0 x).getD i' T.z = l.getD i' T.z := by simp [List.getD, List.getElem?_set_ne (Ne.symm hii)]
    rw [this]; exact Le.refl _
end Go.Proofs.YteklnpgiloebcaaGreatDoor.V

namespace Go.Proofs.YteklnpgiloebcaaGreatDoor.V
set_option linter.unusedVariables false
set_option linter.unusedSimpArgs false
open Go Go.RowKit

/-- The callee has come back to the caller's slots: a's. -/
def RetQ (C : Ctx) (a : Act) (K : Env → Heap → AV → Prop) (e : Ending) (w' : World) : Prop :=
  ∃ v ι' env' h' x, e = .returned v ∧ Rel C env' h' ι' a w' ∧ VR w' (okB C h' ι' w') x (rf h' ι') v ∧ K env' h' x

/-- What the callee is walked in. -/
def Ctx.sub (C : Ctx) (f : FuncId) (N : Nat) (a : Act) (K : Env → Heap → AV → Prop) : Ctx := { C with N := N, f := f, R := RetQ C a K }

theorem Run.inline {C : Ctx} {env : Env} {h : Heap} {ops : Array Oper} {i : Nat} {rest : List Nat} {k : List Item} {o : Oper} {f : FuncId} {xs : List Operand} (F : Nat) (fn : Func) (c : Code) (N : Nat)
    (ho : ops.toList[i]? = some o) (hc : calls? o = some (f, xs)) (hf : C.P.funcs[f]? = some fn) (hb : fn.body = some c) (hname : fn.name ≠ "runtime.NumGoroutine") (hN : fn.ntmps = N) (hn : xs.length ≤ N)
    (hd : okD C.N o.dst = true) (hr : ready env ops o = true)
    (sub : ∀ a : Act, a.tmps.size = C.N → a.defers = [] → Run (C.sub f N a (fun env' h' x => Run C (.inRegion ops rest :: k) (putE env' o.dst x) h')) [.code c] (envOf (xs.map (ev (scrubE F env)))) (upd (upd (scrubH F h) F .dead) F (.frame a.tmps (scrubE F env)))) :
    Run C (.inRegion ops (i :: rest) :: k) env h := by
  subst hN
  refine Run.of_step fun ι a w b cs _ R => ?_
  have ho' : ops[i]? = some o := by simpa using ho
  obtain ⟨R2, hok2, S2⟩ := R.make F F (.frame a.tmps (scrubE F env)) .nilIface w (Below.refl _ _) (fun _ _ => rfl) (fun _ _ _ _ _ _ => rfl) rfl (fun g hg => by cases hg) (fun g hg => by cases hg) (fun _ _ _ _ g _ e => by cases e)
    (fun ok r hok hS hrr => by
      subst hrr
      exact fun j => VR.scrub hS hok (fun _ _ => rfl) _ _ (R.env j))
  have hcalls : Calls C.P f (xs.map a.eval).toArray w (RetQ C a (fun env' h' x => Run C (.inRegion ops rest :: k) (putE env' o.dst x) h')) := by
    intro cs2
    let b2 : Frame := { (default : Frame) with fn := f, kind := .normal }
    have henter : Frame.enter C.P f (xs.map a.eval).toArray .normal = b2.at { tmps := (xs.map a.eval).toArray ++ Array.replicate (fn.ntmps - (xs.map a.eval).toArray.size) undef, defers := [] } [.code c] := by
      simp [Frame.enter, Frame.at, hf, hb, b2]
    rw [henter]
    refine (sub a R.size R.defers).run (upd ι F (fun _ => .nilIface)) _ w b2 cs2 rfl rfl ?_
    constructor
    · exact R.below
    · rfl
    · show ((xs.map a.eval).toArray ++ Array.replicate (fn.ntmps - (xs.map a.eval).toArray.size) undef).size = fn.ntmps
      simp; omega
    · intro j
      show VR w _ (envOf (xs.map (ev (scrubE F env))) j) _ _
      unfold envOf
      cases hx : xs[j]? with
      | none =>
        have : (xs.map (ev (scrubE F env))).getD j .u = .u := by simp [List.getD, hx]
        rw [this]; trivial
      | some y =>
        have hj : j < xs.length := by
          rcases Nat.lt_or_ge j xs.length with h' | h'
          · exact h'
          · rw [List.getElem?_eq_none h'] at hx; cases hx
        have e1 : (xs.map (ev (scrubE F env))).getD j .u = ev (scrubE F env) y := by simp [List.getD, hx]
        have e2 : ((xs.map a.eval).toArray ++ Array.replicate (fn.ntmps - (xs.map a.eval).toArray.size) undef).getD j undef = a.eval y := by
          rw [Array.getD_eq_getD_getElem?, Array.getElem?_append_left (by simpa using hj)]
          simp [hx]
        rw [e1, e2]
        exact ev_ok R2 y
    · exact R2.obj
    · exact R2.one
    · exact R2.base
    · exact R2.apart
  obtain ⟨v, w', ⟨v', ι', env', h', x, e, R', hv, hk⟩, hst⟩ := step_call (b := b) (k := k) (cs := cs) (rest := rest) ho' (ready_ok hr R) (exec_call hc ⟨fn, hf, hname, by rw [hb]; rfl⟩ a w) hcalls (fun e w' ⟨v, _, _, _, _, h, _⟩ => ⟨v, h⟩)
  cases e
  exact ⟨_, h', ι', _, w', _, hst, R'.put hv hd, hk⟩

/-- Back from a call gone through in place: one answer, or none. -/
theorem Run.back {C : Ctx} {a : Act} {f : FuncId} {N : Nat} {K : Env → Heap → AV → Prop} {env : Env} {h : Heap} {k : List Item} (F : Nat) {E : Env} {fn : Func} {ts : List Nat} (hsz : a.tmps.size = C.N) (hdf : a.defers = []) (hk : k = [] ∨ ∃ k', k = .code .ret :: k')
    (hfr : h F = .frame a.tmps E) (hf : C.P.funcs[f]? = some fn) (hres : fn.results = (ts.map ResultVar.tmp).toArray) (hK : K E (upd h F .dead) (resAV env ts)) : Run (C.sub f N a K) k env h := by
  refine ⟨fun ι a2 w b cs hb hkd R => ?_⟩
  obtain ⟨R2, hok, hrf⟩ := R.kill F
  have hfo : ∀ i, VR w (okB (C.sub f N a K) h ι w) (E i) (rf h ι) (a.tmps.getD i undef) := by
    have := R.obj F
    rw [hfr] at this
    exact this
  have Rc : Rel C E (upd h F .dead) ι a w := by
    constructor
    · exact R2.below
    · exact hdf
    · exact hsz
    · exact fun i => VR.mono hok (fun _ _ => rfl) _ _ _ _ hrf (hfo i)
    · exact R2.obj
    · exact R2.one
    · exact R2.base
    · exact R2.apart
  have hv : VR w (okB C (upd h F .dead) ι w) (resAV env ts) (rf (upd h F .dead) ι) (resV a2.tmps ts) := by
    match ts, hres with
    | [t], _ => exact R2.env t
    | [], _ => exact ⟨#[], rfl, rfl, fun j hj => by cases hj⟩
    | t :: u :: ts, _ =>
      refine ⟨_, rfl, by simp, fun j hj => ?_⟩
      refine ⟨a2.tmps.getD ((t :: u :: ts).getD j 0) undef, ?_, R2.env _⟩
      rw [List.getElem?_toArray, List.getElem?_map, List.getElem?_eq_getElem hj, List.getD, List.getElem?_eq_getElem hj]
      rfl
  refine ⟨.returned _, w, { b.at a2 k with mode := .returning }, ⟨_, ι, E, upd h F .dead, _, rfl, Rc, hv, hK⟩, ?_, hb, rfl, R.defers, hkd, fn, by show C.P.funcs[b.fn]? = _; rw [hb]; exact hf, results_run hres a2.tmps w⟩
  rcases hk with rfl | ⟨k', rfl⟩
  · exact Steps.one step_end
  · exact Steps.one step_ret

/-- One operation that the engine does not know: what it does is handed in. -/
theorem Run.opG {C : Ctx} {env : Env} {h : Heap} {o : Oper} {ops : Array Oper} {i : Nat} {rest : List Nat} {k : List Item} (K : Env → Heap → AV → Prop) (ho : ops.toList[i]? = some o) (hd : okD C.N o.dst = true) (hr : ready env ops o = true)
    (hop : ∀ ι a w, Rel C env h ι a w → OpOut C a w o K) (hK : ∀ env' h' x, K env' h' x → Run C (.inRegion ops rest :: k) (putE env' o.dst x) h') : Run C (.inRegion ops (i :: rest) :: k) env h :=
  ⟨fun ι a w b cs hb hkd R => by
    obtain ⟨nx, v, w', ι', env', h', x, hr1, hv, R', hx, hk⟩ := hop ι a w R
    have hst := step_op_ok (b := b) (k := k) (cs := cs) (rest := rest) (by simpa using ho) (ready_ok hr R) hr1 hv
    obtain ⟨e, w2, fr, h1, h2, h3⟩ := (hK env' h' x hk).run ι' (a.put o.dst v) w' b cs hb hkd (R'.put hx hd)
    exact ⟨e, w2, fr, h1, Comes.of_steps (.one hst) h2, h3⟩⟩

theorem box_shape {C : Ctx} {env : Env} {h : Heap} {ι : Loc} {a : Act} {w : World} (R : Rel C env h ι a w) {id : Nat} {t : TypeId} {l : List AV} (hb : h id = .box t l) : ∃ g, ι id 0 = .pointer (some ⟨g, 0, none⟩) ∧ w.shape? g = some (t, l.length) := by
  have := R.obj id
  rw [hb] at this
  obtain ⟨g, cs, h1, h2, h3, _⟩ := this
  exact ⟨g, h1, by simp [World.shape?, h2, h3]⟩
/-- A box's address turned to unsafe.Pointer: the address as it is. -/
theorem Run.toUnsafe {C : Ctx} {env : Env} {h : Heap} {o : Oper} {ops : Array Oper} {i : Nat} {rest : List Nat} {k : List Item} {src dst t e : TypeId} {x : Operand} {id : Nat} {l : List AV} {j : TypeInfo} (ho : ops.toList[i]? = some o) (hc : o.op = .convert src dst x) (hd : okD C.N o.dst = true) (hr : ready env ops o = true)
    (hx : ev env x = .box id 0) (hb : h id = .box e l) (hl : 0 < l.length) (hs : C.P.underlying src = some (.pointer t)) (hds : C.P.underlying dst = some .unsafePointer) (ht : C.P.info? t = some j) (hj : j.size ≠ 0)
    (next : Run C (.inRegion ops rest :: k) (putE env o.dst (.box id 0)) h) : Run C (.inRegion ops (i :: rest) :: k) env h :=
  Run.opG (fun env' h' y => env' = env ∧ h' = h ∧ y = .box id 0) ho hd hr (fun ι a w R => by
    obtain ⟨g, h1, h2⟩ := box_shape R hb
    have hv := ev_ok R x
    rw [hx] at hv
    obtain ⟨g', h3, h4⟩ := hv
    rw [h1] at h3
    cases h3
    have h4' : a.eval x = .pointer (some ⟨g, 0, none⟩) := by rw [h4]; rfl
    refine OpOut.of (s := convert src dst (a.eval x)) (by simp [execOp, hc]) (Out.same R ⟨rfl, rfl, rfl⟩ ?_ ⟨g, h1, h4⟩)
    rw [h4']
    exact Lib.run_to_unsafe w ⟨g, 0, none⟩ hs hds ht hj h2 hl) (fun env' h' y ⟨e1, e2, e3⟩ => by subst e1; subst e2; subst e3; exact next)
/-- unsafe.Pointer to a pointer to what lies there: the address as it is. -/
theorem Run.fromUnsafe {C : Ctx} {env : Env} {h : Heap} {o : Oper} {ops : Array Oper} {i : Nat} {rest : List Nat} {k : List Item} {src dst u e : TypeId} {x : Operand} {id : Nat} {l : List AV} {j : TypeInfo} (ho : ops.toList[i]? = some o) (hc : o.op = .convert src dst x) (hd : okD C.N o.dst = true) (hr : ready env ops o = true)
    (hx : ev env x = .box id 0) (hb : h id = .box e l) (hs : C.P.underlying src = some .unsafePointer) (hds : C.P.underlying dst = some (.pointer u)) (hu : C.P.info? u = some j) (hlies : liesAt C.P C.P.depth e (l.length / C.P.cellsOf e) 0 u 1 = true)
    (next : Run C (.inRegion ops rest :: k) (putE env o.dst (.box id 0)) h) : Run C (.inRegion ops (i :: rest) :: k) env h :=
  Run.opG (fun env' h' y => env' = env ∧ h' = h ∧ y = .box id 0) ho hd hr (fun ι a w R => by
    obtain ⟨g, h1, h2⟩ := box_shape R hb
    have hv := ev_ok R x
    rw [hx] at hv
    obtain ⟨g', h3, h4⟩ := hv
    rw [h1] at h3
    cases h3
    have h4' : a.eval x = .pointer (some ⟨g, 0, none⟩) := by rw [h4]; rfl
    refine OpOut.of (s := convert src dst (a.eval x)) (by simp [execOp, hc]) (Out.same R ⟨rfl, rfl, rfl⟩ ?_ ⟨g, h1, h4⟩)
    rw [h4']
    exact Lib.run_from_unsafe w ⟨g, 0, none⟩ hs hds hu h2 hlies) (fun env' h' y ⟨e1, e2, e3⟩ => by subst e1; subst e2; subst e3; exact next)

/-- A call of one of the model's own entries that answers a value and leaves the world as it is. -/
theorem exec_extern {P : Program} {f : FuncId} {fn : Func} {o : Oper} {xs : List Operand} {e : Array Value → Sem Value} (ho : calls? o = some (f, xs)) (hf : P.funcs[f]? = some fn) (hname : (fn.name == "runtime.NumGoroutine") = false)
    (hb : fn.body.isNone = true) (hn : Extern.findNext fn = none) (he : Extern.find fn = some e) (a : Act) (w : World) {v : Value} (hv : (e (xs.map a.eval).toArray).run P w = .ok v w) :
    (execOp a.eval o).run P w = .ok (.value v) w := by
  unfold calls? at ho
  split at ho
  · rename_i f' args at_ heq
    cases ho
    have h1 := run_callFunc_extern hf hname hb hn he (args.toList.map a.eval).toArray w
    rw [hv] at h1
    have h2 : (args.toList.map a.eval).toArray = args.map a.eval := by apply Array.ext'; simp
    rw [h2] at h1
    simp only [execOp, heq, resolve, Act.eval, Deferred.ofValue, Sem.run_bind, Sem.run_pure, Result.andThen_ok, invoke]
    first | exact h1 | simpa [Act.eval, Result.andThen] using h1
  · cases ho
/-- internal/abi.NoEscape: what goes in. -/
theorem Run.noEscape {C : Ctx} {env : Env} {h : Heap} {o : Oper} {ops : Array Oper} {i : Nat} {rest : List Nat} {k : List Item} {f : FuncId} {fn : Func} {x : Operand} (ho : ops.toList[i]? = some o) (hc : calls? o = some (f, [x])) (hd : okD C.N o.dst = true) (hr : ready env ops o = true)
    (hf : C.P.funcs[f]? = some fn) (hname : (fn.name == "runtime.NumGoroutine") = false) (hb : fn.body.isNone = true) (hn : Extern.findNext fn = none) (he : Extern.find fn = some Extern.AbiNoEscape.same)
    (next : Run C (.inRegion ops rest :: k) (putE env o.dst (ev env x)) h) : Run C (.inRegion ops (i :: rest) :: k) env h :=
  Run.opG (fun env' h' y => env' = env ∧ h' = h ∧ y = ev env x) ho hd hr (fun ι a w R =>
    OpOut.same R ⟨rfl, rfl, rfl⟩ (exec_extern hc hf hname hb hn he a w (by exact Lib.run_noEscape w (a.eval x))) (ev_ok R x)) (fun env' h' y ⟨e1, e2, e3⟩ => by subst e1; subst e2; subst e3; exact next)
end Go.Proofs.YteklnpgiloebcaaGreatDoor.V

namespace Go.Proofs.YteklnpgiloebcaaGreatDoor.V
set_option linter.unusedVariables false
set_option linter.unusedSimpArgs false
open Go Go.RowKit
section
variable {C : Ctx} {env : Env} {h : Heap} {ι : Loc} {a : Act} {w : World}
/-- An object is given up, and its own blocks are turned. -/
theorem Rel.killW (R : Rel C env h ι a w) (z : Nat) {w' : World} (hz : h z ≠ .dead) (hb : Below C.B w w') (hsz : w'.heap.size = w.heap.size) (hw : ∀ b, ¬ owns (h z) (ι z) b → w'.heap[b]? = w.heap[b]?) : Rel C env (upd h z .dead) ι a w' := by
  have hdead : ∀ id, upd h z .dead id ≠ .dead → h id ≠ .dead ∧ id ≠ z := by
    intro id hl
    by_cases e : id = z
    · subst e; rw [upd_same] at hl; exact absurd rfl hl
    · rw [upd_other _ _ e] at hl; exact ⟨hl, e⟩
  have hr : ∀ x v, rf h ι x v → rf (upd h z .dead) ι x v := rf_upd (by trivial)
  have hok : ∀ b, okB C h ι w b → okB C (upd h z .dead) ι w' b := fun b hb => ⟨by rw [hsz]; exact hb.1, hb.2.1, fun id hl => by rw [upd_other _ _ (hdead id hl).2]; exact hb.2.2 id (hdead id hl).1⟩
  have hwo : ∀ b, okB C h ι w b → w'.heap[b]? = w.heap[b]? := fun b hb => hw b (hb.2.2 z hz)
  constructor
  · exact R.below.trans hb
  · exact R.defers
  · exact R.size
  · exact fun i => VR.mono hok hwo _ _ _ _ hr (R.env i)
  · intro id
    by_cases e : id = z
    · subst e; rw [upd_same]; trivial
    · rw [upd_other _ _ e]
      by_cases hl : h id = .dead
      · rw [hl]; trivial
      · exact MR.keepR hr hok hwo (fun g hg => hw g (fun hg' => R.apart id z hl hz e g hg hg')) (R.obj id)
  · exact R.one
  · intro id hl; rw [upd_other _ _ (hdead id hl).2, hsz]; exact R.base id (hdead id hl).1
  · intro id id' hl hl'; rw [upd_other _ _ (hdead id hl).2, upd_other _ _ (hdead id' hl').2]; exact R.apart id id' (hdead id hl).1 (hdead id' hl').1

theorem freeze_heap {w : World} {g : Nat} {cs : Array Value} {e : TypeId} {fz : Nat × Nat} (hg : w.heap[g]? = some (.cells cs e fz)) (n : Nat) :
    (w.freeze ⟨g, 0, none⟩ n).heap.size = w.heap.size ∧ ∀ b, b ≠ g → (w.freeze ⟨g, 0, none⟩ n).heap[b]? = w.heap[b]? := by
  unfold World.freeze
  split
  · exact ⟨rfl, fun _ _ => rfl⟩
  · refine ⟨by simp, fun b hb => ?_⟩
    simp only [Array.getElem?_modify]
    rw [if_neg (fun e => hb e.symm)]
end
section
variable {C : Ctx} {env : Env} {h : Heap}
/-- unsafe.String of no byte. -/
theorem Run.unsafeString0 {o : Oper} {ops : Array Oper} {i : Nat} {rest : List Nat} {k : List Item} {c : Call} {x y : Operand} {pt it : TypeId} (ho : ops.toList[i]? = some o) (hc : o.op = .call c) (hcb : c.callee = .builtin .unsafeString) (hca : c.args.toList = [x, y]) (hct : c.argTypes.toList = [pt, it])
    (hd : okD C.N o.dst = true) (hr : ready env ops o = true) (hx : ev env x = .ptr ∨ ev env x = .nilp) (hy : ev env y = .int .i64 0)
    (next : Run C (.inRegion ops rest :: k) (putE env o.dst (.str .empty)) h) : Run C (.inRegion ops (i :: rest) :: k) env h :=
  Run.opG (fun env' h' z => env' = env ∧ h' = h ∧ z = .str .empty) ho hd hr (fun ι a w R => by
    have hca' := toList_two hca
    have hct' := toList_two hct
    have hv := ev_ok R x
    have hp : ∃ p, a.eval x = .pointer p := by
      rcases hx with hx | hx <;> rw [hx] at hv
      · exact hv
      · exact ⟨none, hv⟩
    obtain ⟨p, hp⟩ := hp
    have hvy := ev_ok R y
    rw [hy] at hvy
    have hvy' : a.eval y = .int .i64 0 := hvy
    refine OpOut.same R ⟨rfl, rfl, rfl⟩ (v := .string .empty) ?_ ⟨rfl, by decide⟩
    simp only [execOp, hc, resolve, hcb, hca', hct', invoke, builtin, Act.eval]
    have := Lib.run_unsafeString_none (P := C.P) w pt it o.type p
    simp [hp, hvy', this]) (fun env' h' y ⟨e1, e2, e3⟩ => by subst e1; subst e2; subst e3; exact next)

/-- unsafe.String of a row's bytes: the row is given up. -/
theorem Run.unsafeString {o : Oper} {ops : Array Oper} {i : Nat} {rest : List Nat} {k : List Item} {c : Call} {x y : Operand} {pt it : TypeId} {q e n : Nat} {get : Nat → Nat → AV} (s : ByteArray) (ho : ops.toList[i]? = some o) (hc : o.op = .call c) (hcb : c.callee = .builtin .unsafeString) (hca : c.args.toList = [x, y]) (hct : c.argTypes.toList = [pt, it])
    (hd : okD C.N o.dst = true) (hr : ready env ops o = true) (hx : ev env x = .radr q 1 0 0) (hy : ev env y = .int .i64 (n : Int)) (hq : h q = .row e 1 n get) (hs : s.size = n) (hn : n ≠ 0) (hget : ∀ i, i < n → get i 0 = .int .u8 (bt s i))
    (hpt : C.P.underlying pt = some (.pointer e)) (hc1 : C.P.cellsOf e = 1)
    (next : Run C (.inRegion ops rest :: k) (putE env o.dst (.str s)) (upd h q .dead)) : Run C (.inRegion ops (i :: rest) :: k) env h :=
  Run.opG (fun env' h' z => env' = env ∧ h' = upd h q .dead ∧ z = .str s) ho hd hr (fun ι a w R => by
    have hca' := toList_two hca
    have hct' := toList_two hct
    have hlq : h q ≠ .dead := by rw [hq]; simp
    have hv := ev_ok R x
    rw [hx] at hv
    obtain ⟨g, n', cap', hg1, hv, -⟩ := hv
    have hvy := ev_ok R y
    rw [hy] at hvy
    have hvy' : a.eval y = .int .i64 (n : Int) := hvy
    have hoq := R.obj q
    rw [hq] at hoq
    obtain ⟨xs, hown, hone, hcells⟩ := hoq
    have hcell := fun j u hj => hown.cells (g := g) (by rcases hown.2 with ⟨hv0, h0⟩ | ⟨g', cap, cur, hv0, _⟩; exact absurd h0 hn; rw [hg1] at hv0; cases hv0; rw [hg1]; rfl) j u hj
    obtain ⟨g', cap, cur, hv0, hB, hg, hnc, hcm, hcs, htake⟩ : ∃ g' cap cur, ι q 0 = .slice (some ⟨g', 0, none⟩) n cap ∧ C.B ≤ g' ∧ cellsX w g' cur e ∧ n ≤ cap ∧ cap ≤ maxLen ∧ cur.size = cap * 1 ∧ cur.toList.take (n * 1) = xs := by
      rcases hown.2 with ⟨hv0, h0⟩ | hr
      · exact absurd h0 hn
      · exact hr
    have hgg : g' = g := by rw [hg1] at hv0; cases hv0; rfl
    subst hgg
    have hval : a.eval x = .pointer (some ⟨g', 0, none⟩) := by rw [hv]; simp [Addr.add]
    have hlen : s.data.toList.length = n := by rw [← hs]; rfl
    have hrun := Lib.run_unsafeString_row (P := C.P) w pt it o.type e hpt hc1 g' cur.size hg.shape s.data.toList (by intro e0; rw [e0] at hlen; exact hn hlen.symm) (by rw [hlen, hcs]; omega) (by rw [hlen]; simp only [maxLen] at hcm; omega) (fun j u hj => by
      have hjn : j < n := by
        rcases Nat.lt_or_ge j s.data.toList.length with h' | h'
        · omega
        · rw [List.getElem?_eq_none h'] at hj; cases hj
      obtain ⟨cv, c1, c2⟩ := hcells j 0 hjn (by omega)
      rw [hget j hjn] at c2
      have c2' : cv = .int .u8 (bt s j) := c2
      rw [Nat.mul_one, Nat.add_zero] at c1
      have := hcell j cv c1
      rw [this, c2']
      unfold bt
      rw [List.getD, hj]; rfl)
    rw [hlen] at hrun
    have hs' : (⟨s.data.toList.toArray⟩ : ByteArray) = s := by simp
    rw [hs'] at hrun
    obtain ⟨fz0, hg0, _⟩ := hg
    obtain ⟨f1, f2⟩ := freeze_heap hg0 n
    refine ⟨.value (.string s), .string s, w.freeze ⟨g', 0, none⟩ n, ι, env, upd h q .dead, .str s, ?_, .inl rfl, R.killW q hlq (Lib.below_freeze (Below.refl _ _) hB n) f1 (fun b hb => f2 b (fun e0 => hb ?_)), ⟨rfl, by rw [hs]; omega⟩, rfl, rfl, rfl⟩
    · simp only [execOp, hc, resolve, hcb, hca', hct', invoke, builtin, Act.eval]
      simp [hval, hvy', hrun]
    · subst e0; rw [hq]; exact owns_zero (by rw [hv0]; rfl)) (fun env' h' y ⟨e1, e2, e3⟩ => by subst e1; subst e2; subst e3; exact next)

/-- A slice in a box's cell gets a row's name of its own. -/
theorem Run.holdBoxRow {k : List Item} (id j q z : Nat) {e sz n : Nat} {get : Nat → Nat → AV} {t : TypeId} {l l2 : List AV} (hb : h id = .box t l) (hj : l[j]? = some (.row z)) (hz : h z = .row e sz n get) (hne : Nat.beq z q = false) (hqi : Nat.beq id q = false) (hl2 : l2 = (l.map (scrub q)).set j (.row q))
    (hr : Run C k (scrubE q env) (upd (upd (upd (scrubH q h) z .dead) q (.row e sz n get)) id (.box t l2))) : Run C k env h :=
  ⟨fun ι a w b cs hbf hkd R => by
    have hiq : id ≠ q := fun e0 => by subst e0; simp at hqi
    have hiz : id ≠ z := fun e0 => by subst e0; rw [hb] at hz; cases hz
    have ho := R.obj z
    rw [hz] at ho
    have hlz : h z ≠ .dead := by rw [hz]; simp
    obtain ⟨xs, hown, h1, hc⟩ := ho
    obtain ⟨R', hok', hS'⟩ := R.make q z (.row e sz n get) (ι z 0) w (Below.refl _ _) (fun _ _ => rfl) (fun _ _ _ _ _ _ => rfl) (R.one z 0) (fun g hg => R.base z hlz g (owns_zero hg))
      (fun g hg hok => hok.2.2 z hlz (owns_zero hg)) (fun id _ hid hl g hg e' => R.apart id z hl hlz hid g hg (owns_zero e'))
      (fun ok r hok hS hrr => ⟨xs, hown, h1, fun i j hi hj => by
        obtain ⟨cv, c1, c3⟩ := hc i j hi hj
        exact ⟨cv, c1, VR.mono hok (fun _ _ => rfl) _ _ _ _ (fun _ _ h => h) c3⟩⟩)
    have hbx : (upd (upd (scrubH q h) z .dead) q (.row e sz n get)) id = .box t (l.map (scrub q)) := by
      rw [upd_other _ _ hiq, upd_other _ _ hiz]
      show scrubM q (h id) = _
      rw [hb]; rfl
    have hbr := R.obj id
    rw [hb] at hbr
    have hbr2 := R'.obj id
    rw [hbx] at hbr2
    refine hr.run (upd ι q (fun _ => ι z 0)) a w b cs hbf hkd (R'.set id (.box t l2) w (Below.refl _ _) (by rw [hbx]; simp) (fun _ _ _ => rfl) (by rw [hbx]; trivial) (fun r ok hrr hok _ => ?_))
    obtain ⟨g0, cs0, e1, e2, e3, e4⟩ := hbr
    obtain ⟨g1, cs1, f1, f2, f3, f4⟩ := hbr2
    have hio : upd ι q (fun _ => ι z 0) id = ι id := upd_other _ _ hiq
    have hg : g1 = g0 := by rw [hio] at f1; rw [e1] at f1; cases f1; rfl
    subst hg
    have hcs : cs1 = cs0 := by rw [e2] at f2; cases f2; rfl
    subst hcs
    refine ⟨g1, cs1, f1, f2, by rw [f3, hl2]; simp, fun i x hx => ?_⟩
    subst hl2
    by_cases hij : i = j
    · subst hij
      obtain ⟨cv, c1, c2, c3⟩ := e4 i (.row z) hj
      rw [List.getElem?_set_self (by
        rw [List.length_map]
        rcases Nat.lt_or_ge i l.length with h' | h'
        · exact h'
        · rw [List.getElem?_eq_none h'] at hj; cases hj)] at hx
      cases hx
      refine ⟨cv, c1, c2, hrr _ _ ?_⟩
      show cv = upd ι q (fun _ => ι z 0) q 0
      rw [upd_same]; exact c3
    · rw [List.getElem?_set_ne (fun e0 => hij e0.symm)] at hx
      obtain ⟨cv, c1, c2, c3⟩ := f4 i x hx
      exact ⟨cv, c1, c2, VR.mono hok (fun _ _ => rfl) _ _ _ _ hrr c3⟩⟩
theorem Run.holdBoxNil {k : List Item} (id j q e sz : Nat) (get : Nat → Nat → AV) {t : TypeId} {l l2 : List AV} (hb : h id = .box t l) (hj : l[j]? = some .nils) (hqi : Nat.beq id q = false) (hl2 : l2 = (l.map (scrub q)).set j (.row q))
    (hr : Run C k (scrubE q env) (upd (upd (upd (scrubH q h) q .dead) q (.row e sz 0 get)) id (.box t l2))) : Run C k env h :=
  ⟨fun ι a w b cs hbf hkd R => by
    have hiq : id ≠ q := fun e0 => by subst e0; simp at hqi
    obtain ⟨R', hok', hS'⟩ := R.make q q (.row e sz 0 get) (.slice none 0 0) w (Below.refl _ _) (fun _ _ => rfl) (fun _ _ _ _ _ _ => rfl) rfl (fun g hg => by cases hg)
      (fun g hg => by cases hg) (fun id _ _ _ g hg e' => by cases e')
      (fun ok r hok hS hrr => ⟨[], ownsX_nil w C.B e sz, by simp, fun i j hi => by omega⟩)
    have hbx : (upd (upd (scrubH q h) q .dead) q (.row e sz 0 get)) id = .box t (l.map (scrub q)) := by
      rw [upd_other _ _ hiq, upd_other _ _ hiq]
      show scrubM q (h id) = _
      rw [hb]; rfl
    have hbr := R.obj id
    rw [hb] at hbr
    have hbr2 := R'.obj id
    rw [hbx] at hbr2
    refine hr.run (upd ι q (fun _ => .slice none 0 0)) a w b cs hbf hkd (R'.set id (.box t l2) w (Below.refl _ _) (by rw [hbx]; simp) (fun _ _ _ => rfl) (by rw [hbx]; trivial) (fun r ok hrr hok _ => ?_))
    obtain ⟨g0, cs0, e1, e2, e3, e4⟩ := hbr
    obtain ⟨g1, cs1, f1, f2, f3, f4⟩ := hbr2
    have hio : upd ι q (fun _ => .slice none 0 0) id = ι id := upd_other _ _ hiq
    have hg : g1 = g0 := by rw [hio] at f1; rw [e1] at f1; cases f1; rfl
    subst hg
    have hcs : cs1 = cs0 := by rw [e2] at f2; cases f2; rfl
    subst hcs
    refine ⟨g1, cs1, f1, f2, by rw [f3, hl2]; simp, fun i x hx => ?_⟩
    subst hl2
    by_cases hij : i = j
    · subst hij
      obtain ⟨cv, c1, c2, c3⟩ := e4 i .nils hj
      rw [List.getElem?_set_self (by
        rw [List.length_map]
        rcases Nat.lt_or_ge i l.length with h' | h'
        · exact h'
        · rw [List.getElem?_eq_none h'] at hj; cases hj)] at hx
      cases hx
      refine ⟨cv, c1, c2, hrr _ _ ?_⟩
      show cv = upd ι q (fun _ => .slice none 0 0) q 0
      rw [upd_same]; exact c3
    · rw [List.getElem?_set_ne (fun e0 => hij e0.symm)] at hx
      obtain ⟨cv, c1, c2, c3⟩ := f4 i x hx
      exact ⟨cv, c1, c2, VR.mono hok (fun _ _ => rfl) _ _ _ _ hrr c3⟩⟩
end

/-! ### strings.Builder: what a call of WriteString leaves -/
theorem bt_app (a b : ByteArray) (i : Nat) : bt (a ++ b) i = if i < a.size then bt a i else bt b (i - a.size) := by
  unfold bt
  have h1 : (a ++ b).data.toList = a.data.toList ++ b.data.toList := by simp
  rw [h1]
  by_cases h : i < a.size
  · rw [if_pos h, List.getD, List.getD, List.getElem?_append_left (by simpa using h)]
  · rw [if_neg h, List.getD, List.getD, List.getElem?_append_right (by simpa using h)]
    simp
/-- A text's bytes, as a row. -/
def bytesG (t : ByteArray) : Nat → Nat → AV := fun i _ => .int .u8 (bt t i)
def scrW (q : Nat) (x : AV) : AV := scrub q (scrub 14 (scrub 901 (scrub 900 x)))
def scrWM (q : Nat) (m : MO) : MO := scrubM q (scrubM 14 (scrubM 901 (scrubM 900 m)))
def envW (q : Nat) (env : Env) : Env := fun i => scrW q (env i)
def heapW (q : Nat) (h : Heap) : Heap := upd (upd (upd (fun id => scrWM q (h id)) 14 .dead) 901 .dead) 900 .dead
/-- A builder: its box, its row (of element type e). -/
def bldr (B e id q : Nat) (h : Heap) (p : AV) (t : ByteArray) : Heap := upd (upd h q (.row e 1 t.size (bytesG t))) id (.box B [p, .row q])
theorem bytesG_join (e : Nat) (t s : ByteArray) : MOle (.row e 1 (t.size + s.size) (joinRow t.size (bytesG t) (fun i _ => .int .u8 (bt s i)))) (.row e 1 (t ++ s).size (bytesG (t ++ s))) := by
  refine ⟨rfl, rfl, by simp, fun i j hi hj => ?_⟩
  unfold joinRow bytesG
  rw [bt_app]
  by_cases hc : i < t.size
  · rw [if_pos hc, if_pos hc]; exact Le.refl _
  · rw [if_neg hc, if_neg hc]; exact Le.refl _
theorem mole_dead (m : MO) : MOle m .dead := by cases m <;> trivial
theorem Run.bldr {C : Ctx} {k : List Item} {env : Env} {h : Heap} (B e id q : Nat) (p : AV) (t : ByteArray) (h1 : MOle (h id) (.box B [p, .row q])) (h2 : MOle (h q) (.row e 1 t.size (bytesG t))) (next : Run C k env (bldr B e id q h p t)) : Run C k env h := by
  refine Run.weaken (fun _ => Le.refl _) (fun i => ?_) next
  unfold V.bldr
  by_cases hi : i = id
  · subst hi; rw [upd_same]; exact h1
  · rw [upd_other _ _ hi]
    by_cases hj : i = q
    · subst hj; rw [upd_same]; exact h2
    · rw [upd_other _ _ hj]; exact MOle.refl _

/-! ### slots and objects told anew, each looked at -/
def fvs : List AV → (List AV → Prop) → Prop
  | [], K => K []
  | x :: r, K => fv x fun x => fvs r fun l => K (x :: l)
theorem fvs_eq : ∀ (l : List AV) (K : List AV → Prop), fvs l K = K l
  | [], _ => rfl
  | x :: r, K => by unfold fvs; rw [fv_eq, fvs_eq r]
def fm (m : MO) (K : MO → Prop) : Prop := match m with
  | .dead => K .dead
  | .box t l => fvs l fun l => K (.box t l)
  | .row e sz n get => K (.row e sz n get)
  | .iter s p => K (.iter s p)
  | .mp m => K (.mp m)
  | .frame vs E => K (.frame vs E)
  | .clo f l => fvs l fun l => K (.clo f l)
  | .mat e sz n get0 o ei szi len get hole => K (.mat e sz n get0 o ei szi len get hole)
theorem fm_eq (m : MO) (K : MO → Prop) : fm m K = K m := by
  cases m <;> first | rfl | exact fvs_eq _ _
def aforceH (h : Heap) : List Nat → (List (Nat × MO) → Prop) → Prop
  | [], K => K []
  | i :: r, K => fm (h i) fun x => aforceH h r fun l => K ((i, x) :: l)
theorem aforceH_ok {h : Heap} : ∀ (ks : List Nat) {K : List (Nat × MO) → Prop}, aforceH h ks K → ∃ l, fitsH h l ∧ K l
  | [], K, hk => ⟨[], trivial, hk⟩
  | i :: r, K, hk => by
    unfold aforceH at hk
    rw [fm_eq] at hk
    obtain ⟨l, h1, h2⟩ := aforceH_ok r hk
    exact ⟨(i, h i) :: l, ⟨MOle.refl _, h1⟩, h2⟩
theorem Run.tidy {C : Ctx} {k : List Item} {env : Env} {h : Heap} (ks hs : List Nat) (hr : aforce env ks fun l => aforceH h hs fun lh => Run C k (lst l) (lstH lh)) : Run C k env h := by
  obtain ⟨l, hl, hr⟩ := aforce_ok ks hr
  obtain ⟨lh, hlh, hr⟩ := aforceH_ok hs hr
  exact Run.to _ _ hl hlh hr

/-- string(b) of an own row of bytes: the text; the row stays. -/
theorem Run.rowStr {C : Ctx} {env : Env} {h : Heap} {o : Oper} {ops : Array Oper} {i : Nat} {rest : List Nat} {k : List Item} {src dst e : TypeId} {x : Operand} {q n : Nat} {get : Nat → Nat → AV} (s : ByteArray) (ho : ops.toList[i]? = some o) (hc : o.op = .convert src dst x)
    (hd : okD C.N o.dst = true) (hr : ready env ops o = true) (hx : ev env x = .row q) (hq : h q = .row e 1 n get) (hs : s.size = n) (hget : ∀ i, i < n → get i 0 = .int .u8 (bt s i))
    (hsrc : C.P.underlying src = some (.slice e)) (he : C.P.underlying e = some (.int .u8)) (hdst : C.P.underlying dst = some .string)
    (next : Run C (.inRegion ops rest :: k) (putE env o.dst (.str s)) h) : Run C (.inRegion ops (i :: rest) :: k) env h :=
  Run.opG (fun env' h' z => env' = env ∧ h' = h ∧ z = .str s) ho hd hr (fun ι a w R => by
    have hv := ev_ok R x
    rw [hx] at hv
    have hv' : a.eval x = ι q 0 := hv
    have hoq := R.obj q
    rw [hq] at hoq
    obtain ⟨xs, hown, hone, hcells⟩ := hoq
    have hs' : (⟨s.data.toList.toArray⟩ : ByteArray) = s := by simp
    have hlen : s.data.toList.length = n := by rw [← hs]; rfl
    have hmax : s.size ≤ maxLen := by
      rcases hown.2 with ⟨_, h0⟩ | ⟨g, cap, cur, _, _, _, hnc, hcm, _⟩
      · rw [hs, h0]; exact Nat.zero_le _
      · rw [hs]; omega
    refine OpOut.of (s := convert src dst (a.eval x)) (by simp [execOp, hc]) (Out.same R ⟨rfl, rfl, rfl⟩ (v := .string s) ?_ ⟨rfl, hmax⟩)
    rw [hv']
    rcases hown.2 with ⟨hv0, h0⟩ | ⟨g, cap, cur, hv0, hB, hg, hnc, hcm, hcs, htake⟩
    · rw [hv0]
      have hse : s = ⟨#[]⟩ := by
        have : s.size = 0 := by omega
        have : s = ByteArray.empty := by simpa using this
        rw [this]; rfl
      rw [hse]
      exact Lib.run_convert_nil_bytes w src dst e 0 hsrc he hdst
    · rw [hv0]
      have hcell : ∀ j u, xs[j]? = some u → w.cell? ((⟨g, 0, none⟩ : Addr).add j) = some u := fun j u hj => hown.cells (g := g) (by rw [hv0]; rfl) j u hj
      have := run_convert_bytes_back (P := C.P) w src dst e ⟨g, 0, none⟩ cap s.data.toList hsrc he hdst (fun j hj => by
        have hjn : j < n := by omega
        obtain ⟨cv, c1, c2⟩ := hcells j 0 hjn (by omega)
        rw [hget j hjn] at c2
        have c2' : cv = .int .u8 (bt s j) := c2
        rw [Nat.mul_one, Nat.add_zero] at c1
        rw [hcell j cv c1, c2']
        unfold bt
        rw [List.getD, List.getElem?_eq_getElem hj]; rfl)
      rw [hlen, hs'] at this
      exact this) (fun env' h' y ⟨e1, e2, e3⟩ => by subst e1; subst e2; subst e3; exact next)

/-! ### the model's own entries -/
section
variable {C : Ctx} {env : Env} {h : Heap} {o : Oper} {ops : Array Oper} {i : Nat} {rest : List Nat} {k : List Item} {f : FuncId} {fn : Func} {x y : Operand}
theorem Run.indexByteS (s : ByteArray) (c : Int) (ho : ops.toList[i]? = some o) (hc : calls? o = some (f, [x, y])) (hd : okD C.N o.dst = true) (hr : ready env ops o = true)
    (hf : C.P.funcs[f]? = some fn) (hname : (fn.name == "runtime.NumGoroutine") = false) (hb : fn.body.isNone = true) (hn : Extern.findNext fn = none) (he : Extern.find fn = some Extern.BytealgIndexByte.indexByte)
    (hx : ev env x = .str s) (hy : ev env y = .int .u8 c)
    (next : Run C (.inRegion ops rest :: k) (putE env o.dst (.int .i64 (Lib.indexByte s.data.toList c.toNat.toUInt8))) h) : Run C (.inRegion ops (i :: rest) :: k) env h :=
  Run.opG (fun env' h' z => env' = env ∧ h' = h ∧ z = .int .i64 (Lib.indexByte s.data.toList c.toNat.toUInt8)) ho hd hr (fun ι a w R => by
    have hvx := ev_ok R x
    have hvy := ev_ok R y
    rw [hx] at hvx
    rw [hy] at hvy
    obtain ⟨hvx, -⟩ := hvx
    have hvy' : a.eval y = .int .u8 c := hvy
    exact OpOut.same R ⟨rfl, rfl, rfl⟩ (exec_extern hc hf hname hb hn he a w (by simp only [List.map, hvx, hvy']; exact Lib.run_indexByteString s c w)) rfl) (fun env' h' y ⟨e1, e2, e3⟩ => by subst e1; subst e2; subst e3; exact next)
end

/-! ### an own row is given up while the walk goes on -/
/-! ### strings.Builder: what a call of WriteByte leaves -/
def scrB (q : Nat) (x : AV) : AV := scrub q (scrub 14 (scrub 13 (scrub 901 (scrub 900 x))))
def envB (q : Nat) (env : Env) : Env := fun i => scrB q (env i)
def heapB (q : Nat) (h : Heap) : Heap := upd (upd (upd (upd (fun id => scrubM q (scrubM 14 (scrubM 13 (scrubM 901 (scrubM 900 (h id)))))) 14 .dead) 13 .dead) 901 .dead) 900 .dead
theorem bt_one (u : UInt8) : bt ⟨#[u]⟩ 0 = (u.toNat : Int) := rfl
theorem bytesG_push (e : Nat) (t : ByteArray) (u : UInt8) (g : Nat → Nat → AV) (hg : g 0 0 = .int .u8 (u.toNat : Int)) : MOle (.row e 1 (t.size + 1) (joinRow t.size (bytesG t) g)) (.row e 1 (t ++ ⟨#[u]⟩).size (bytesG (t ++ ⟨#[u]⟩))) := by
  refine ⟨rfl, rfl, by rw [ByteArray.size_append]; rfl, fun i j hi hj => ?_⟩
  unfold joinRow bytesG
  rw [bt_app]
  by_cases hc : i < t.size
  · rw [if_pos hc, if_pos hc]; exact Le.refl _
  · rw [if_neg hc, if_neg hc]
    have h1 : i - t.size = 0 := by omega
    have h2 : j = 0 := by omega
    rw [h1, h2, hg, bt_one]
    exact Le.refl _

/-! ### arrays: an element whose place is not known as a number -/
section
variable {C : Ctx} {env : Env} {h : Heap} {o : Oper} {ops : Array Oper} {i : Nat} {rest : List Nat} {k : List Item} {x y : Operand}
end
end Go.Proofs.YteklnpgiloebcaaGreatDoor.V

namespace Go.Proofs.YteklnpgiloebcaaGreatDoor.V
set_option linter.unusedVariables false
set_option linter.unusedSimpArgs false
open Go Go.RowKit

section
variable {C : Ctx} {h : Heap} {ops : Array Oper}
structure StatP (ops : Array Oper) (P M : Nat → Bool) : Prop where
  look : ∀ (i : Nat) o, P i = true → ops[i]? = some o → ∀ s ∈ looks ops o, ∀ j, P j = true → dstOf ops j = some s → ∃ e ∈ o.after, Region.binds .any e = true ∧ e.on = j
  tail : ∀ (i : Nat), i < ops.size → P i = false → ∀ j, j < ops.size → M j = true → reachB ops 40 i j = true
def memB (l : List Nat) (j : Nat) : Bool := l.any (Nat.beq j)
/-- The free statements that did not run yet have yielded nothing. -/
def forget (ops : Array Oper) (S : List Nat) : List Nat → Env → Env
  | [], E => E
  | j :: r, E => cond (memB S j) (forget ops S r E) (match dstOf ops j with
    | some d => upd (forget ops S r E) d .u
    | none => forget ops S r E)
end
end Go.Proofs.YteklnpgiloebcaaGreatDoor.V

namespace Go.Proofs.YteklnpgiloebcaaGreatDoor.V
set_option linter.unusedVariables false
set_option linter.unusedSimpArgs false
open Go Go.RowKit

theorem exec_callV {P : Program} {f : FuncId} {o : Oper} {c : Call} {y : Operand} {cs : Array Value} (ho : o.op = .call c) (hcal : c.callee = .value y) (ht : ∃ fn, P.funcs[f]? = some fn ∧ fn.name ≠ "runtime.NumGoroutine" ∧ fn.body.isNone = false) (a : Act) (w : World)
    (hy : a.eval y = .func (.func f) #[] cs) : (execOp a.eval o).run P w = .ok (.enter f (c.args.toList.map a.eval ++ cs.toList).toArray) w := by
  obtain ⟨fn, h1, h2, h3⟩ := ht
  have h2' : (fn.name == "runtime.NumGoroutine") = false := by simpa using h2
  simp only [execOp, ho, resolve, hcal, hy, Deferred.ofValue, Sem.run_bind, Sem.run_pure, Result.andThen_ok, invoke, callFunc, program, Sem.run, h1, h2', h3, Bool.false_eq_true, if_false]
  congr 2
  apply Array.ext'
  simp

section
variable {C : Ctx} {env : Env} {h : Heap}
/-- A closure is made. -/
theorem Run.makeFunc {ops : Array Oper} {i : Nat} {rest : List Nat} {k : List Item} {o : Oper} {f : FuncId} {xs : Array Operand} {d : Nat} (ho : ops.toList[i]? = some o) (hop : o.op = .makeFunc (.func f) #[] xs) (hdst : o.dst = some d) (hd : okD C.N o.dst = true) (hr : ready env ops o = true)
    (next : Run C (.inRegion ops rest :: k) (putE (scrubE d env) o.dst (.obj d)) (upd (upd (scrubH d h) d .dead) d (.clo f (xs.toList.map fun x => scrub d (ev env x))))) : Run C (.inRegion ops (i :: rest) :: k) env h :=
  Run.opG (fun env' h' z => env' = scrubE d env ∧ h' = upd (upd (scrubH d h) d .dead) d (.clo f (xs.toList.map fun x => scrub d (ev env x))) ∧ z = .obj d) ho hd hr (fun ι a w R => by
    have R' := (R.make d d (.clo f (xs.toList.map fun x => scrub d (ev env x))) (.func (.func f) #[] (xs.map a.eval)) w (Below.refl _ _) (fun _ _ => rfl) (fun _ _ _ _ _ _ => rfl) rfl (fun g hg => by cases hg) (fun g hg => by cases hg) (fun _ _ _ _ g _ e => by cases e)
      (fun ok r hok hS hrr => by
        subst hrr
        refine ⟨xs.map a.eval, rfl, by simp, fun j x hx => ?_⟩
        rw [List.getElem?_map] at hx
        cases hq : xs.toList[j]? with
        | none => rw [hq] at hx; cases hx
        | some y =>
          rw [hq] at hx; cases hx
          refine ⟨a.eval y, ?_, VR.scrub hS hok (fun _ _ => rfl) _ _ (ev_ok R y)⟩
          have hq' : xs[j]? = some y := by simpa using hq
          rw [Array.getElem?_map, hq']; rfl)).1
    refine ⟨.value (.func (.func f) #[] (xs.map a.eval)), .func (.func f) #[] (xs.map a.eval), w, _, _, _, .obj d, ?_, .inl rfl, R', ?_, rfl, rfl, rfl⟩
    · simp [execOp, hop, Instr.makeFunc]
    · show _ = upd ι d _ d 0
      rw [upd_same]) (fun env' h' y ⟨e1, e2, e3⟩ => by subst e1; subst e2; subst e3; exact next)

/-- A closure's call, gone through in place. -/
theorem Run.inlineC {ops : Array Oper} {i : Nat} {rest : List Nat} {k : List Item} {o : Oper} {f : FuncId} {cl : Call} {y : Operand} {idc : Nat} {l : List AV} (F : Nat) (fn : Func) (c : Code) (N : Nat)
    (ho : ops.toList[i]? = some o) (hop : o.op = .call cl) (hcal : cl.callee = .value y) (hy : ev env y = .obj idc) (hc : h idc = .clo f l) (hne : idc ≠ F) (hf : C.P.funcs[f]? = some fn) (hb : fn.body = some c) (hname : fn.name ≠ "runtime.NumGoroutine") (hN : fn.ntmps = N) (hn : cl.args.toList.length + l.length ≤ N)
    (hd : okD C.N o.dst = true) (hr : ready env ops o = true)
    (sub : ∀ a : Act, a.tmps.size = C.N → a.defers = [] → Run (C.sub f N a (fun env' h' x => Run C (.inRegion ops rest :: k) (putE env' o.dst x) h')) [.code c] (envOf (cl.args.toList.map (ev (scrubE F env)) ++ l.map (scrub F))) (upd (upd (scrubH F h) F .dead) F (.frame a.tmps (scrubE F env)))) :
    Run C (.inRegion ops (i :: rest) :: k) env h := by
  subst hN
  refine Run.of_step fun ι a w b cs _ R => ?_
  have ho' : ops[i]? = some o := by simpa using ho
  obtain ⟨R2, hok2, S2⟩ := R.make F F (.frame a.tmps (scrubE F env)) .nilIface w (Below.refl _ _) (fun _ _ => rfl) (fun _ _ _ _ _ _ => rfl) rfl (fun g hg => by cases hg) (fun g hg => by cases hg) (fun _ _ _ _ g _ e => by cases e)
    (fun ok r hok hS hrr => by
      subst hrr
      exact fun j => VR.scrub hS hok (fun _ _ => rfl) _ _ (R.env j))
  have hv := ev_ok R y
  rw [hy] at hv
  have hv' : a.eval y = ι idc 0 := hv
  have hobj := R.obj idc
  rw [hc] at hobj
  obtain ⟨cv, hcv, hcs, hcells⟩ := hobj
  rw [hcv] at hv'
  have hobj2 := R2.obj idc
  rw [upd_other _ _ hne, upd_other _ _ hne, upd_other _ _ hne] at hobj2
  have hsc : scrubH F h idc = .clo f (l.map (scrub F)) := by show scrubM F (h idc) = _; rw [hc]; rfl
  rw [hsc] at hobj2
  obtain ⟨cv2, hcv2, hcs2, hcells2⟩ := hobj2
  have hL1 : cl.args.toList.length = cl.args.size := Array.length_toList
  rw [List.length_map] at hcs2
  rw [hcv] at hcv2
  cases hcv2
  have hcalls : Calls C.P f (cl.args.toList.map a.eval ++ cv.toList).toArray w (RetQ C a (fun env' h' x => Run C (.inRegion ops rest :: k) (putE env' o.dst x) h')) := by
    intro cs2
    let b2 : Frame := { (default : Frame) with fn := f, kind := .normal }
    have henter : Frame.enter C.P f (cl.args.toList.map a.eval ++ cv.toList).toArray .normal = b2.at { tmps := (cl.args.toList.map a.eval ++ cv.toList).toArray ++ Array.replicate (fn.ntmps - (cl.args.toList.map a.eval ++ cv.toList).toArray.size) undef, defers := [] } [.code c] := by
      simp [Frame.enter, Frame.at, hf, hb, b2]
    rw [henter]
    refine (sub a R.size R.defers).run (upd ι F (fun _ => .nilIface)) _ w b2 cs2 rfl rfl ?_
    constructor
    · exact R.below
    · rfl
    · show ((cl.args.toList.map a.eval ++ cv.toList).toArray ++ Array.replicate (fn.ntmps - (cl.args.toList.map a.eval ++ cv.toList).toArray.size) undef).size = fn.ntmps
      simp only [Array.size_append, List.size_toArray, List.length_append, List.length_map, Array.size_replicate, Array.length_toList]
      omega
    · intro j
      show VR w _ (envOf (cl.args.toList.map (ev (scrubE F env)) ++ l.map (scrub F)) j) _ _
      unfold envOf
      rcases Nat.lt_or_ge j cl.args.toList.length with hj | hj
      · have e1 : (cl.args.toList.map (ev (scrubE F env)) ++ l.map (scrub F)).getD j .u = ev (scrubE F env) (cl.args.toList[j]) := by
          rw [List.getD, List.getElem?_append_left (by simpa using hj), List.getElem?_map, List.getElem?_eq_getElem hj]; rfl
        have e2 : ((cl.args.toList.map a.eval ++ cv.toList).toArray ++ Array.replicate (fn.ntmps - (cl.args.toList.map a.eval ++ cv.toList).toArray.size) undef).getD j undef = a.eval (cl.args.toList[j]) := by
          rw [Array.getD_eq_getD_getElem?, Array.getElem?_append_left (by simp only [List.size_toArray, List.length_append, List.length_map]; omega), List.getElem?_toArray, List.getElem?_append_left (by simpa using hj), List.getElem?_map, List.getElem?_eq_getElem hj]; rfl
        rw [e1, e2]
        exact ev_ok R2 _
      · rcases Nat.lt_or_ge (j - cl.args.toList.length) l.length with hj2 | hj2
        · have e1 : (cl.args.toList.map (ev (scrubE F env)) ++ l.map (scrub F)).getD j .u = scrub F (l[j - cl.args.toList.length]) := by
            rw [List.getD, List.getElem?_append_right (by simpa using hj), List.getElem?_map, List.length_map, List.getElem?_eq_getElem hj2]; rfl
          obtain ⟨u, u1, u2⟩ := hcells2 (j - cl.args.toList.length) (scrub F (l[j - cl.args.toList.length])) (by rw [List.getElem?_map, List.getElem?_eq_getElem hj2]; rfl)
          have e2 : ((cl.args.toList.map a.eval ++ cv.toList).toArray ++ Array.replicate (fn.ntmps - (cl.args.toList.map a.eval ++ cv.toList).toArray.size) undef).getD j undef = u := by
            have hlt : j - cl.args.toList.length < cv.size := by omega
            rw [Array.getD_eq_getD_getElem?, Array.getElem?_append_left (by simp only [List.size_toArray, List.length_append, List.length_map, Array.length_toList]; omega), List.getElem?_toArray, List.getElem?_append_right (by simpa using hj), List.length_map, Array.getElem?_toList, u1]; rfl
          rw [e1, e2]
          exact u2
        · have e1 : (cl.args.toList.map (ev (scrubE F env)) ++ l.map (scrub F)).getD j .u = .u := by
            rw [List.getD, List.getElem?_eq_none (by simp only [List.length_append, List.length_map]; omega)]; rfl
          rw [e1]; trivial
    · exact R2.obj
    · exact R2.one
    · exact R2.base
    · exact R2.apart
  obtain ⟨v, w', ⟨v', ι', env', h', x, e, R', hv2, hk⟩, hst⟩ := step_call (b := b) (k := k) (cs := cs) (rest := rest) ho' (ready_ok hr R) (exec_callV hop hcal ⟨fn, hf, hname, by rw [hb]; rfl⟩ a w hv') hcalls (fun e w' ⟨v, _, _, _, _, h, _⟩ => ⟨v, h⟩)
  cases e
  exact ⟨_, h', ι', _, w', _, hst, R'.put hv2 hd, hk⟩

/-- A call of the function that lies in a slot; what is handed in is nothing of the caller's own that may still change. -/
theorem Run.callV {ops : Array Oper} {i : Nat} {rest : List Nat} {k : List Item} {o : Oper} {f : FuncId} {cl : Call} {y : Operand} {args : List AV} {r : AV} (hfn : Fn C.P f args r) (ho : ops.toList[i]? = some o) (hop : o.op = .call cl) (hcal : cl.callee = .value y) (hy : ev env y = .fn f)
    (hargs : ArgsLe (cl.args.toList.map (ev env)) args) (himm : args.all imm = true) (hd : okD C.N o.dst = true) (hr : ready env ops o = true)
    (next : Run C (.inRegion ops rest :: k) (putE env o.dst r) h) : Run C (.inRegion ops (i :: rest) :: k) env h :=
  Run.of_step fun ι a w b cs _ R => by
    have ho' : ops[i]? = some o := by simpa using ho
    have hvy := ev_ok R y
    rw [hy] at hvy
    have hvy' : a.eval y = .func (.func f) #[] #[] := hvy
    have hcalls := hfn.calls (okB C h ι w) w (cl.args.toList.map a.eval).toArray (fun b hb => hb.1) R.globOk (by rw [hargs.at.1]; simp) (fun i x v hx hv => by
      have hix : imm x = true := List.all_eq_true.mp himm x (List.mem_of_getElem? hx)
      obtain ⟨x0, hx0, hle0⟩ := hargs.at.2 i x hx
      rw [List.getElem?_map] at hx0
      rw [List.getElem?_toArray, List.getElem?_map] at hv
      cases hq : cl.args.toList[i]? with
      | none => rw [hq] at hx0; cases hx0
      | some y =>
        rw [hq] at hx0 hv
        cases hx0; cases hv
        exact imm_ok _ _ _ _ hix (hle0 _ _ _ _ (ev_ok R y)))
    have hex := exec_callV (cs := #[]) hop hcal hfn.there a w hvy'
    rw [show (cl.args.toList.map a.eval ++ (#[] : Array Value).toList) = cl.args.toList.map a.eval by simp] at hex
    obtain ⟨v, w', ⟨v', e, hbel, hv⟩, hst⟩ := step_call (b := b) (k := k) (cs := cs) (rest := rest) ho' (ready_ok hr R) hex hcalls post_returned
    cases e
    have R' := R.grow hbel
    refine ⟨_, h, ι, _, w', _, hst, R'.put (VR.mono (fun b hb => ?_) (fun _ _ => rfl) _ _ _ _ (fun _ _ h => False.elim h) hv) hd, next⟩
    refine ⟨hb.2, ?_, ?_⟩
    · rcases hb.1 with hb1 | hb1
      · exact hb1.2.1
      · exact .inr (Nat.le_trans R.below.size hb1)
    · intro id hl e
      rcases hb.1 with hb1 | hb1
      · exact hb1.2.2 id hl e
      · have := (R.base id hl b e).2; omega
end
end Go.Proofs.YteklnpgiloebcaaGreatDoor.V

namespace Go.Proofs.YteklnpgiloebcaaGreatDoor.V
set_option linter.unusedVariables false
set_option linter.unusedSimpArgs false
open Go Go.RowKit

def tRn : Ty Int := ⟨1, fun x _ => .int .i32 x, 0⟩
/-- A text's runes from a place on. -/
def runesE (s : ByteArray) (p : Nat) : List Int := if p < s.size then ((Utf8.decode s p).1 : Int) :: runesE s (p + (Utf8.decode s p).2) else []
termination_by s.size - p
decreasing_by have := Lib.width_pos s p; omega
theorem runesE_in {s : ByteArray} {p : Nat} (h : p < s.size) : runesE s p = ((Utf8.decode s p).1 : Int) :: runesE s (p + (Utf8.decode s p).2) := by rw [runesE, if_pos h]
theorem runesE_out {s : ByteArray} {p : Nat} (h : ¬ p < s.size) : runesE s p = [] := by rw [runesE, if_neg h]
theorem runesFrom_eq (s : ByteArray) : ∀ (bound i : Nat) (acc : Array Value), s.size - i ≤ bound → (Conv.runesFrom s bound i acc).toList = acc.toList ++ (runesE s i).map (Value.int .i32)
  | 0, i, acc, h => by
    rw [runesE_out (by omega)]; simp [Conv.runesFrom]
  | bound + 1, i, acc, h => by
    unfold Conv.runesFrom
    split
    · rename_i hlt
      have hw := Lib.width_pos s i
      rw [runesE_in hlt]
      show (Conv.runesFrom s bound (i + (Utf8.decode s i).2) (acc.push (.int .i32 (Int.ofNat (Utf8.decode s i).1)))).toList = _
      rw [runesFrom_eq s bound _ _ (by omega)]
      simp
    · rename_i hlt
      rw [runesE_out hlt]; simp
theorem runesE_len (s : ByteArray) (p : Nat) : (runesE s p).length ≤ s.size - p := by
  by_cases h : p < s.size
  · have hw := Lib.width_pos s p
    have := runesE_len s (p + (Utf8.decode s p).2)
    rw [runesE_in h, List.length_cons]; omega
  · rw [runesE_out h]; simp
termination_by s.size - p

section
variable {C : Ctx} {env : Env} {h : Heap} {ι : Loc} {a : Act} {w : World}
/-- A new block that nobody owns reads as a slice. -/
theorem fresh_sl (R : Rel C env h ι a w) (cs : Array Value) (e : TypeId) (fr : Nat × Nat) (n c : Nat) (hc : n ≤ c) (hm : c ≤ maxLen) (get : Nat → Nat → AV)
    (hcs : ∀ i, i < n → ∃ cv, cs[i]? = some cv ∧ cv.oneCell' = true ∧ ∀ ok, VR (w.drew.alloc (.cells cs e fr)) ok (get i 0) noref cv) :
    Rel C env h ι a (w.drew.alloc (.cells cs e fr)) ∧ VR (w.drew.alloc (.cells cs e fr)) (okB C h ι (w.drew.alloc (.cells cs e fr))) (.sl n 1 get) (rf h ι) (.slice (some ⟨w.heap.size, 0, none⟩) n c) := by
  have hb : Below w.heap.size w (w.drew.alloc (.cells cs e fr)) := ((Below.refl w.heap.size w).drew).alloc (Nat.le_refl _) _
  refine ⟨R.grow hb, some ⟨w.heap.size, 0, none⟩, c, rfl, hc, hm, fun h => (by cases h), fun hn => ⟨_, rfl, ⟨?_, .inr R.below.size, fun id hl ho => ?_⟩, fun i j hi hj => ?_⟩⟩
  · show w.heap.size < (w.heap.push _).size
    simp
  · exact absurd (R.base id hl _ ho).2 (Nat.lt_irrefl _)
  · have hj0 : j = 0 := by omega
    subst hj0
    obtain ⟨cv, h1, h2, h3⟩ := hcs i hi
    have hadd : (⟨w.heap.size, 0, none⟩ : Addr).add (i * 1 + 0) = ⟨w.heap.size, i, none⟩ := by
      unfold Addr.add
      by_cases h0 : i = 0
      · simp [h0]
      · simp [h0]
    refine ⟨cv, ?_, h2, h3 _⟩
    rw [hadd]
    exact (World.cell?_alloc_mark w.drew cs e fr i).trans h1
end
/-- []rune(s). -/
theorem Run.toRunes {C : Ctx} {env : Env} {h : Heap} {o : Oper} {ops : Array Oper} {i : Nat} {rest : List Nat} {k : List Item} {src dst e : TypeId} {x : Operand} (s : ByteArray) (ho : ops.toList[i]? = some o) (hc : o.op = .convert src dst x)
    (hd : okD C.N o.dst = true) (hr : ready env ops o = true) (hx : ev env x = .str s) (hsz : s.size ≤ 70368744177664)
    (hsrc : C.P.underlying src = some .string) (hdst : C.P.underlying dst = some (.slice e)) (he : C.P.underlying e = some (.int .i32))
    (next : Run C (.inRegion ops rest :: k) (putE env o.dst (tRn.L (runesE s 0))) h) : Run C (.inRegion ops (i :: rest) :: k) env h :=
  Run.opG (fun env' h' z => env' = env ∧ h' = h ∧ z = tRn.L (runesE s 0)) ho hd hr (fun ι a w R => by
    have hv := ev_ok R x
    rw [hx] at hv
    have hv' : a.eval x = .string s := hv.1
    have hl := runesFrom_eq s s.size 0 #[] (by omega)
    simp only [List.nil_append] at hl
    have hsize : (Conv.runesFrom s s.size 0 #[]).size = (runesE s 0).length := by rw [← Array.length_toList, hl]; simp
    have hlen := runesE_len s 0
    have hge := grownCap_ge w (Conv.runesFrom s s.size 0 #[]).size 0 e
    have hmx := grownCap_le_maxLen w (Conv.runesFrom s s.size 0 #[]).size 0 e (by rw [hsize]; simp only [maxLen]; omega)
    obtain ⟨R', hv2⟩ := fresh_sl R (Conv.runesFrom s s.size 0 #[] ++ Array.replicate (grownCap w (Conv.runesFrom s s.size 0 #[]).size 0 e - (Conv.runesFrom s s.size 0 #[]).size) (.int .i32 0)) e (0, 0) (Conv.runesFrom s s.size 0 #[]).size _ hge hmx (tRn.G (runesE s 0)) (fun i hi => by
      refine ⟨.int .i32 ((runesE s 0).getD i 0), ?_, rfl, fun ok => rfl⟩
      rw [Array.getElem?_append_left hi, ← Array.getElem?_toList, hl]
      have hi' : i < (runesE s 0).length := by omega
      rw [List.getElem?_map, List.getElem?_eq_getElem hi', List.getD, List.getElem?_eq_getElem hi']; rfl)
    refine ⟨_, .slice (some ⟨w.heap.size, 0, none⟩) (Conv.runesFrom s s.size 0 #[]).size (grownCap w (Conv.runesFrom s s.size 0 #[]).size 0 e), _, ι, env, h, _, ?_, .inl rfl, R', ?_, rfl, rfl, rfl⟩
    · rw [show (execOp a.eval o) = (do pure (.value (← convert src dst (a.eval x))) : Sem Next) by simp [execOp, hc]]
      rw [hv']
      simp [run_runes_of_string w src dst e s hsrc hdst he (by rw [hsize]; omega)]
    · show VR _ _ (.sl (runesE s 0).length 1 (tRn.G (runesE s 0))) _ _
      rw [← hsize]; exact hv2) (fun env' h' y ⟨e1, e2, e3⟩ => by subst e1; subst e2; subst e3; exact next)
end Go.Proofs.YteklnpgiloebcaaGreatDoor.V


namespace Go.Proofs.YteklnpgiloebcaaGreatDoor.V
set_option linter.unusedVariables false
set_option linter.unusedSimpArgs false
open Go Go.RowKit
set_option maxRecDepth 100000
set_option maxHeartbeats 4000000
def TB : TT := (.node 127 ⟨.unsafePointer, 1, 8, (some [.nilp]), true, false⟩ (.node 55 ⟨.slice 62, 1, 24, (some [.nils]), true, false⟩ (.node 32 ⟨.slice 44, 1, 24, (some [.nils]), true, false⟩ (.node 9 ⟨.string, 1, 16, (some [.str .empty]), true, false⟩ (.node 4 ⟨.bool, 1, 1, (some [.ff]), true, false⟩ (.node 3 ⟨.int .i64, 1, 8, (some [.int .i64 0]), true, false⟩ (.node 2 ⟨.int .i64, 1, 8, (some [.int .i64 0]), true, false⟩ .nil .nil) .nil) (.node 5 ⟨.int .u8, 1, 1, (some [.int .u8 0]), true, false⟩ .nil .nil)) (.node 24 ⟨.slice 59, 1, 24, (some [.nils]), true, false⟩ (.node 22 ⟨.slice 9, 1, 24, (some [.nils]), true, false⟩ (.node 21 ⟨.int .i32, 1, 4, (some [.int .i32 0]), true, false⟩ .nil .nil) .nil) (.node 25 ⟨.int .i64, 1, 8, (some [.int .i64 0]), true, false⟩ .nil .nil))) (.node 43 ⟨.struct #[⟨"Name", 9, 0, false, "", "", 0⟩, ⟨"Head", 9, 1, false, "", "", 16⟩, ⟨"Words", 42, 2, false, "", "", 32⟩], 3, 56, (some [.str .empty, .str .empty, .nils]), false, true⟩ (.node 35 ⟨.struct #[⟨"Wits", 32, 0, false, "", "", 0⟩, ⟨"Cols", 33, 1, false, "", "", 24⟩], 2, 48, (some [.nils, .nils]), false, true⟩ (.node 34 ⟨.struct #[⟨"Wits", 32, 0, false, "", "", 0⟩, ⟨"Cols", 33, 1, false, "", "", 24⟩], 2, 48, (some [.nils, .nils]), false, true⟩ (.node 33 ⟨.slice 52, 1, 24, (some [.nils]), true, false⟩ .nil .nil) .nil) (.node 42 ⟨.slice 50, 1, 24, (some [.nils]), true, false⟩ .nil .nil)) (.node 50 ⟨.struct #[⟨"Text", 9, 0, false, "", "", 0⟩, ⟨"Tail", 9, 1, false, "", "", 16⟩], 2, 32, (some [.str .empty, .str .empty]), false, true⟩ (.node 49 ⟨.struct #[⟨"Text", 9, 0, false, "", "", 0⟩, ⟨"Tail", 9, 1, false, "", "", 16⟩], 2, 32, (some [.str .empty, .str .empty]), false, true⟩ (.node 44 ⟨.struct #[⟨"Name", 9, 0, false, "", "", 0⟩, ⟨"Head", 9, 1, false, "", "", 16⟩, ⟨"Words", 42, 2, false, "", "", 32⟩], 3, 56, (some [.str .empty, .str .empty, .nils]), false, true⟩ .nil .nil) .nil) (.node 52 ⟨.slice 3, 1, 24, (some [.nils]), true, false⟩ .nil .nil)))) (.node 78 ⟨.interface #[("Error", 84)], 1, 16, (some [.nilif]), true, false⟩ (.node 71 ⟨.map 9 4, 1, 8, (some [.u]), true, false⟩ (.node 61 ⟨.struct #[⟨"None", 4, 0, false, "", "", 0⟩, ⟨"Text", 9, 1, false, "", "", 8⟩, ⟨"Wits", 52, 2, false, "", "", 24⟩], 3, 48, (some [.ff, .str .empty, .nils]), false, true⟩ (.node 59 ⟨.struct #[⟨"Col", 3, 0, false, "", "", 0⟩, ⟨"Readings", 55, 1, false, "", "", 8⟩], 2, 32, (some [.int .i64 0, .nils]), false, true⟩ (.node 58 ⟨.struct #[⟨"Col", 3, 0, false, "", "", 0⟩, ⟨"Readings", 55, 1, false, "", "", 8⟩], 2, 32, (some [.int .i64 0, .nils]), false, true⟩ .nil .nil) .nil) (.node 62 ⟨.struct #[⟨"None", 4, 0, false, "", "", 0⟩, ⟨"Text", 9, 1, false, "", "", 8⟩, ⟨"Wits", 52, 2, false, "", "", 24⟩], 3, 48, (some [.ff, .str .empty, .nils]), false, true⟩ .nil .nil)) (.node 76 ⟨.struct #[⟨"addr", 74, 0, false, "", "strings", 0⟩, ⟨"buf", 75, 1, false, "", "strings", 8⟩], 2, 32, (some [.nilp, .nils]), false, true⟩ (.node 75 ⟨.slice 5, 1, 24, (some [.nils]), true, false⟩ (.node 74 ⟨.pointer 77, 1, 8, (some [.nilp]), true, false⟩ .nil .nil) .nil) (.node 77 ⟨.struct #[⟨"addr", 74, 0, false, "", "strings", 0⟩, ⟨"buf", 75, 1, false, "", "strings", 8⟩], 2, 32, (some [.nilp, .nils]), false, true⟩ .nil .nil))) (.node 108 ⟨.map 9 3, 1, 8, (some [.u]), true, false⟩ (.node 106 ⟨.pointer 5, 1, 8, (some [.nilp]), true, false⟩ (.node 97 ⟨.slice 4, 1, 24, (some [.nils]), true, false⟩ (.node 79 ⟨.interface #[("Error", 84)], 1, 16, (some [.nilif]), true, false⟩ .nil .nil) .nil) (.node 107 ⟨.map 3 4, 1, 8, (some [.u]), true, false⟩ .nil .nil)) (.node 125 ⟨.struct #[⟨"Kind", 3, 0, false, "", "", 0⟩, ⟨"At", 3, 1, false, "", "", 8⟩, ⟨"Text", 9, 2, false, "", "", 16⟩], 3, 32, (some [.int .i64 0, .int .i64 0, .str .empty]), false, true⟩ (.node 122 ⟨.slice 126, 1, 24, (some [.nils]), true, false⟩ (.node 113 ⟨.int .u64, 1, 8, (some [.int .u64 0]), true, false⟩ .nil .nil) .nil) (.node 126 ⟨.struct #[⟨"Kind", 3, 0, false, "", "", 0⟩, ⟨"At", 3, 1, false, "", "", 8⟩, ⟨"Text", 9, 2, false, "", "", 16⟩], 3, 32, (some [.int .i64 0, .int .i64 0, .str .empty]), false, true⟩ .nil .nil))))) (.node 198 ⟨.struct #[⟨"lo", 5, 0, false, "", "unicode/utf8", 0⟩, ⟨"hi", 5, 1, false, "", "unicode/utf8", 1⟩], 2, 2, (some [.int .u8 0, .int .u8 0]), false, true⟩ (.node 162 ⟨.int .u32, 1, 4, (some [.int .u32 0]), true, false⟩ (.node 139 ⟨.struct #[⟨"At", 3, 0, false, "", "", 0⟩, ⟨"Width", 3, 1, false, "", "", 8⟩, ⟨"R", 21, 2, false, "", "", 16⟩, ⟨"Bad", 4, 3, false, "", "", 20⟩, ⟨"Byte", 5, 4, false, "", "", 21⟩], 5, 24, (some [.int .i64 0, .int .i64 0, .int .i32 0, .ff, .int .u8 0]), false, true⟩ (.node 136 ⟨.slice 139, 1, 24, (some [.nils]), true, false⟩ (.node 134 ⟨.slice 154, 1, 24, (some [.nils]), true, false⟩ (.node 130 ⟨.int .u64, 1, 8, (some [.int .u64 0]), true, false⟩ .nil .nil) .nil) (.node 138 ⟨.struct #[⟨"At", 3, 0, false, "", "", 0⟩, ⟨"Width", 3, 1, false, "", "", 8⟩, ⟨"R", 21, 2, false, "", "", 16⟩, ⟨"Bad", 4, 3, false, "", "", 20⟩, ⟨"Byte", 5, 4, false, "", "", 21⟩], 5, 24, (some [.int .i64 0, .int .i64 0, .int .i32 0, .ff, .int .u8 0]), false, true⟩ .nil .nil)) (.node 154 ⟨.func #[21] #[21] false, 1, 8, (some [.u]), true, false⟩ (.node 145 ⟨.pointer 167, 1, 8, (some [.nilp]), true, false⟩ (.node 142 ⟨.int .i64, 1, 8, (some [.int .i64 0]), true, false⟩ .nil .nil) .nil) (.node 159 ⟨.slice 21, 1, 24, (some [.nils]), true, false⟩ .nil .nil))) (.node 185 ⟨.struct #[⟨"s", 9, 0, false, "", "errors", 0⟩], 1, 16, (some [.str .empty]), false, true⟩ (.node 177 ⟨.array 24 5, 24, 24, (some [.int .u8 0, .int .u8 0, .int .u8 0, .int .u8 0, .int .u8 0, .int .u8 0, .int .u8 0, .int .u8 0, .int .u8 0, .int .u8 0, .int .u8 0, .int .u8 0, .int .u8 0, .int .u8 0, .int .u8 0, .int .u8 0, .int .u8 0, .int .u8 0, .int .u8 0, .int .u8 0, .int .u8 0, .int .u8 0, .int .u8 0, .int .u8 0]), false, false⟩ (.node 167 ⟨.struct #[⟨"Func", 9, 0, false, "", "", 0⟩, ⟨"Num", 9, 1, false, "", "", 16⟩, ⟨"Err", 79, 2, false, "", "", 32⟩], 3, 48, (some [.str .empty, .str .empty, .nilif]), false, false⟩ (.node 166 ⟨.struct #[⟨"Func", 9, 0, false, "", "", 0⟩, ⟨"Num", 9, 1, false, "", "", 16⟩, ⟨"Err", 79, 2, false, "", "", 32⟩], 3, 48, (some [.str .empty, .str .empty, .nilif]), false, false⟩ .nil .nil) .nil) (.node 184 ⟨.pointer 186, 1, 8, (some [.nilp]), true, false⟩ .nil .nil)) (.node 195 ⟨.array 65 5, 65, 65, (some [.int .u8 0, .int .u8 0, .int .u8 0, .int .u8 0, .int .u8 0, .int .u8 0, .int .u8 0, .int .u8 0, .int .u8 0, .int .u8 0, .int .u8 0, .int .u8 0, .int .u8 0, .int .u8 0, .int .u8 0, .int .u8 0, .int .u8 0, .int .u8 0, .int .u8 0, .int .u8 0, .int .u8 0, .int .u8 0, .int .u8 0, .int .u8 0, .int .u8 0, .int .u8 0, .int .u8 0, .int .u8 0, .int .u8 0, .int .u8 0, .int .u8 0, .int .u8 0, .int .u8 0, .int .u8 0, .int .u8 0, .int .u8 0, .int .u8 0, .int .u8 0, .int .u8 0, .int .u8 0, .int .u8 0, .int .u8 0, .int .u8 0, .int .u8 0, .int .u8 0, .int .u8 0, .int .u8 0, .int .u8 0, .int .u8 0, .int .u8 0, .int .u8 0, .int .u8 0, .int .u8 0, .int .u8 0, .int .u8 0, .int .u8 0, .int .u8 0, .int .u8 0, .int .u8 0, .int .u8 0, .int .u8 0, .int .u8 0, .int .u8 0, .int .u8 0, .int .u8 0]), false, false⟩ (.node 194 ⟨.array 20 113, 20, 160, (some [.int .u64 0, .int .u64 0, .int .u64 0, .int .u64 0, .int .u64 0, .int .u64 0, .int .u64 0, .int .u64 0, .int .u64 0, .int .u64 0, .int .u64 0, .int .u64 0, .int .u64 0, .int .u64 0, .int .u64 0, .int .u64 0, .int .u64 0, .int .u64 0, .int .u64 0, .int .u64 0]), false, false⟩ (.node 186 ⟨.struct #[⟨"s", 9, 0, false, "", "errors", 0⟩], 1, 16, (some [.str .empty]), false, true⟩ .nil .nil) .nil) (.node 197 ⟨.array 256 5, 256, 256, (some [.int .u8 0, .int .u8 0, .int .u8 0, .int .u8 0, .int .u8 0, .int .u8 0, .int .u8 0, .int .u8 0, .int .u8 0, .int .u8 0, .int .u8 0, .int .u8 0, .int .u8 0, .int .u8 0, .int .u8 0, .int .u8 0, .int .u8 0, .int .u8 0, .int .u8 0, .int .u8 0, .int .u8 0, .int .u8 0, .int .u8 0, .int .u8 0, .int .u8 0, .int .u8 0, .int .u8 0, .int .u8 0, .int .u8 0, .int .u8 0, .int .u8 0, .int .u8 0, .int .u8 0, .int .u8 0, .int .u8 0, .int .u8 0, .int .u8 0, .int .u8 0, .int .u8 0, .int .u8 0, .int .u8 0, .int .u8 0, .int .u8 0, .int .u8 0, .int .u8 0, .int .u8 0, .int .u8 0, .int .u8 0, .int .u8 0, .int .u8 0, .int .u8 0, .int .u8 0, .int .u8 0, .int .u8 0, .int .u8 0, .int .u8 0, .int .u8 0, .int .u8 0, .int .u8 0, .int .u8 0, .int .u8 0, .int .u8 0, .int .u8 0, .int .u8 0, .int .u8 0, .int .u8 0, .int .u8 0, .int .u8 0, .int .u8 0, .int .u8 0, .int .u8 0, .int .u8 0, .int .u8 0, .int .u8 0, .int .u8 0, .int .u8 0, .int .u8 0, .int .u8 0, .int .u8 0, .int .u8 0, .int .u8 0, .int .u8 0, .int .u8 0, .int .u8 0, .int .u8 0, .int .u8 0, .int .u8 0, .int .u8 0, .int .u8 0, .int .u8 0, .int .u8 0, .int .u8 0, .int .u8 0, .int .u8 0, .int .u8 0, .int .u8 0, .int .u8 0, .int .u8 0, .int .u8 0, .int .u8 0, .int .u8 0, .int .u8 0, .int .u8 0, .int .u8 0, .int .u8 0, .int .u8 0, .int .u8 0, .int .u8 0, .int .u8 0, .int .u8 0, .int .u8 0, .int .u8 0, .int .u8 0, .int .u8 0, .int .u8 0, .int .u8 0, .int .u8 0, .int .u8 0, .int .u8 0, .int .u8 0, .int .u8 0, .int .u8 0, .int .u8 0, .int .u8 0, .int .u8 0, .int .u8 0, .int .u8 0, .int .u8 0, .int .u8 0, .int .u8 0, .int .u8 0, .int .u8 0, .int .u8 0, .int .u8 0, .int .u8 0, .int .u8 0, .int .u8 0, .int .u8 0, .int .u8 0, .int .u8 0, .int .u8 0, .int .u8 0, .int .u8 0, .int .u8 0, .int .u8 0, .int .u8 0, .int .u8 0, .int .u8 0, .int .u8 0, .int .u8 0, .int .u8 0, .int .u8 0, .int .u8 0, .int .u8 0, .int .u8 0, .int .u8 0, .int .u8 0, .int .u8 0, .int .u8 0, .int .u8 0, .int .u8 0, .int .u8 0, .int .u8 0, .int .u8 0, .int .u8 0, .int .u8 0, .int .u8 0, .int .u8 0, .int .u8 0, .int .u8 0, .int .u8 0, .int .u8 0, .int .u8 0, .int .u8 0, .int .u8 0, .int .u8 0, .int .u8 0, .int .u8 0, .int .u8 0, .int .u8 0, .int .u8 0, .int .u8 0, .int .u8 0, .int .u8 0, .int .u8 0, .int .u8 0, .int .u8 0, .int .u8 0, .int .u8 0, .int .u8 0, .int .u8 0, .int .u8 0, .int .u8 0, .int .u8 0, .int .u8 0, .int .u8 0, .int .u8 0, .int .u8 0, .int .u8 0, .int .u8 0, .int .u8 0, .int .u8 0, .int .u8 0, .int .u8 0, .int .u8 0, .int .u8 0, .int .u8 0, .int .u8 0, .int .u8 0, .int .u8 0, .int .u8 0, .int .u8 0, .int .u8 0, .int .u8 0, .int .u8 0, .int .u8 0, .int .u8 0, .int .u8 0, .int .u8 0, .int .u8 0, .int .u8 0, .int .u8 0, .int .u8 0, .int .u8 0, .int .u8 0, .int .u8 0, .int .u8 0, .int .u8 0, .int .u8 0, .int .u8 0, .int .u8 0, .int .u8 0, .int .u8 0, .int .u8 0, .int .u8 0, .int .u8 0, .int .u8 0, .int .u8 0, .int .u8 0, .int .u8 0, .int .u8 0, .int .u8 0, .int .u8 0, .int .u8 0, .int .u8 0, .int .u8 0, .int .u8 0, .int .u8 0, .int .u8 0, .int .u8 0, .int .u8 0, .int .u8 0, .int .u8 0, .int .u8 0, .int .u8 0, .int .u8 0]), false, false⟩ .nil .nil)))) (.node 214 ⟨.slice 220, 1, 24, (some [.nils]), true, false⟩ (.node 208 ⟨.struct #[⟨"start", 3, 0, false, "", "strings", 0⟩, ⟨"end", 3, 1, false, "", "strings", 8⟩], 2, 16, (some [.int .i64 0, .int .i64 0]), false, true⟩ (.node 202 ⟨.func #[21] #[4] false, 1, 8, (some [.u]), true, false⟩ (.node 200 ⟨.array 16 199, 32, 32, (some [.int .u8 0, .int .u8 0, .int .u8 0, .int .u8 0, .int .u8 0, .int .u8 0, .int .u8 0, .int .u8 0, .int .u8 0, .int .u8 0, .int .u8 0, .int .u8 0, .int .u8 0, .int .u8 0, .int .u8 0, .int .u8 0, .int .u8 0, .int .u8 0, .int .u8 0, .int .u8 0, .int .u8 0, .int .u8 0, .int .u8 0, .int .u8 0, .int .u8 0, .int .u8 0, .int .u8 0, .int .u8 0, .int .u8 0, .int .u8 0, .int .u8 0, .int .u8 0]), false, false⟩ (.node 199 ⟨.struct #[⟨"lo", 5, 0, false, "", "unicode/utf8", 0⟩, ⟨"hi", 5, 1, false, "", "unicode/utf8", 1⟩], 2, 2, (some [.int .u8 0, .int .u8 0]), false, true⟩ .nil .nil) .nil) (.node 207 ⟨.slice 209, 1, 24, (some [.nils]), true, false⟩ .nil .nil)) (.node 212 ⟨.array 32 5, 32, 32, (some [.int .u8 0, .int .u8 0, .int .u8 0, .int .u8 0, .int .u8 0, .int .u8 0, .int .u8 0, .int .u8 0, .int .u8 0, .int .u8 0, .int .u8 0, .int .u8 0, .int .u8 0, .int .u8 0, .int .u8 0, .int .u8 0, .int .u8 0, .int .u8 0, .int .u8 0, .int .u8 0, .int .u8 0, .int .u8 0, .int .u8 0, .int .u8 0, .int .u8 0, .int .u8 0, .int .u8 0, .int .u8 0, .int .u8 0, .int .u8 0, .int .u8 0, .int .u8 0]), false, false⟩ (.node 211 ⟨.pointer 217, 1, 8, (some [.nilp]), true, false⟩ (.node 209 ⟨.struct #[⟨"start", 3, 0, false, "", "strings", 0⟩, ⟨"end", 3, 1, false, "", "strings", 8⟩], 2, 16, (some [.int .i64 0, .int .i64 0]), false, true⟩ .nil .nil) .nil) (.node 213 ⟨.array 64 5, 64, 64, (some [.int .u8 0, .int .u8 0, .int .u8 0, .int .u8 0, .int .u8 0, .int .u8 0, .int .u8 0, .int .u8 0, .int .u8 0, .int .u8 0, .int .u8 0, .int .u8 0, .int .u8 0, .int .u8 0, .int .u8 0, .int .u8 0, .int .u8 0, .int .u8 0, .int .u8 0, .int .u8 0, .int .u8 0, .int .u8 0, .int .u8 0, .int .u8 0, .int .u8 0, .int .u8 0, .int .u8 0, .int .u8 0, .int .u8 0, .int .u8 0, .int .u8 0, .int .u8 0, .int .u8 0, .int .u8 0, .int .u8 0, .int .u8 0, .int .u8 0, .int .u8 0, .int .u8 0, .int .u8 0, .int .u8 0, .int .u8 0, .int .u8 0, .int .u8 0, .int .u8 0, .int .u8 0, .int .u8 0, .int .u8 0, .int .u8 0, .int .u8 0, .int .u8 0, .int .u8 0, .int .u8 0, .int .u8 0, .int .u8 0, .int .u8 0, .int .u8 0, .int .u8 0, .int .u8 0, .int .u8 0, .int .u8 0, .int .u8 0, .int .u8 0, .int .u8 0]), false, false⟩ .nil .nil))) (.node 219 ⟨.struct #[⟨"Lo", 218, 0, false, "", "", 0⟩, ⟨"Hi", 218, 1, false, "", "", 2⟩, ⟨"Stride", 218, 2, false, "", "", 4⟩], 3, 6, (some [.int .u16 0, .int .u16 0, .int .u16 0]), false, true⟩ (.node 217 ⟨.struct #[⟨"R16", 214, 0, false, "", "", 0⟩, ⟨"R32", 215, 1, false, "", "", 24⟩, ⟨"LatinOffset", 3, 2, false, "", "", 48⟩], 3, 56, (some [.nils, .nils, .int .i64 0]), false, true⟩ (.node 216 ⟨.struct #[⟨"R16", 214, 0, false, "", "", 0⟩, ⟨"R32", 215, 1, false, "", "", 24⟩, ⟨"LatinOffset", 3, 2, false, "", "", 48⟩], 3, 56, (some [.nils, .nils, .int .i64 0]), false, true⟩ (.node 215 ⟨.slice 223, 1, 24, (some [.nils]), true, false⟩ .nil .nil) .nil) (.node 218 ⟨.int .u16, 1, 2, (some [.int .u16 0]), true, false⟩ .nil .nil)) (.node 222 ⟨.struct #[⟨"Lo", 162, 0, false, "", "", 0⟩, ⟨"Hi", 162, 1, false, "", "", 4⟩, ⟨"Stride", 162, 2, false, "", "", 8⟩], 3, 12, (some [.int .u32 0, .int .u32 0, .int .u32 0]), false, true⟩ (.node 220 ⟨.struct #[⟨"Lo", 218, 0, false, "", "", 0⟩, ⟨"Hi", 218, 1, false, "", "", 2⟩, ⟨"Stride", 218, 2, false, "", "", 4⟩], 3, 6, (some [.int .u16 0, .int .u16 0, .int .u16 0]), false, true⟩ .nil .nil) (.node 223 ⟨.struct #[⟨"Lo", 162, 0, false, "", "", 0⟩, ⟨"Hi", 162, 1, false, "", "", 4⟩, ⟨"Stride", 162, 2, false, "", "", 8⟩], 3, 12, (some [.int .u32 0, .int .u32 0, .int .u32 0]), false, true⟩ .nil .nil))))))
theorem tbOk : TOk Tryz.prog TB := (TOk.node (by kernel_rfl) (by kernel_rfl) (TOk.node (by kernel_rfl) (by kernel_rfl) (TOk.node (by kernel_rfl) (by kernel_rfl) (TOk.node (by kernel_rfl) (by kernel_rfl) (TOk.node (by kernel_rfl) (by kernel_rfl) (TOk.node (by kernel_rfl) (by kernel_rfl) (TOk.node (by kernel_rfl) (by kernel_rfl) TOk.nil TOk.nil) TOk.nil) (TOk.node (by kernel_rfl) (by kernel_rfl) TOk.nil TOk.nil)) (TOk.node (by kernel_rfl) (by kernel_rfl) (TOk.node (by kernel_rfl) (by kernel_rfl) (TOk.node (by kernel_rfl) (by kernel_rfl) TOk.nil TOk.nil) TOk.nil) (TOk.node (by kernel_rfl) (by kernel_rfl) TOk.nil TOk.nil))) (TOk.node (by kernel_rfl) (by kernel_rfl) (TOk.node (by kernel_rfl) (by kernel_rfl) (TOk.node (by kernel_rfl) (by kernel_rfl) (TOk.node (by kernel_rfl) (by kernel_rfl) TOk.nil TOk.nil) TOk.nil) (TOk.node (by kernel_rfl) (by kernel_rfl) TOk.nil TOk.nil)) (TOk.node (by kernel_rfl) (by kernel_rfl) (TOk.node (by kernel_rfl) (by kernel_rfl) (TOk.node (by kernel_rfl) (by kernel_rfl) TOk.nil TOk.nil) TOk.nil) (TOk.node (by kernel_rfl) (by kernel_rfl) TOk.nil TOk.nil)))) (TOk.node (by kernel_rfl) (by kernel_rfl) (TOk.node (by kernel_rfl) (by kernel_rfl) (TOk.node (by kernel_rfl) (by kernel_rfl) (TOk.node (by kernel_rfl) (by kernel_rfl) (TOk.node (by kernel_rfl) (by kernel_rfl) TOk.nil TOk.nil) TOk.nil) (TOk.node (by kernel_rfl) (by kernel_rfl) TOk.nil TOk.nil)) (TOk.node (by kernel_rfl) (by kernel_rfl) (TOk.node (by kernel_rfl) (by kernel_rfl) (TOk.node (by kernel_rfl) (by kernel_rfl) TOk.nil TOk.nil) TOk.nil) (TOk.node (by kernel_rfl) (by kernel_rfl) TOk.nil TOk.nil))) (TOk.node (by kernel_rfl) (by kernel_rfl) (TOk.node (by kernel_rfl) (by kernel_rfl) (TOk.node (by kernel_rfl) (by kernel_rfl) (TOk.node (by kernel_rfl) (by kernel_rfl) TOk.nil TOk.nil) TOk.nil) (TOk.node (by kernel_rfl) (by kernel_rfl) TOk.nil TOk.nil)) (TOk.node (by kernel_rfl) (by kernel_rfl) (TOk.node (by kernel_rfl) (by kernel_rfl) (TOk.node (by kernel_rfl) (by kernel_rfl) TOk.nil TOk.nil) TOk.nil) (TOk.node (by kernel_rfl) (by kernel_rfl) TOk.nil TOk.nil))))) (TOk.node (by kernel_rfl) (by kernel_rfl) (TOk.node (by kernel_rfl) (by kernel_rfl) (TOk.node (by kernel_rfl) (by kernel_rfl) (TOk.node (by kernel_rfl) (by kernel_rfl) (TOk.node (by kernel_rfl) (by kernel_rfl) (TOk.node (by kernel_rfl) (by kernel_rfl) TOk.nil TOk.nil) TOk.nil) (TOk.node (by kernel_rfl) (by kernel_rfl) TOk.nil TOk.nil)) (TOk.node (by kernel_rfl) (by kernel_rfl) (TOk.node (by kernel_rfl) (by kernel_rfl) (TOk.node (by kernel_rfl) (by kernel_rfl) TOk.nil TOk.nil) TOk.nil) (TOk.node (by kernel_rfl) (by kernel_rfl) TOk.nil TOk.nil))) (TOk.node (by kernel_rfl) (by kernel_rfl) (TOk.node (by kernel_rfl) (by kernel_rfl) (TOk.node (by kernel_rfl) (by kernel_rfl) (TOk.node (by kernel_rfl) (by kernel_rfl) TOk.nil TOk.nil) TOk.nil) (TOk.node (by kernel_rfl) (by kernel_rfl) TOk.nil TOk.nil)) (TOk.node (by kernel_rfl) (by kernel_rfl) (TOk.node (by kernel_rfl) (by kernel_rfl) (TOk.node (by kernel_rfl) (by kernel_rfl) TOk.nil TOk.nil) TOk.nil) (TOk.node (by kernel_rfl) (by kernel_rfl) TOk.nil TOk.nil)))) (TOk.node (by kernel_rfl) (by kernel_rfl) (TOk.node (by kernel_rfl) (by kernel_rfl) (TOk.node (by kernel_rfl) (by kernel_rfl) (TOk.node (by kernel_rfl) (by kernel_rfl) (TOk.node (by kernel_rfl) (by kernel_rfl) TOk.nil TOk.nil) TOk.nil) (TOk.node (by kernel_rfl) (by kernel_rfl) TOk.nil TOk.nil)) (TOk.node (by kernel_rfl) (by kernel_rfl) (TOk.node (by kernel_rfl) (by kernel_rfl) (TOk.node (by kernel_rfl) (by kernel_rfl) TOk.nil TOk.nil) TOk.nil) (TOk.node (by kernel_rfl) (by kernel_rfl) TOk.nil TOk.nil))) (TOk.node (by kernel_rfl) (by kernel_rfl) (TOk.node (by kernel_rfl) (by kernel_rfl) (TOk.node (by kernel_rfl) (by kernel_rfl) (TOk.node (by kernel_rfl) (by kernel_rfl) TOk.nil TOk.nil) TOk.nil) (TOk.node (by kernel_rfl) (by kernel_rfl) TOk.nil TOk.nil)) (TOk.node (by kernel_rfl) (by kernel_rfl) (TOk.node (by kernel_rfl) (by kernel_rfl) TOk.nil TOk.nil) (TOk.node (by kernel_rfl) (by kernel_rfl) TOk.nil TOk.nil))))))
end Go.Proofs.YteklnpgiloebcaaGreatDoor.V

namespace Go.Proofs.YteklnpgiloebcaaGreatDoor.V
set_option linter.unusedVariables false
set_option linter.unusedSimpArgs false
open Go Go.Proofs Go.RowKit Go.Shelf
set_option maxRecDepth 100000
theorem first_same : ∀ c : Fin 256, firstT c.val = (Lib.firstT c.val : Int) := by decide +kernel
theorem acc_same : ∀ i : Fin 16, accT (2 * i.val) = (Lib.accLo i.val : Int) ∧ accT (2 * i.val + 1) = (Lib.accHi i.val : Int) := by decide +kernel
theorem cell_lt {w : World} {g i : Nat} {v : Value} (h : w.cell? ⟨g, i, none⟩ = some v) : g < w.heap.size := by
  rcases Nat.lt_or_ge g w.heap.size with h1 | h1
  · exact h1
  · unfold World.cell? at h
    simp [Array.getElem?_eq_none h1] at h
theorem add0 (g j : Nat) : (⟨g, 0, none⟩ : Addr).add j = ⟨g, j, none⟩ := by
  unfold Addr.add
  by_cases h : j = 0
  · simp [h]
  · simp [h]
/-- A variable that holds an error: its one cell. -/
theorem iface_cell {H : Type} {enc : TypeId × Value → H} {P : Program} {w : World} {base : Nat} {sp : Nat → Bool} {held : Bool} {fuel : Nat} {t : TypeId} {ms : Array (String × TypeId)} {cs : List Value} {nm : String} {d : DataW H} {p : List MemPlace}
    (ht : P.underlying t = some (.interface ms)) (h : DataW.trod enc P w base sp held fuel t cs = some (.iface nm d, p)) : ∃ u v, cs = [.iface u v] := by
  cases fuel with
  | zero => simp [DataW.trod] at h
  | succ fuel =>
    rcases cs with _ | ⟨x, _ | ⟨y, r⟩⟩
    · simp [DataW.trod, ht] at h
    · cases x <;> first | exact ⟨_, _, rfl⟩ | (exfalso; simp [DataW.trod, ht] at h)
    · cases x <;> (exfalso; simp [DataW.trod, ht] at h)
def AscTab (W : World) : Prop := ∀ c, c < 256 → W.cell? ⟨6, c, none⟩ = some (.int .u8 (ascT c))
def ErrCell (W : World) : Prop := ∃ v, W.cell? ⟨1, 0, none⟩ = some v ∧ v.oneCell' = true
theorem globs {W : World} (h2 : Lib.Utf8Tabs 4 5 W ∧ AscTab W ∧ ErrCell W) : GlobOk (fun b => b < W.heap.size) W := by
  obtain ⟨h, ha, ev, hec, heo⟩ := h2
  intro g
  unfold GL
  split
  · have h0 := cell_lt (h.1 0 (by decide))
    refine ⟨⟨4, 0, none⟩, rfl, ⟨h0, h0⟩, fun j hj => ⟨.int .u8 (firstT j), ?_, rfl, rfl⟩⟩
    rw [add0, first_same ⟨j, hj⟩]
    exact h.1 j hj
  · have h0 := cell_lt (h.2 0 (by decide)).1
    refine ⟨⟨5, 0, none⟩, rfl, ⟨h0, h0⟩, fun j hj => ⟨.int .u8 (accT j), ?_, rfl, rfl⟩⟩
    have := h.2 (j / 2) (by omega)
    have hs := acc_same ⟨j / 2, by omega⟩
    rw [add0]
    rcases (by omega : j = 2 * (j / 2) ∨ j = 2 * (j / 2) + 1) with e | e
    · rw [e, hs.1]
      exact this.1
    · rw [e, hs.2]
      exact this.2
  · have h0 := cell_lt (ha 0 (by decide))
    refine ⟨⟨6, 0, none⟩, rfl, ⟨h0, h0⟩, fun j hj => ⟨.int .u8 (ascT j), ?_, rfl, rfl⟩⟩
    rw [add0]
    exact ha j hj
  · have h0 := cell_lt hec
    refine ⟨⟨1, 0, none⟩, rfl, ⟨h0, h0⟩, fun j hj => ⟨ev, ?_, heo, heo⟩⟩
    obtain rfl : j = 0 := by omega
    rw [add0]
    exact hec
  · trivial
/-- What the rows of folding list. -/
def LD : List (String × DataW Unit) := [("math/bits.deBruijn32tab", Rows.laid_math_bits_deBruijn32tab), ("math/bits.deBruijn64tab", Rows.laid_math_bits_deBruijn64tab), ("internal/strconv.uint64pow10", Rows.laid_internal_strconv_uint64pow10), ("unicode/utf8.acceptRanges", Rows.laid_unicode_utf8_acceptRanges), ("strconv.ErrRange", Rows.laid_strconv_ErrRange), ("strconv.ErrSyntax", Rows.laid_strconv_ErrSyntax), ("unicode.White_Space", Rows.laid_unicode_White_Space), ("strings.asciiSpace", Rows.laid_strings_asciiSpace), ("unicode/utf8.first", Rows.laid_unicode_utf8_first)]
def ascTab : List Int := (List.range 256).map ascT
theorem first_eq : Rows.laid_unicode_utf8_first = Lib.firstData := by kernel_rfl
theorem acc_eq : (Rows.laid_unicode_utf8_acceptRanges : DataW Unit) = Lib.acceptData := by kernel_rfl
theorem asc_eq : (Rows.laid_strings_asciiSpace : DataW Unit) = Lib.tabData .u8 ascTab := by kernel_rfl
theorem tabs {W : World} (h : laidMet Tryz.prog LD W) : Lib.Utf8Tabs 4 5 W ∧ AscTab W ∧ ErrCell W := by
  have h3 := Lib.laidMet.reads h (n := "unicode/utf8.first") (d := Lib.firstData) (by rw [← first_eq]; exact .tail _ (.tail _ (.tail _ (.tail _ (.tail _ (.tail _ (.tail _ (.tail _ (.head _)))))))))
  have h4 := Lib.laidMet.reads h (n := "unicode/utf8.acceptRanges") (d := Lib.acceptData) (by rw [← acc_eq]; exact .tail _ (.tail _ (.tail _ (.head _))))
  have h6 := Lib.laidMet.reads h (n := "strings.asciiSpace") (d := Lib.tabData .u8 ascTab) (by rw [← asc_eq]; exact .tail _ (.tail _ (.tail _ (.tail _ (.tail _ (.tail _ (.tail _ (.head _))))))))
  have h5 := Lib.laidMet.reads h (n := "strconv.ErrSyntax") (d := Rows.laid_strconv_ErrSyntax) (.tail _ (.tail _ (.tail _ (.tail _ (.tail _ (.head _))))))
  have c5 : Tryz.prog.cellsOf 5 = 1 := by kernel_rfl
  have t5 : Tryz.prog.underlying 5 = some (.int .u8) := by kernel_rfl
  have c113 : Tryz.prog.cellsOf 199 = 2 := by kernel_rfl
  refine ⟨⟨fun c hc => ?_, fun i hi => ?_⟩, fun c hc => ?_, ?_⟩
  · obtain ⟨g, t, cs, fuel, p, hg, hty, hvar, hd⟩ := h3
    obtain rfl := Option.some.inj ((show Tryz.prog.globalNamed "unicode/utf8.first" = some 4 by kernel_rfl).symm.trans hg)
    obtain rfl := Option.some.inj ((show (Tryz.prog.globals[4]?).map (·.type) = some 197 by kernel_rfl).symm.trans hty)
    have hcs := Lib.cells_of_tab (show Tryz.prog.underlying 197 = some (.array 256 5) by kernel_rfl) t5 c5 (show Tryz.prog.cellsOf 197 = 256 by kernel_rfl) hd
    have := World.var?_cell hg hvar c
    rw [this, ← Array.getElem?_toList, hcs]
    simp [Lib.firstTab, hc]
  · obtain ⟨g, t, cs, fuel, p, hg, hty, hvar, hd⟩ := h4
    obtain rfl := Option.some.inj ((show Tryz.prog.globalNamed "unicode/utf8.acceptRanges" = some 5 by kernel_rfl).symm.trans hg)
    obtain rfl := Option.some.inj ((show (Tryz.prog.globals[5]?).map (·.type) = some 200 by kernel_rfl).symm.trans hty)
    obtain ⟨fuel', d, q, hdi, he⟩ := Lib.array_elem (show Tryz.prog.underlying 200 = some (.array 16 199) by kernel_rfl) hd i hi
    simp only [List.getElem?_map, List.getElem?_range hi, Option.map_some, Option.some.injEq] at hdi
    subst hdi
    rw [c113] at he
    have hcs := Lib.ints_of_struct (fs := #[⟨"lo", 5, 0, false, "", "unicode/utf8", 0⟩, ⟨"hi", 5, 1, false, "", "unicode/utf8", 1⟩]) (show Tryz.prog.underlying 199 = some (.struct #[⟨"lo", 5, 0, false, "", "unicode/utf8", 0⟩, ⟨"hi", 5, 1, false, "", "unicode/utf8", 1⟩]) by kernel_rfl) (fun j f hj => by
      match j, hj with
      | 0, hj => simp at hj; subst hj; exact ⟨t5, rfl, c5⟩
      | 1, hj => simp at hj; subst hj; exact ⟨t5, rfl, c5⟩
      | j + 2, hj => simp at hj) (by rw [c113]; rfl) he
    have e0 := congrArg (·[0]?) hcs
    have e1 := congrArg (·[1]?) hcs
    simp only [List.getElem?_take, List.getElem?_drop] at e0 e1
    constructor
    · rw [World.var?_cell hg hvar (2 * i), ← Array.getElem?_toList]
      simpa [Nat.mul_comm] using e0
    · rw [World.var?_cell hg hvar (2 * i + 1), ← Array.getElem?_toList]
      simpa [Nat.mul_comm] using e1
  · obtain ⟨g, t, cs, fuel, p, hg, hty, hvar, hd⟩ := h6
    obtain rfl := Option.some.inj ((show Tryz.prog.globalNamed "strings.asciiSpace" = some 6 by kernel_rfl).symm.trans hg)
    obtain rfl := Option.some.inj ((show (Tryz.prog.globals[6]?).map (·.type) = some 197 by kernel_rfl).symm.trans hty)
    have hcs := Lib.cells_of_tab (show Tryz.prog.underlying 197 = some (.array 256 5) by kernel_rfl) t5 c5 (show Tryz.prog.cellsOf 197 = 256 by kernel_rfl) hd
    have := World.var?_cell hg hvar c
    rw [this, ← Array.getElem?_toList, hcs]
    simp [ascTab, hc]
  · obtain ⟨g, t, cs, fuel, p, hg, hty, hvar, hd⟩ := h5
    obtain rfl := Option.some.inj ((show Tryz.prog.globalNamed "strconv.ErrSyntax" = some 1 by kernel_rfl).symm.trans hg)
    obtain rfl := Option.some.inj ((show (Tryz.prog.globals[1]?).map (·.type) = some 79 by kernel_rfl).symm.trans hty)
    obtain ⟨u, v, hcs⟩ := iface_cell (show Tryz.prog.underlying 79 = some (.interface (Tryz.prog.methodsAt 79)) by kernel_rfl) hd
    refine ⟨.iface u v, ?_, rfl⟩
    rw [World.var?_cell hg hvar 0, ← Array.getElem?_toList, hcs]; rfl
/-- A world for the witnesses: the settled one, the tables as the rows list them. -/
noncomputable def laidWorld (os : Os) : World := World.laidAll Tryz.prog os LD
theorem laidWorld_os (os : Os) : (laidWorld os).os = os := World.laidAll_os _ _ _
theorem laid_met (os : Os) (args : Array Value) : laidMet Tryz.prog LD ((laidWorld os).forCall (fun _ _ => 0) ⟨#[], args, []⟩).memory :=
  laidMet_laidAll args (by kernel_rfl) (by kernel_rfl)
theorem own : ownKnob Tryz.prog.godebug = none := by kernel_rfl
theorem laidOut : laidOutB Tryz.prog = true := by kernel_rfl
end Go.Proofs.YteklnpgiloebcaaGreatDoor.V

namespace Go.Proofs.YteklnpgiloebcaaGreatDoor.V
set_option linter.unusedVariables false
set_option linter.unusedSimpArgs false
open Go Go.RowKit

/-- The walk: it stops at a condition that is not known (s), and at a list of things to do that is not longer than d. -/
def aexecS (C : Ctx) (s : Bool) (d : Nat) : Nat → List Item → Env → Heap → Prop
  | 0, k, env, h => Run C k env h
  | n + 1, k, env, h => cond (Nat.ble k.length d) (Run C k env h) (match s, k with
    | true, .code (.cond c x y) :: k' => match ev env c with
      | .bool b => Run C (.code (.cond c x y) :: k') env h
      | _ => astep C (aexecS C s d n) (.code (.cond c x y) :: k') env h
    | _, k => astep C (aexecS C s d n) k env h)
theorem aexecS_ok {C : Ctx} {s : Bool} {d : Nat} : ∀ (n : Nat) {k : List Item} {env : Env} {h : Heap}, aexecS C s d n k env h → Run C k env h := by
  intro n
  induction n with
  | zero => intro k env h hx; exact hx
  | succ n ih =>
    intro k env h hx
    unfold aexecS at hx
    cases hb : Nat.ble k.length d with
    | true => rw [hb] at hx; exact hx
    | false =>
      rw [hb, cond_false] at hx
      split at hx
      · split at hx
        · exact hx
        · exact astep_ok (fun k env h => ih) _ env h hx
      · exact astep_ok (fun k env h => ih) _ env h hx
section
variable {C : Ctx} {k : List Item} {env : Env} {h : Heap}
theorem Run.goS (s : Bool) (d : Nat) (hx : aexecS C s d 400 k env h) : Run C k env h := aexecS_ok 400 hx
theorem Run.cond2 {c : Operand} {x y : Code} {b : Bool} (hc : ev env c = .bool b) (ht : b = true → Run C (.code x :: k) (toldE c env .tt) h) (hf : b = false → Run C (.code y :: k) (toldE c env .ff) h) : Run C (.code (.cond c x y) :: k) env h := by
  refine astep_ok (E := fun k env h => Run C k env h) (fun k env h hx => hx) _ _ _ ?_
  show (match ev env c with
    | .tt => Run C (.code x :: k) env h
    | .ff => Run C (.code y :: k) env h
    | .bool b => AskB b (Run C (.code x :: k) (toldE c env .tt) h) (Run C (.code y :: k) (toldE c env .ff) h)
    | _ => Run C (.code (.cond c x y) :: k) env h)
  rw [hc]
  exact ⟨ht, hf⟩
/-- The slots of 'ks' stay as they are, each looked at. -/
theorem Run.ifk {α : Type} {c : Operand} {x y : Code} {b : Bool} (ks : List Nat) (E : α → List (Nat × AV)) (H : α → List (Nat × MO)) (I : α → Prop) (hc : ev env c = .bool b)
    (hx : aforce env ks fun l => ((∀ a, I a → Run C k (lst (l ++ E a)) (lstH (H a))) → (b = true → Run C (.code x :: k) (toldE c env .tt) h) ∧ (b = false → Run C (.code y :: k) (toldE c env .ff) h)) ∧ (∀ a, I a → Run C k (lst (l ++ E a)) (lstH (H a)))) : Run C (.code (.cond c x y) :: k) env h := by
  obtain ⟨l, hl, hx⟩ := aforce_ok ks hx
  exact Run.cond2 hc (hx.1 hx.2).1 (hx.1 hx.2).2
end
/-! ### []byte(s): the call's own -/
theorem heap_drew {w : World} {o : Obj} {b : Nat} (h : b < w.heap.size) : (w.drew.alloc o).heap[b]? = w.heap[b]? := heap_alloc_old w.drew _ h
theorem Run.toBytesR {C : Ctx} {env : Env} {h : Heap} {o : Oper} {ops : Array Oper} {i : Nat} {rest : List Nat} {k : List Item} {src dst e d : TypeId} {x : Operand} (s : ByteArray) (ho : ops.toList[i]? = some o) (hc : o.op = .convert src dst x) (hdst' : o.dst = some d)
    (hd : okD C.N o.dst = true) (hr : ready env ops o = true) (hx : ev env x = .str s)
    (hsrc : C.P.underlying src = some .string) (hdst : C.P.underlying dst = some (.slice e)) (he : C.P.underlying e = some (.int .u8))
    (next : Run C (.inRegion ops rest :: k) (putE (scrubE d env) o.dst (.row d)) (upd (upd (scrubH d h) d .dead) d (.row e 1 s.size (bytesG s)))) : Run C (.inRegion ops (i :: rest) :: k) env h :=
  Run.opG (fun env' h' z => env' = scrubE d env ∧ h' = upd (upd (scrubH d h) d .dead) d (.row e 1 s.size (bytesG s)) ∧ z = .row d) ho hd hr (fun ι a w R => by
    have hv := ev_ok R x
    rw [hx] at hv
    obtain ⟨hv', hmax⟩ : a.eval x = .string s ∧ s.size ≤ maxLen := hv
    have hge := grownCap_ge w s.size 0 e
    have hmx := grownCap_le_maxLen w s.size 0 e hmax
    have hbl : Below C.B w (w.drew.alloc (.cells (bytesRow s (grownCap w s.size 0 e)) e ((bytesRow s (grownCap w s.size 0 e)).size, (bytesRow s (grownCap w s.size 0 e)).size + 1))) := (((Below.refl w.heap.size w).drew).alloc (Nat.le_refl _) _).mono R.below.size
    have hbs : (bytesRow s (grownCap w s.size 0 e)).size = grownCap w s.size 0 e := by
      unfold bytesRow
      have h9 : s.data.size = s.size := rfl
      simp only [Array.size_append, Array.size_map, Array.size_replicate]
      omega
    have R' := (R.make d d (.row e 1 s.size (bytesG s)) (.slice (some ⟨w.heap.size, 0, none⟩) s.size (grownCap w s.size 0 e)) _ hbl (fun b hb => heap_drew hb.1)
      (fun id _ _ hl g hg => heap_drew (R.base id hl g hg).2) rfl (fun g hg => by cases hg; exact ⟨R.below.size, by show _ < (w.heap.push _).size; simp⟩)
      (fun g hg hb => by cases hg; exact absurd hb.1 (Nat.lt_irrefl _)) (fun id _ _ hl g hg e => by cases e; exact absurd (R.base id hl _ hg).2 (Nat.lt_irrefl _))
      (fun ok r hok hS hr => by
        refine ⟨(bytesRow s (grownCap w s.size 0 e)).toList.take (s.size * 1), ⟨?_, .inr ⟨w.heap.size, grownCap w s.size 0 e, _, rfl, R.below.size, ⟨_, heap_alloc_new w.drew _, .inr (Nat.le_refl _)⟩, hge, hmx, by rw [hbs]; omega, rfl⟩⟩, ?_, ?_⟩
        · rw [List.length_take, Array.length_toList, hbs]; omega
        · intro u hu
          have hu := List.mem_of_mem_take hu
          unfold bytesRow at hu
          simp only [Array.toList_append, List.mem_append, Array.toList_map, List.mem_map, Array.toList_replicate, List.mem_replicate] at hu
          rcases hu with ⟨b, _, rfl⟩ | ⟨_, rfl⟩ <;> rfl
        · intro i j hi hj
          obtain rfl : j = 0 := by omega
          have hi' : i < s.data.size := hi
          refine ⟨.int .u8 (s.data[i].toNat : Int), ?_, ?_⟩
          · rw [List.getElem?_take_of_lt (by omega)]
            have := bytesRow_at s (grownCap w s.size 0 e) i hi'
            rw [← Array.getElem?_toList] at this
            simpa using this
          · show Value.int .u8 _ = .int .u8 (bt s i)
            unfold bt
            rw [List.getD, List.getElem?_eq_getElem (by simpa using hi')]; simp)).1
    refine ⟨.value (.slice (some ⟨w.heap.size, 0, none⟩) s.size (grownCap w s.size 0 e)), .slice (some ⟨w.heap.size, 0, none⟩) s.size (grownCap w s.size 0 e), _, _, _, _, .row d, ?_, .inl rfl, R', ?_, rfl, rfl, rfl⟩
    · rw [show (execOp a.eval o) = (do pure (.value (← convert src dst (a.eval x))) : Sem Next) by simp [execOp, hc]]
      rw [hv']
      simp [run_bytes_of_string w src dst e s hsrc hdst he]
    · show _ = upd ι d _ d 0
      rw [upd_same]) (fun env' h' y ⟨e1, e2, e3⟩ => by subst e1; subst e2; subst e3; exact next)
/-! ### small words on lists -/
theorem one0 {P : Nat → Prop} (h : P 0) : ∀ j, j < 1 → P j
  | 0, _ => h
  | j + 1, hj => absurd hj (by omega)
theorem drop_at {α : Type} (l : List α) (j : Nat) (z : α) (h : j < l.length) : l.drop j = l.getD j z :: l.drop (j + 1) := by
  rw [List.drop_eq_getElem_cons h, List.getD, List.getElem?_eq_getElem h]; rfl
theorem take_at {α : Type} (l : List α) (j : Nat) (z : α) (h : j < l.length) : l.take (j + 1) = l.take j ++ [l.getD j z] := by
  rw [List.take_succ_eq_append_getElem h, List.getD, List.getElem?_eq_getElem h]; rfl
theorem set_same {α : Type} (l : List α) (i : Nat) (z : α) : l.set i (l.getD i z) = l := by
  refine List.ext_getElem (by simp) fun j h1 h2 => ?_
  rw [List.getElem_set]
  by_cases e : i = j
  · subst e; rw [if_pos rfl, List.getD, List.getElem?_eq_getElem h2]; rfl
  · rw [if_neg e]
theorem getD_mem' {α : Type} {l : List α} {z : α} (i : Nat) (h : i < l.length) : l.getD i z ∈ l := by
  rw [List.getD, List.getElem?_eq_getElem h]; exact List.getElem_mem h
end Go.Proofs.YteklnpgiloebcaaGreatDoor.V

namespace Go.Proofs.YteklnpgiloebcaaGreatDoor.V
set_option linter.unusedVariables false
set_option linter.unusedSimpArgs false
open Go Go.RowKit
def scrT (id q : Nat) (x : AV) : AV := scrubI id (scrub q x)
theorem scrT_scr (id q : Nat) : Scr (scrT id q) := by
  have h1 := scrub_scr q
  have h2 := scrubI_scr id
  refine ⟨fun n get => ?_, fun n get => ?_, fun x a b c => ?_⟩
  · unfold scrT; rw [h1.agg, h2.agg]
  · unfold scrT; rw [h1.tup, h2.tup]
  · unfold scrT; rw [h1.plain x a b c, h2.plain x a b c]
section
variable {C : Ctx} {env : Env} {h : Heap} {ι : Loc} {a : Act} {w : World}
/-- An inner row gets a name of its own. -/
theorem Rel.takeM (R : Rel C env h ι a w) (id i q : Nat) {e sz n o ei szi : Nat} {get0 : Nat → Nat → AV} {len : Nat → Nat} {get : Nat → Nat → Nat → AV} (hh : h id = .mat e sz n get0 o ei szi len get none) (hi : i < n) (hne : id ≠ q) :
    Rel C (fun k => scrT id q (env k)) (upd (upd (fun k => scrM (scrT id q) (h k)) id (.mat e sz n get0 o ei szi len get (some i))) q (.row ei szi (len i) (get i))) (upd ι q (fun _ => ι id (i + 1))) a w := by
  have hlive : h id ≠ .dead := by rw [hh]; simp
  have hoM := R.obj id
  rw [hh] at hoM
  obtain ⟨ho, ⟨xs, hxs, hx1, hc0, hinn⟩, hrows, hap⟩ := hoM
  have hqid : q ≠ id := fun e => hne e.symm
  let h' : Heap := upd (upd (fun k => scrM (scrT id q) (h k)) id (.mat e sz n get0 o ei szi len get (some i))) q (.row ei szi (len i) (get i))
  let ι' : Loc := upd ι q (fun _ => ι id (i + 1))
  have hq' : h' q = .row ei szi (len i) (get i) := upd_same _ _ _
  have hid' : h' id = .mat e sz n get0 o ei szi len get (some i) := by show upd _ q _ id = _; rw [upd_other _ _ hne, upd_same]
  have hot' : ∀ k, k ≠ q → k ≠ id → h' k = scrM (scrT id q) (h k) := fun k h1 h2 => by show upd _ q _ k = _; rw [upd_other _ _ h1, upd_other _ _ h2]
  have hιq : ι' q = fun _ => ι id (i + 1) := upd_same _ _ _
  have hιo : ∀ k, k ≠ q → ι' k = ι k := fun k h1 => upd_other _ _ h1
  have hsubq : ∀ g, owns (h' q) (ι' q) g → owns (h id) (ι id) g := fun g hg => by
    rw [hq', hιq] at hg
    rw [hh]; exact .inr ⟨i, hi, by simp, hg⟩
  have hsubid : ∀ g, owns (h' id) (ι' id) g → owns (h id) (ι id) g := fun g hg => by
    rw [hid', hιo id hne] at hg
    rw [hh]
    rcases hg with hg | ⟨k, hk, _, hg⟩
    · exact .inl hg
    · exact .inr ⟨k, hk, by simp, hg⟩
  have hdead : ∀ k, k ≠ q → k ≠ id → (h' k ≠ .dead ↔ h k ≠ .dead) := fun k h1 h2 => by rw [hot' k h1 h2, Ne, scrM_dead]
  have hown : ∀ k, k ≠ q → k ≠ id → ∀ g, owns (h' k) (ι' k) g ↔ owns (h k) (ι k) g := fun k h1 h2 g => by rw [hot' k h1 h2, hιo k h1, owns_scrM]
  have hok : ∀ b, okB C h ι w b → okB C h' ι' w b := fun b hb => ⟨hb.1, hb.2.1, fun k hl hg => by
    by_cases e1 : k = q
    · subst e1; exact hb.2.2 id hlive (hsubq b hg)
    · by_cases e2 : k = id
      · subst e2; exact hb.2.2 k hlive (hsubid b hg)
      · exact hb.2.2 k ((hdead k e1 e2).mp hl) ((hown k e1 e2 b).mp hg)⟩
  have hσ : ∀ x v, rf h ι x v → VR w (okB C h' ι' w) (scrT id q x) (rf h' ι') v := by
    intro x v hr
    have hm : ∀ k, k ≠ id → h' k = .dead ∨ k = q ∨ h' k = scrM (scrT id q) (h k) := fun k h2 => by
      by_cases h1 : k = q
      · exact .inr (.inl h1)
      · exact .inr (.inr (hot' k h1 h2))
    cases x with
    | row k =>
      by_cases e1 : k = q
      · subst e1; simp [scrT, scrub, scrubI, VR]
      · simp only [scrT, scrub, beq_ne e1, cond_false, scrubI, VR]
        exact (show v = ι k 0 from hr).trans (by rw [hιo k e1])
    | obj k =>
      by_cases e1 : k = q
      · subst e1; simp [scrT, scrub, scrubI, VR]
      · simp only [scrT, scrub, beq_ne e1, cond_false, scrubI, VR]
        exact (show v = ι k 0 from hr).trans (by rw [hιo k e1])
    | box k off =>
      by_cases e1 : k = q
      · subst e1; simp [scrT, scrub, scrubI, VR]
      · simp only [scrT, scrub, beq_ne e1, cond_false, scrubI, VR]
        obtain ⟨g, h1, h2⟩ := hr
        exact ⟨g, by rw [hιo k e1]; exact h1, h2⟩
    | radr k s i' j' =>
      by_cases e1 : k = q
      · subst e1; simp [scrT, scrub, scrubI, VR]
      · simp only [scrT, scrub, beq_ne e1, cond_false, scrubI, VR]
        obtain ⟨g, n', c, h1, h2, h3⟩ := hr
        refine ⟨g, n', c, by rw [hιo k e1]; exact h1, h2, ?_⟩
        by_cases e2 : k = id
        · subst e2; rw [hid']; rw [hh] at h3; exact h3
        · rw [hot' k e1 e2]
          cases hq2 : h k <;> rw [hq2] at h3 <;> first | trivial | exact h3
    | mrow k i' =>
      by_cases e1 : k = q
      · subst e1; simp [scrT, scrub, scrubI, VR]
      · by_cases e2 : k = id
        · subst e2; simp [scrT, scrub, beq_ne e1, scrubI, VR]
        · simp only [scrT, scrub, beq_ne e1, cond_false, scrubI, beq_ne e2, VR]
          refine ⟨hr.1.trans (by rw [hιo k e1]), ?_⟩
          have h3 := hr.2
          rw [hot' k e1 e2]
          cases hq2 : h k <;> rw [hq2] at h3 <;> first | trivial | exact h3
    | madr k i' s a' b' =>
      by_cases e1 : k = q
      · subst e1; simp [scrT, scrub, scrubI, VR]
      · by_cases e2 : k = id
        · subst e2; simp [scrT, scrub, beq_ne e1, scrubI, VR]
        · simp only [scrT, scrub, beq_ne e1, cond_false, scrubI, beq_ne e2, VR]
          obtain ⟨g, n', c, h1, h2, h3⟩ := hr
          refine ⟨g, n', c, by rw [hιo k e1]; exact h1, h2, ?_⟩
          rw [hot' k e1 e2]
          cases hq2 : h k <;> rw [hq2] at h3 <;> first | trivial | exact h3
    | _ => exact absurd hr (by simp [rf])
  obtain ⟨hout, ys, hys, hy1, hyc⟩ := hrows i hi (by simp)
  constructor
  · exact R.below
  · exact R.defers
  · exact R.size
  · exact fun k => VR.scr (scrT_scr id q) hσ hok (fun _ _ => rfl) _ _ (R.env k)
  · intro k
    show MR C.B w (okB C h' ι' w) (rf h' ι') (h' k) (ι' k)
    by_cases e1 : k = q
    · subst e1
      rw [hq', hιq]
      refine ⟨ys, hys, hy1, fun a2 b2 ha2 hb2 => ?_⟩
      obtain ⟨u, u1, u3⟩ := hyc a2 b2 ha2 hb2
      exact ⟨u, u1, VR.mono hok (fun _ _ => rfl) _ _ _ _ (fun _ _ h => h) u3⟩
    · by_cases e2 : k = id
      · subst e2
        rw [hid', hιo k e1]
        refine ⟨ho, ⟨xs, hxs, hx1, fun i2 j2 hi2 hj2 hne2 => ?_, fun i2 hi2 _ => hinn i2 hi2 (by simp)⟩, fun i2 hi2 _ => ?_, fun i2 i3 hi2 hi3 hne2 _ _ => hap i2 i3 hi2 hi3 hne2 (by simp) (by simp)⟩
        · obtain ⟨cv, c1, c3⟩ := hc0 i2 j2 hi2 hj2 hne2
          exact ⟨cv, c1, VR.mono hok (fun _ _ => rfl) _ _ _ _ (fun _ _ h => h) c3⟩
        · obtain ⟨hout2, ys2, hy2, hy21, hyc2⟩ := hrows i2 hi2 (by simp)
          refine ⟨hout2, ys2, hy2, hy21, fun a2 b2 ha2 hb2 => ?_⟩
          obtain ⟨u, u1, u3⟩ := hyc2 a2 b2 ha2 hb2
          exact ⟨u, u1, VR.mono hok (fun _ _ => rfl) _ _ _ _ (fun _ _ h => h) u3⟩
      · rw [hot' k e1 e2, hιo k e1]
        exact MR.scr (scrT_scr id q) hσ hok (fun _ _ => rfl) (fun _ _ => rfl) (R.obj k)
  · intro k j
    show (ι' k j).oneCell' = true
    by_cases e1 : k = q
    · subst e1; rw [hιq]; exact R.one id (i + 1)
    · rw [hιo k e1]; exact R.one k j
  · intro k hl g hg
    by_cases e1 : k = q
    · subst e1; exact R.base id hlive g (hsubq g hg)
    · by_cases e2 : k = id
      · subst e2; exact R.base k hlive g (hsubid g hg)
      · exact R.base k ((hdead k e1 e2).mp hl) g ((hown k e1 e2 g).mp hg)
  · have hqid2 : ∀ g, owns (h' q) (ι' q) g → ¬ owns (h' id) (ι' id) g := fun g hg hg2 => by
      rw [hq', hιq] at hg
      rw [hid', hιo id hne] at hg2
      rcases hg2 with hg2 | ⟨k, hk, hk2, hg2⟩
      · exact hout g hg2 hg
      · exact hap i k hi hk (fun e => hk2 (by rw [e])) (by simp) (by simp) g hg hg2
    intro k k' hl hl' hkk g hg hg'
    by_cases e1 : k = q
    · subst e1
      by_cases f2 : k' = id
      · subst f2; exact hqid2 g hg hg'
      · have f1 : k' ≠ k := fun e => hkk e.symm
        exact R.apart id k' hlive ((hdead k' f1 f2).mp hl') (fun e => f2 e.symm) g (hsubq g hg) ((hown k' f1 f2 g).mp hg')
    · by_cases e2 : k = id
      · subst e2
        by_cases f1 : k' = q
        · subst f1; exact hqid2 g hg' hg
        · have f2 : k' ≠ k := fun e => hkk e.symm
          exact R.apart k k' hlive ((hdead k' f1 f2).mp hl') hkk g (hsubid g hg) ((hown k' f1 f2 g).mp hg')
      · have hg0 := (hown k e1 e2 g).mp hg
        have hl0 := (hdead k e1 e2).mp hl
        by_cases f1 : k' = q
        · subst f1; exact R.apart k id hl0 hlive e2 g hg0 (hsubq g hg')
        · by_cases f2 : k' = id
          · subst f2; exact R.apart k k' hl0 hlive e2 g hg0 (hsubid g hg')
          · exact R.apart k k' hl0 ((hdead k' f1 f2).mp hl') hkk g hg0 ((hown k' f1 f2 g).mp hg')

/-- The inner row that slot 's' holds gets the name 'q'. -/
theorem Run.takeM {k : List Item} (s q : Nat) {id i e sz n o ei szi : Nat} {get0 : Nat → Nat → AV} {len : Nat → Nat} {get : Nat → Nat → Nat → AV} (hs : env s = .mrow id i) (hh : h id = .mat e sz n get0 o ei szi len get none) (hne : Nat.beq id q = false)
    (hr : Run C k (upd (fun k => scrT id q (env k)) s (.row q)) (upd (upd (fun k => scrM (scrT id q) (h k)) id (.mat e sz n get0 o ei szi len get (some i))) q (.row ei szi (len i) (get i)))) : Run C k env h :=
  ⟨fun ι a w b cs hb hkd R => by
    have hv := R.env s
    rw [hs] at hv
    obtain ⟨hv1, hv2⟩ := hv
    rw [hh] at hv2
    have R' := R.takeM id i q hh hv2.1 (fun e => by subst e; rw [Nat.beq_refl] at hne; cases hne)
    refine hr.run _ a w b cs hb hkd (R'.env_ (fun k => ?_))
    by_cases hk : k = s
    · subst hk
      rw [upd_same]
      show _ = upd ι q (fun _ => ι id (i + 1)) q 0
      rw [upd_same]; exact hv1
    · rw [upd_other _ _ hk]; exact R'.env k⟩

/-- Behind an append to nested rows: one struct more, its inner slice nil. -/
theorem Rel.appendM (R : Rel C env h ι a w) (d id : Nat) {e sz n o ei szi : Nat} {get0 get2 : Nat → Nat → AV} {len : Nat → Nat} {get : Nat → Nat → Nat → AV} (hh : h id = .mat e sz n get0 o ei szi len get none) {v' : Value} {w' : World} {news : List Value}
    (xs : List Value) (hxs : ownsX w C.B e sz (ι id 0) n xs) (hx1 : ∀ u ∈ xs, u.oneCell' = true) (hc0 : ∀ i j, i < n → j < sz → j ≠ o → ∃ cv, xs[i * sz + j]? = some cv ∧ VR w (okB C h ι w) (get0 i j) noref cv) (hinn : ∀ i, i < n → xs[i * sz + o]? = some (ι id (i + 1)))
    (hown' : ownsX w' C.B e sz v' (n + 1) (xs ++ news)) (hg : w.grownBy w' (ι id 0).ownBlock) (hblk : blk v' = blk (ι id 0) ∨ (∀ g, blk v' = some g → w.heap.size ≤ g))
    (hn1 : ∀ u ∈ news, u.oneCell' = true) (hnc : ∀ j, j < sz → ∃ cv, news[j]? = some cv ∧ VR w (okB C h ι w) (get2 0 j) noref cv) (hnil : get2 0 o = .nils) :
    Rel C (scrubE d env) (upd (upd (scrubH d h) id .dead) d (.mat e sz (n + 1) (joinRow n get0 get2) o ei szi (fun i => if i < n then len i else 0) (fun i => if i < n then get i else fun _ _ => .u) none)) (upd ι d (fun k => if k = 0 then v' else if k = n + 1 then .slice none 0 0 else ι id k)) a w' := by
  have hlive : h id ≠ .dead := by rw [hh]; simp
  have hoM := R.obj id
  rw [hh] at hoM
  obtain ⟨ho, -, hrows, hap⟩ := hoM
  let f0 : Nat → Value := fun k => if k = 0 then v' else if k = n + 1 then .slice none 0 0 else ι id k
  have f00 : f0 0 = v' := rfl
  have f0n : f0 (n + 1) = .slice none 0 0 := by show (if n + 1 = 0 then _ else if n + 1 = n + 1 then _ else _) = _; rw [if_neg (by omega), if_pos rfl]
  have f0i : ∀ i, i < n → f0 (i + 1) = ι id (i + 1) := fun i hi => by show (if i + 1 = 0 then _ else if i + 1 = n + 1 then _ else _) = _; rw [if_neg (by omega), if_neg (by omega)]
  have hbo : ∀ g, blk (ι id 0) = some g ↔ (ι id 0).ownBlock = some g := fun g => by
    rcases hxs.2 with ⟨e0, _⟩ | ⟨g', cap, cur, e0, _⟩
    · rw [e0]; simp [blk, Value.ownBlock]
    · rw [e0]; simp [blk, Value.ownBlock]
  have hsame : ∀ b, b < w.heap.size → blk (ι id 0) ≠ some b → w'.heap[b]? = w.heap[b]? := fun b hb hne => hg.block b hb (fun e => hne ((hbo b).mpr e.symm))
  have hown0 : ∀ g, blk (ι id 0) = some g → owns (h id) (ι id) g := fun g hg => owns_zero hg
  have hownI : ∀ i, i < n → ∀ g, blk (ι id (i + 1)) = some g → owns (h id) (ι id) g := fun i hi g hg => by rw [hh]; exact .inr ⟨i, hi, by simp, hg⟩
  have hbel : Below C.B w w' := ⟨hg.os, hg.tape, hg.output, hg.size, fun k hk => hsame k (Nat.lt_of_lt_of_le hk R.below.size) (fun e => by have := R.base id hlive k (hown0 k e); omega)⟩
  have hlt' : ∀ g, blk v' = some g → C.B ≤ g ∧ g < w'.heap.size := fun g hgb => by
    have hb : v'.ownBlock = some g := by
      rcases hown'.2 with ⟨rfl, _⟩ | ⟨g', cap, cur, rfl, _⟩
      · cases hgb
      · exact hgb
    exact hown'.lt g hb
  have hwok : ∀ b, okB C h ι w b → w'.heap[b]? = w.heap[b]? := fun b hb => hsame b hb.1 (fun e => hb.2.2 id hlive (hown0 b e))
  have hcase : ∀ g, owns (.mat e sz (n + 1) (joinRow n get0 get2) o ei szi (fun i => if i < n then len i else 0) (fun i => if i < n then get i else fun _ _ => .u) none) f0 g → (blk v' = some g) ∨ ∃ i, i < n ∧ blk (ι id (i + 1)) = some g := fun g hgo => by
    rcases hgo with hgo | ⟨i, hi, _, hgo⟩
    · exact .inl hgo
    · by_cases e1 : i < n
      · rw [f0i i e1] at hgo; exact .inr ⟨i, e1, hgo⟩
      · have : i = n := by omega
        subst this
        rw [f0n] at hgo; cases hgo
  refine (R.makeG d id _ f0 w' hbel hwok ?_ ?_ ?_ ?_ ?_ ?_).1
  · intro k hd hz hl g hgo
    exact hsame g (R.base k hl g hgo).2 (fun e' => R.apart k id hl hlive hz g hgo (hown0 g e'))
  · intro k
    show (if k = 0 then v' else if k = n + 1 then _ else ι id k).oneCell' = true
    split
    · exact ownsRow_one hown'
    · split
      · rfl
      · exact R.one id k
  · intro g hgo
    rcases hcase g hgo with hgo | ⟨i, hi, hgo⟩
    · exact hlt' g hgo
    · have := R.base id hlive g (hownI i hi g hgo)
      exact ⟨this.1, Nat.lt_of_lt_of_le this.2 hg.size⟩
  · intro g hgo hok
    rcases hcase g hgo with hgo | ⟨i, hi, hgo⟩
    · rcases hblk with e' | e'
      · exact hok.2.2 id hlive (hown0 g (e' ▸ hgo))
      · have := e' g hgo; exact absurd hok.1 (by omega)
    · exact hok.2.2 id hlive (hownI i hi g hgo)
  · intro k hd hz hl g hgk hgo
    rcases hcase g hgo with hgo | ⟨i, hi, hgo⟩
    · rcases hblk with e' | e'
      · exact R.apart k id hl hlive hz g hgk (hown0 g (e' ▸ hgo))
      · have h1 := e' g hgo
        have h2 := (R.base k hl g hgk).2
        omega
    · exact R.apart k id hl hlive hz g hgk (hownI i hi g hgo)
  · intro ok r hok hS hr
    have hxl : xs.length = n * sz := hxs.1
    refine ⟨ho, ⟨xs ++ news, hown', fun u hu => ?_, fun i j hi hj hne => ?_, fun i hi _ => ?_⟩, fun i hi _ => ?_, fun i i' hi hi' hne _ _ g hgi => ?_⟩
    · rcases List.mem_append.mp hu with h' | h'
      · exact hx1 u h'
      · exact hn1 u h'
    · unfold joinRow
      by_cases hin : i < n
      · rw [if_pos hin, List.getElem?_append_left (by rw [hxl]; exact mul_lt_row hin hj)]
        obtain ⟨cv, c1, c3⟩ := hc0 i j hin hj hne
        exact ⟨cv, c1, VR.mono hok hwok _ _ _ _ (fun _ _ h => h) c3⟩
      · have : i = n := by omega
        subst this
        rw [if_neg hin, List.getElem?_append_right (by rw [hxl]; omega), hxl]
        obtain ⟨cv, c1, c3⟩ := hnc j hj
        refine ⟨cv, ?_, ?_⟩
        · rw [← c1]; congr 1; omega
        · rw [Nat.sub_self]
          exact VR.mono hok hwok _ _ _ _ (fun _ _ h => h) c3
    · by_cases hin : i < n
      · rw [f0i i hin, List.getElem?_append_left (by rw [hxl]; exact mul_lt_row hin ho)]
        exact hinn i hin
      · have : i = n := by omega
        subst this
        rw [f0n, List.getElem?_append_right (by rw [hxl]; omega), hxl]
        obtain ⟨cv, c1, c3⟩ := hnc o ho
        rw [hnil] at c3
        have c3' : cv = .slice none 0 0 := c3
        rw [← c3', ← c1]; congr 1; omega
    · by_cases hin : i < n
      · rw [f0i i hin, f00]
        obtain ⟨hout, ys, hys, hy1, hyc⟩ := hrows i hin (by simp)
        refine ⟨fun g hg1 hg2 => ?_, ys, ?_, hy1, fun a2 b2 ha2 hb2 => ?_⟩
        · rcases hblk with e' | e'
          · exact hout g (e' ▸ hg1) hg2
          · have h1 := e' g hg1
            have h2 := (R.base id hlive g (hownI i hin g hg2)).2
            omega
        · dsimp only
          rw [if_pos hin]
          exact ownsRow_keep hys (fun g hg2 => hsame g (R.base id hlive g (hownI i hin g hg2)).2 (fun e' => hout g e' hg2))
        · dsimp only at ha2 ⊢
          rw [if_pos hin] at ha2 ⊢
          obtain ⟨u, u1, u3⟩ := hyc a2 b2 ha2 hb2
          exact ⟨u, u1, VR.mono hok hwok _ _ _ _ (fun _ _ h => h) u3⟩
      · have : i = n := by omega
        subst this
        rw [f0n]
        refine ⟨fun g _ hg2 => (by cases hg2), [], ?_, (by simp), fun a2 b2 ha2 => ?_⟩
        · dsimp only; rw [if_neg hin]; exact ownsX_nil w' C.B ei szi
        · dsimp only at ha2; rw [if_neg hin] at ha2; exact absurd ha2 (Nat.not_lt_zero _)
    · by_cases hin : i < n
      · rw [f0i i hin] at hgi
        by_cases hin' : i' < n
        · rw [f0i i' hin']
          exact hap i i' hin hin' hne (by simp) (by simp) g hgi
        · have : i' = n := by omega
          subst this
          rw [f0n]; simp [blk]
      · have : i = n := by omega
        subst this
        rw [f0n] at hgi; cases hgi
theorem Run.appendM {k : List Item} {ops : Array Oper} {i : Nat} {rest : List Nat} {o : Oper} {cl : Call} {t t2 d : Nat} {s x : Operand} {id z e sz n om ei szi : Nat} {get0 get2 : Nat → Nat → AV} {len : Nat → Nat} {get : Nat → Nat → Nat → AV} (ho : ops.toList[i]? = some o) (hc : o.op = .call cl) (hcb : cl.callee = .builtin .append) (hca : cl.args.toList = [s, x]) (hct : cl.argTypes.toList = [t, t2])
    (htt : t2 = t) (hdst : o.dst = some d) (hd : okD C.N o.dst = true) (hr : ready env ops o = true) (hs : ev env s = .row id) (hx : ev env x = .row z) (hh : h id = .mat e sz n get0 om ei szi len get none) (hz : h z = .row e sz 1 get2) (hnil : get2 0 om = .nils)
    (hu : C.T.underlying t = some (.slice e)) (hsz : sz = C.T.cellsOf e) (hsz0 : 0 < sz) (hb0 : 0 < C.T.bytesOf e) (hzl : ∃ zl, C.T.zero e = some zl ∧ zl.length = sz) (hby : (n + 1) * C.T.bytesOf e ≤ 140737488355328)
    (next : Run C (.inRegion ops rest :: k) (putE (scrubE d env) o.dst (.row d)) (upd (upd (scrubH d h) id .dead) d (.mat e sz (n + 1) (joinRow n get0 get2) om ei szi (fun i => if i < n then len i else 0) (fun i => if i < n then get i else fun _ _ => .u) none))) : Run C (.inRegion ops (i :: rest) :: k) env h :=
  Run.opG (fun env' h' y => env' = scrubE d env ∧ h' = upd (upd (scrubH d h) id .dead) d (.mat e sz (n + 1) (joinRow n get0 get2) om ei szi (fun i => if i < n then len i else 0) (fun i => if i < n then get i else fun _ _ => .u) none) ∧ y = .row d) ho hd hr (fun ι a w R => by
    subst htt
    have hca' := toList_two hca
    have hct' := toList_two hct
    have hv := ev_ok R s
    rw [hs] at hv
    have hv' : a.eval s = ι id 0 := hv
    have hxv := ev_ok R x
    rw [hx] at hxv
    have hoM := R.obj id
    rw [hh] at hoM
    obtain ⟨ho', ⟨xs, hxs, hx1, hc0, hinn⟩, hrows, hap⟩ := hoM
    obtain ⟨zl, hzl1, hzl2⟩ := hzl
    obtain ⟨inf, zv, hi, hzz, hzs, _⟩ := zeroL_ok (C.zeroes hzl1).1
    have hsz2 : inf.size = sz := by rw [hsz, ← (C.zeroes hzl1).2.1]; simp [Program.cellsOf, hi]
    have hbyt : inf.bytes = C.T.bytesOf e := by rw [← (C.zeroes hzl1).2.2]; simp [Program.bytesOf, hi]
    have hsrc : srcOf h (.row z) = some (1, sz, get2) := by simp only [srcOf]; rw [hz]
    obtain ⟨A, c, hxv2, hmc, hA, news, hnl, hn1, hncell, hnc⟩ := src_ok R hsrc hxv
    have hle : n + 1 ≤ 140737488355328 := Nat.le_trans (Nat.le_mul_of_pos_right _ hb0) hby
    cases A with
    | none => have := (hA rfl).2; omega
    | some ad =>
      obtain ⟨v', w', h1, h2, h3⟩ := run_append_ownX (P := C.P) w C.B t2 o.type e inf zv sz (C.T.bytesOf e) (C.und hu) hi hzz hsz2 hbyt (by rw [hzs, hzl2]) hsz0 (ι id 0) n xs hxs ad 1 c news hnl (hncell ad rfl) hn1 (by simp only [maxLen]; omega) hby R.below.size
      have hblk := append_block (C.und hu) hi hzz hsz2 hxs hnl (hncell ad rfl) hn1 hle (by rw [hbyt]; exact hby) h1
      have R' := R.appendM d id hh xs hxs hx1 hc0 (fun i hi => hinn i hi (by simp)) h2 h3 hblk hn1 (fun j hj => by have := hnc 0 j (by omega) hj; simpa using this) hnil
      refine ⟨.value v', v', w', _, _, _, .row d, ?_, .inl rfl, R', ?_, rfl, rfl, rfl⟩
      · simp only [execOp, hc, resolve, hcb, hca', hct', invoke, builtin, Act.eval]
        simp only [hv', hxv2, List.map_toArray, List.map_cons, List.map_nil, Sem.run_bind, h1]
        simp [hv', hxv2, h1]
      · show v' = upd ι d _ d 0
        rw [upd_same]; rfl) (fun env' h' y ⟨e1, e2, e3⟩ => by subst e1; subst e2; subst e3; exact next)
/-- Nested rows under a name of their own. -/
theorem Run.holdM {k : List Item} (s q : Nat) {z e sz n o ei szi : Nat} {get0 : Nat → Nat → AV} {len : Nat → Nat} {get : Nat → Nat → Nat → AV} {hole : Option Nat} (hs : env s = .row z) (hz : h z = .mat e sz n get0 o ei szi len get hole) (hne : Nat.beq z q = false)
    (hr : Run C k (upd (scrubE q env) s (.row q)) (upd (upd (scrubH q h) z .dead) q (.mat e sz n get0 o ei szi len get hole))) : Run C k env h :=
  ⟨fun ι a w b cs hb hkd R => by
    have ho := R.obj z
    have hlz : h z ≠ .dead := by rw [hz]; simp
    have hzq : z ≠ q := fun e0 => by subst e0; rw [Nat.beq_refl] at hne; cases hne
    have R' := (R.makeG q z (.mat e sz n get0 o ei szi len get hole) (ι z) w (Below.refl _ _) (fun _ _ => rfl) (fun _ _ _ _ _ _ => rfl) (R.one z) (fun g hg => R.base z hlz g (by rw [hz]; exact hg))
      (fun g hg hok => hok.2.2 z hlz (by rw [hz]; exact hg)) (fun id _ hid hl g hg e' => R.apart id z hl hlz hid g hg (by rw [hz]; exact e'))
      (fun ok r hok hS hrr => by
        rw [hz] at ho
        obtain ⟨ho1, ⟨xs, hxs, hx1, hc0, hinn⟩, hrows, hap⟩ := ho
        refine ⟨ho1, ⟨xs, hxs, hx1, fun i j hi hj hne => ?_, hinn⟩, fun i hi hh => ?_, hap⟩
        · obtain ⟨cv, c1, c3⟩ := hc0 i j hi hj hne
          exact ⟨cv, c1, VR.mono hok (fun _ _ => rfl) _ _ _ _ (fun _ _ h => h) c3⟩
        · obtain ⟨h2, ys, hy, hy1, hyc⟩ := hrows i hi hh
          refine ⟨h2, ys, hy, hy1, fun a b ha hb' => ?_⟩
          obtain ⟨u, u1, u3⟩ := hyc a b ha hb'
          exact ⟨u, u1, VR.mono hok (fun _ _ => rfl) _ _ _ _ (fun _ _ h => h) u3⟩)).1
    refine hr.run (upd ι q (ι z)) a w b cs hb hkd (R'.env_ (fun i => ?_))
    by_cases hi : i = s
    · subst hi
      rw [upd_same]
      have hv := R.env i
      rw [hs] at hv
      show _ = upd ι q (ι z) q 0
      rw [upd_same]; exact hv
    · rw [upd_other _ _ hi]; exact R'.env i⟩
end
/-- A function with two answers, of which the first is an aggregate that lies in a cell. -/
theorem Run.leaveC2 {C : Ctx} {env : Env} {h : Heap} {k : List Item} {fn : Func} {t u1 : Nat} {ty : TypeId} {m : Nat} {get : Nat → AV} {y0 y1 : AV} (hk : k = [] ∨ ∃ k', k = .code .ret :: k') (hR : C.R = Post C.S C.w0 (tupL [y0, y1])) (hf : C.P.funcs[C.f]? = some fn) (hres : fn.results = #[.cell t ty, .tmp u1])
    (hp : placeAt h (env t) = some (m, get)) (hg : isAggT C.T ty = some true) (hm : C.T.cellsOf ty ≤ m) (hle : Le (fz h (.agg (C.T.cellsOf ty) get)) y0) (hle1 : Le (fz h (env u1)) y1) : Run C k env h := by
  refine ⟨fun ι a w b cs hb hkd R => ?_⟩
  obtain ⟨ad, had, hc⟩ := placeAt_ok R hp (R.env t)
  let v : Value := .agg ((List.range (C.T.cellsOf ty)).map fun j => (w.cell? (ad.add j)).getD undef).toArray
  have hv : VR w (okB C h ι w) (.agg (C.T.cellsOf ty) get) (rf h ι) v := by
    refine ⟨_, rfl, by simp, fun j hj => ?_⟩
    obtain ⟨cv, c1, c2, c3⟩ := hc j (by omega)
    exact ⟨cv, by simp [hj, c1], c2, c3⟩
  have hrun : (results fn a.tmps).run C.P w = .ok (.tuple #[v, a.tmps.getD u1 undef]) w := by
    have hl : (loadVar ty ad).run C.P w = .ok v w := run_loadVar_agg hg _ (fun j hj => by obtain ⟨cv, c1, _⟩ := hc j (by omega); rw [c1]; rfl)
    have hm2 : (resM a.tmps (.cell t ty)).run C.P w = .ok v w := by
      show (asAddr (a.tmps.getD t undef) >>= fun ad => loadVar ty ad).run C.P w = _
      rw [had]
      simp only [asAddr, Sem.run_bind, Sem.run_pure, Result.andThen_ok]
      exact hl
    rw [results_eq, hres]
    have : (#[ResultVar.cell t ty, .tmp u1].mapM (resM a.tmps)).run C.P w = .ok #[v, a.tmps.getD u1 undef] w := by
      rw [show (#[ResultVar.cell t ty, .tmp u1] : Array ResultVar) = [ResultVar.cell t ty, .tmp u1].toArray from rfl, List.mapM_toArray, Sem.run_map]
      have e1 : (resM a.tmps (.tmp u1)).run C.P w = .ok (a.tmps.getD u1 undef) w := rfl
      simp only [List.mapM_cons, List.mapM_nil, Sem.run_bind, Sem.run_pure, Result.andThen_ok, hm2, e1]
    rw [Sem.run_bind, this]
    rfl
  refine ⟨.returned _, w, { b.at a k with mode := .returning }, ?_, ?_, hb, rfl, R.defers, hkd, fn, by show C.P.funcs[b.fn]? = _; rw [hb]; exact hf, hrun⟩
  · rw [hR]
    refine ⟨_, rfl, R.below, ?_⟩
    have hfz : ∀ x v, VR w (okB C h ι w) x (rf h ι) v → VR w (fun b => (C.S b ∨ C.w0.heap.size ≤ b) ∧ b < w.heap.size) (fz h x) noref v := fun x v hx =>
      fz_ok R (fun b hb' => ⟨hb'.2.1, hb'.1⟩) (fun id hl g hg => by
        have := R.base id hl g hg
        exact ⟨.inr this.1, this.2⟩) x v hx
    refine ⟨_, rfl, rfl, fun j hj => ?_⟩
    match j, hj with
    | 0, _ => exact ⟨_, rfl, hle _ _ _ _ (hfz _ _ hv)⟩
    | 1, _ => exact ⟨_, rfl, hle1 _ _ _ _ (hfz _ _ (R.env u1))⟩
  · rcases hk with rfl | ⟨k', rfl⟩
    · exact Steps.one step_end
    · exact Steps.one step_ret
end Go.Proofs.YteklnpgiloebcaaGreatDoor.V


namespace Go.Proofs.YteklnpgiloebcaaGreatDoor.V
set_option linter.unusedVariables false
set_option linter.unusedSimpArgs false
open Go Go.Proofs Go.RowKit
set_option maxRecDepth 100000
set_option maxHeartbeats 1000000
open Go Go.Proofs Go.Proofs.YteklnpgiloebcaaGreatDoor.V
theorem bt_lt (s : ByteArray) (i : Nat) : 0 ≤ bt s i ∧ bt s i < 256 := by
  unfold bt
  have := UInt8.toNat_lt (s.data.toList.getD i 0)
  omega
theorem bt_get (s : ByteArray) (i : Nat) : (s.get! i).toNat = (bt s i).toNat := by
  have : s.data.toList.getD i 0 = s.get! i := by
    cases s with
    | mk d =>
      show d.toList.getD i 0 = d[i]!
      by_cases h : i < d.size
      · rw [getElem!_pos d i h]; simp [List.getD, h]
      · rw [getElem!_neg d i h]; simp [List.getD, h]; rfl
  unfold bt
  rw [this]; simp
theorem firstT_cases (b : Nat) : (240 ≤ firstT b ∧ (b < 194 ∨ 244 < b)) ∨ (firstT b = 2 ∧ 194 ≤ b ∧ b < 224) ∨ (firstT b = 19 ∧ b = 224) ∨ (firstT b = 3 ∧ ((225 ≤ b ∧ b < 237) ∨ (238 ≤ b ∧ b < 240))) ∨ (firstT b = 35 ∧ b = 237) ∨ (firstT b = 52 ∧ b = 240) ∨ (firstT b = 4 ∧ 241 ≤ b ∧ b < 244) ∨ (firstT b = 68 ∧ b = 244) := by
  unfold firstT
  repeat' split
  all_goals omega
theorem dec_bt (s : ByteArray) : Utf8.decode s 0 = Lib.decodeN s.size (bt s (Int.toNat 0)).toNat (bt s (Int.toNat 1)).toNat (bt s (Int.toNat 2)).toNat (bt s (Int.toNat 3)).toNat := by
  rw [Lib.decode_at, bt_get, bt_get, bt_get, bt_get]; rfl
theorem dec_low (n b0 b1 b2 b3 : Nat) (hb : b0 < 194 ∨ 244 < b0) (h256 : b0 < 256) : (Lib.decodeN n b0 b1 b2 b3).2 = 1 := by
  unfold Lib.decodeN
  repeat' split
  all_goals first | rfl | (exfalso; omega)
theorem slow_fn (s : ByteArray) (h : 0 < s.size) : Fn Tryz.prog 135 [.str s] (tupL [.u, .int .i64 (Utf8.decode s 0).2]) := by
  refine Fn.of Tryz.f135 _ Tryz.func135 rfl (by decide) (by show 1 ≤ _; decide) tbOk 117 rfl fun S w0 gl => ?_
  have h0 := bt_lt s (Int.toNat 0)
  have h1 := bt_lt s (Int.toNat 1)
  have h2 := bt_lt s (Int.toNat 2)
  have h3 := bt_lt s (Int.toNat 3)
  have hcl := firstT_cases (idx (bt s (Int.toNat 0)).toNat 1 0)
  refine Run.go ?_; (conv => whnf); repeat' (first | ((with_reducible refine Know.mk fun _ => ?_); conv => whnf) | ((with_reducible refine Need.mk ?_ ?_); exact nd; conv => whnf) | ((with_reducible first | refine Both.mk ?_ ?_ | refine Any.mk fun b hb => ?_ | refine AskB.dec (fun hb => ?_) (fun hb => ?_) | refine AskB.ndec (fun hb => ?_) (fun hb => ?_) | refine AskB.mk (fun hb => ?_) (fun hb => ?_)) <;> conv => whnf) | ((with_reducible first | refine Run.drawX rfl (by decide +kernel) ?_ | refine Run.drawT rfl (by decide +kernel) ?_ | refine Run.drawW rfl (by decide +kernel) ?_); conv => whnf) | fail)
  · omega
  · refine Run.leave (ts := [2,3]) (.inr ⟨_, rfl⟩) rfl Tryz.func135 rfl (resT ⟨Le.u _, Le.int ?_, trivial⟩)
    rw [dec_bt, dec_low _ _ _ _ _ (by
      have hc : (bt s (Int.toNat 0)).toNat < 194 ∨ 244 < (bt s (Int.toNat 0)).toNat := by
        rcases hcl with ⟨hx, hc⟩ | ⟨hx, _⟩ | ⟨hx, _⟩ | ⟨hx, _⟩ | ⟨hx, _⟩ | ⟨hx, _⟩ | ⟨hx, _⟩ | ⟨hx, _⟩
        · exact hc
        all_goals (exfalso; omega)
      exact hc) (by omega)]
    rfl
  rcases hcl with ⟨hx, hc⟩ | ⟨hx, hc⟩ | ⟨hx, hc⟩ | ⟨hx, hc⟩ | ⟨hx, hc⟩ | ⟨hx, hc⟩ | ⟨hx, hc⟩ | ⟨hx, hc⟩
  · omega
  · rw [hx]
    have hdec : (Utf8.decode s 0).2 = (Lib.slowN s.size (bt s (Int.toNat 0)).toNat (bt s (Int.toNat 1)).toNat (bt s (Int.toNat 2)).toNat (bt s (Int.toNat 3)).toNat 2 128 191).2 := by
      rw [dec_bt, Lib.slow_C2 s.size (bt s (Int.toNat 0)).toNat (bt s (Int.toNat 1)).toNat (bt s (Int.toNat 2)).toNat (bt s (Int.toNat 3)).toNat h (by omega) (by omega) (by omega) hc]
    have hz : IntKind.i64.wrap (IntKind.u8.wrap ↑(BitVec.ofInt IntKind.u8.bits 2 &&& BitVec.ofInt IntKind.u8.bits 7).toNat) = 2 := by decide
    have a1 : accT (idx (Int.fdiv 2 (2 ^ min (Int.toNat 4) IntKind.u8.bits)).toNat 2 0) = 128 := by decide
    have a2 : accT (idx (Int.fdiv 2 (2 ^ min (Int.toNat 4) IntKind.u8.bits)).toNat 2 1) = 191 := by decide
    repeat' (first | ((with_reducible refine Know.mk fun _ => ?_); conv => whnf) | ((with_reducible refine Need.mk ?_ ?_); exact nd; conv => whnf) | ((with_reducible first | refine Both.mk ?_ ?_ | refine Any.mk fun b hb => ?_ | refine AskB.dec (fun hb => ?_) (fun hb => ?_) | refine AskB.ndec (fun hb => ?_) (fun hb => ?_) | refine AskB.mk (fun hb => ?_) (fun hb => ?_)) <;> conv => whnf) | ((with_reducible first | refine Run.drawX rfl (by decide +kernel) ?_ | refine Run.drawT rfl (by decide +kernel) ?_ | refine Run.drawW rfl (by decide +kernel) ?_); conv => whnf) | fail)
    all_goals (refine Run.leave (ts := [2,3]) (.inr ⟨_, rfl⟩) rfl Tryz.func135 rfl (resT ⟨Le.u _, Le.int ?_, trivial⟩); rw [hdec]; (try simp only [hz, a1, a2] at *); unfold Lib.slowN; (repeat' split) <;> first | rfl | (exfalso; omega))
  · rw [hx]
    have hdec : (Utf8.decode s 0).2 = (Lib.slowN s.size (bt s (Int.toNat 0)).toNat (bt s (Int.toNat 1)).toNat (bt s (Int.toNat 2)).toNat (bt s (Int.toNat 3)).toNat 3 160 191).2 := by
      rw [dec_bt, Lib.slow_E0 s.size (bt s (Int.toNat 0)).toNat (bt s (Int.toNat 1)).toNat (bt s (Int.toNat 2)).toNat (bt s (Int.toNat 3)).toNat h (by omega) (by omega) (by omega) hc]
    have hz : IntKind.i64.wrap (IntKind.u8.wrap ↑(BitVec.ofInt IntKind.u8.bits 19 &&& BitVec.ofInt IntKind.u8.bits 7).toNat) = 3 := by decide
    have a1 : accT (idx (Int.fdiv 19 (2 ^ min (Int.toNat 4) IntKind.u8.bits)).toNat 2 0) = 160 := by decide
    have a2 : accT (idx (Int.fdiv 19 (2 ^ min (Int.toNat 4) IntKind.u8.bits)).toNat 2 1) = 191 := by decide
    repeat' (first | ((with_reducible refine Know.mk fun _ => ?_); conv => whnf) | ((with_reducible refine Need.mk ?_ ?_); exact nd; conv => whnf) | ((with_reducible first | refine Both.mk ?_ ?_ | refine Any.mk fun b hb => ?_ | refine AskB.dec (fun hb => ?_) (fun hb => ?_) | refine AskB.ndec (fun hb => ?_) (fun hb => ?_) | refine AskB.mk (fun hb => ?_) (fun hb => ?_)) <;> conv => whnf) | ((with_reducible first | refine Run.drawX rfl (by decide +kernel) ?_ | refine Run.drawT rfl (by decide +kernel) ?_ | refine Run.drawW rfl (by decide +kernel) ?_); conv => whnf) | fail)
    all_goals (refine Run.leave (ts := [2,3]) (.inr ⟨_, rfl⟩) rfl Tryz.func135 rfl (resT ⟨Le.u _, Le.int ?_, trivial⟩); rw [hdec]; (try simp only [hz, a1, a2] at *); unfold Lib.slowN; (repeat' split) <;> first | rfl | (exfalso; omega))
  · rw [hx]
    have hdec : (Utf8.decode s 0).2 = (Lib.slowN s.size (bt s (Int.toNat 0)).toNat (bt s (Int.toNat 1)).toNat (bt s (Int.toNat 2)).toNat (bt s (Int.toNat 3)).toNat 3 128 191).2 := by
      rw [dec_bt, Lib.slow_E1 s.size (bt s (Int.toNat 0)).toNat (bt s (Int.toNat 1)).toNat (bt s (Int.toNat 2)).toNat (bt s (Int.toNat 3)).toNat h (by omega) (by omega) (by omega) hc]
    have hz : IntKind.i64.wrap (IntKind.u8.wrap ↑(BitVec.ofInt IntKind.u8.bits 3 &&& BitVec.ofInt IntKind.u8.bits 7).toNat) = 3 := by decide
    have a1 : accT (idx (Int.fdiv 3 (2 ^ min (Int.toNat 4) IntKind.u8.bits)).toNat 2 0) = 128 := by decide
    have a2 : accT (idx (Int.fdiv 3 (2 ^ min (Int.toNat 4) IntKind.u8.bits)).toNat 2 1) = 191 := by decide
    repeat' (first | ((with_reducible refine Know.mk fun _ => ?_); conv => whnf) | ((with_reducible refine Need.mk ?_ ?_); exact nd; conv => whnf) | ((with_reducible first | refine Both.mk ?_ ?_ | refine Any.mk fun b hb => ?_ | refine AskB.dec (fun hb => ?_) (fun hb => ?_) | refine AskB.ndec (fun hb => ?_) (fun hb => ?_) | refine AskB.mk (fun hb => ?_) (fun hb => ?_)) <;> conv => whnf) | ((with_reducible first | refine Run.drawX rfl (by decide +kernel) ?_ | refine Run.drawT rfl (by decide +kernel) ?_ | refine Run.drawW rfl (by decide +kernel) ?_); conv => whnf) | fail)
    all_goals (refine Run.leave (ts := [2,3]) (.inr ⟨_, rfl⟩) rfl Tryz.func135 rfl (resT ⟨Le.u _, Le.int ?_, trivial⟩); rw [hdec]; (try simp only [hz, a1, a2] at *); unfold Lib.slowN; (repeat' split) <;> first | rfl | (exfalso; omega))
  · rw [hx]
    have hdec : (Utf8.decode s 0).2 = (Lib.slowN s.size (bt s (Int.toNat 0)).toNat (bt s (Int.toNat 1)).toNat (bt s (Int.toNat 2)).toNat (bt s (Int.toNat 3)).toNat 3 128 159).2 := by
      rw [dec_bt, Lib.slow_ED s.size (bt s (Int.toNat 0)).toNat (bt s (Int.toNat 1)).toNat (bt s (Int.toNat 2)).toNat (bt s (Int.toNat 3)).toNat h (by omega) (by omega) (by omega) hc]
    have hz : IntKind.i64.wrap (IntKind.u8.wrap ↑(BitVec.ofInt IntKind.u8.bits 35 &&& BitVec.ofInt IntKind.u8.bits 7).toNat) = 3 := by decide
    have a1 : accT (idx (Int.fdiv 35 (2 ^ min (Int.toNat 4) IntKind.u8.bits)).toNat 2 0) = 128 := by decide
    have a2 : accT (idx (Int.fdiv 35 (2 ^ min (Int.toNat 4) IntKind.u8.bits)).toNat 2 1) = 159 := by decide
    repeat' (first | ((with_reducible refine Know.mk fun _ => ?_); conv => whnf) | ((with_reducible refine Need.mk ?_ ?_); exact nd; conv => whnf) | ((with_reducible first | refine Both.mk ?_ ?_ | refine Any.mk fun b hb => ?_ | refine AskB.dec (fun hb => ?_) (fun hb => ?_) | refine AskB.ndec (fun hb => ?_) (fun hb => ?_) | refine AskB.mk (fun hb => ?_) (fun hb => ?_)) <;> conv => whnf) | ((with_reducible first | refine Run.drawX rfl (by decide +kernel) ?_ | refine Run.drawT rfl (by decide +kernel) ?_ | refine Run.drawW rfl (by decide +kernel) ?_); conv => whnf) | fail)
    all_goals (refine Run.leave (ts := [2,3]) (.inr ⟨_, rfl⟩) rfl Tryz.func135 rfl (resT ⟨Le.u _, Le.int ?_, trivial⟩); rw [hdec]; (try simp only [hz, a1, a2] at *); unfold Lib.slowN; (repeat' split) <;> first | rfl | (exfalso; omega))
  · rw [hx]
    have hdec : (Utf8.decode s 0).2 = (Lib.slowN s.size (bt s (Int.toNat 0)).toNat (bt s (Int.toNat 1)).toNat (bt s (Int.toNat 2)).toNat (bt s (Int.toNat 3)).toNat 4 144 191).2 := by
      rw [dec_bt, Lib.slow_F0 s.size (bt s (Int.toNat 0)).toNat (bt s (Int.toNat 1)).toNat (bt s (Int.toNat 2)).toNat (bt s (Int.toNat 3)).toNat h (by omega) (by omega) (by omega) hc]
    have hz : IntKind.i64.wrap (IntKind.u8.wrap ↑(BitVec.ofInt IntKind.u8.bits 52 &&& BitVec.ofInt IntKind.u8.bits 7).toNat) = 4 := by decide
    have a1 : accT (idx (Int.fdiv 52 (2 ^ min (Int.toNat 4) IntKind.u8.bits)).toNat 2 0) = 144 := by decide
    have a2 : accT (idx (Int.fdiv 52 (2 ^ min (Int.toNat 4) IntKind.u8.bits)).toNat 2 1) = 191 := by decide
    repeat' (first | ((with_reducible refine Know.mk fun _ => ?_); conv => whnf) | ((with_reducible refine Need.mk ?_ ?_); exact nd; conv => whnf) | ((with_reducible first | refine Both.mk ?_ ?_ | refine Any.mk fun b hb => ?_ | refine AskB.dec (fun hb => ?_) (fun hb => ?_) | refine AskB.ndec (fun hb => ?_) (fun hb => ?_) | refine AskB.mk (fun hb => ?_) (fun hb => ?_)) <;> conv => whnf) | ((with_reducible first | refine Run.drawX rfl (by decide +kernel) ?_ | refine Run.drawT rfl (by decide +kernel) ?_ | refine Run.drawW rfl (by decide +kernel) ?_); conv => whnf) | fail)
    all_goals (refine Run.leave (ts := [2,3]) (.inr ⟨_, rfl⟩) rfl Tryz.func135 rfl (resT ⟨Le.u _, Le.int ?_, trivial⟩); rw [hdec]; (try simp only [hz, a1, a2] at *); unfold Lib.slowN; (repeat' split) <;> first | rfl | (exfalso; omega))
  · rw [hx]
    have hdec : (Utf8.decode s 0).2 = (Lib.slowN s.size (bt s (Int.toNat 0)).toNat (bt s (Int.toNat 1)).toNat (bt s (Int.toNat 2)).toNat (bt s (Int.toNat 3)).toNat 4 128 191).2 := by
      rw [dec_bt, Lib.slow_F1 s.size (bt s (Int.toNat 0)).toNat (bt s (Int.toNat 1)).toNat (bt s (Int.toNat 2)).toNat (bt s (Int.toNat 3)).toNat h (by omega) (by omega) (by omega) hc]
    have hz : IntKind.i64.wrap (IntKind.u8.wrap ↑(BitVec.ofInt IntKind.u8.bits 4 &&& BitVec.ofInt IntKind.u8.bits 7).toNat) = 4 := by decide
    have a1 : accT (idx (Int.fdiv 4 (2 ^ min (Int.toNat 4) IntKind.u8.bits)).toNat 2 0) = 128 := by decide
    have a2 : accT (idx (Int.fdiv 4 (2 ^ min (Int.toNat 4) IntKind.u8.bits)).toNat 2 1) = 191 := by decide
    repeat' (first | ((with_reducible refine Know.mk fun _ => ?_); conv => whnf) | ((with_reducible refine Need.mk ?_ ?_); exact nd; conv => whnf) | ((with_reducible first | refine Both.mk ?_ ?_ | refine Any.mk fun b hb => ?_ | refine AskB.dec (fun hb => ?_) (fun hb => ?_) | refine AskB.ndec (fun hb => ?_) (fun hb => ?_) | refine AskB.mk (fun hb => ?_) (fun hb => ?_)) <;> conv => whnf) | ((with_reducible first | refine Run.drawX rfl (by decide +kernel) ?_ | refine Run.drawT rfl (by decide +kernel) ?_ | refine Run.drawW rfl (by decide +kernel) ?_); conv => whnf) | fail)
    all_goals (refine Run.leave (ts := [2,3]) (.inr ⟨_, rfl⟩) rfl Tryz.func135 rfl (resT ⟨Le.u _, Le.int ?_, trivial⟩); rw [hdec]; (try simp only [hz, a1, a2] at *); unfold Lib.slowN; (repeat' split) <;> first | rfl | (exfalso; omega))
  · rw [hx]
    have hdec : (Utf8.decode s 0).2 = (Lib.slowN s.size (bt s (Int.toNat 0)).toNat (bt s (Int.toNat 1)).toNat (bt s (Int.toNat 2)).toNat (bt s (Int.toNat 3)).toNat 4 128 143).2 := by
      rw [dec_bt, Lib.slow_F4 s.size (bt s (Int.toNat 0)).toNat (bt s (Int.toNat 1)).toNat (bt s (Int.toNat 2)).toNat (bt s (Int.toNat 3)).toNat h (by omega) (by omega) (by omega) hc]
    have hz : IntKind.i64.wrap (IntKind.u8.wrap ↑(BitVec.ofInt IntKind.u8.bits 68 &&& BitVec.ofInt IntKind.u8.bits 7).toNat) = 4 := by decide
    have a1 : accT (idx (Int.fdiv 68 (2 ^ min (Int.toNat 4) IntKind.u8.bits)).toNat 2 0) = 128 := by decide
    have a2 : accT (idx (Int.fdiv 68 (2 ^ min (Int.toNat 4) IntKind.u8.bits)).toNat 2 1) = 143 := by decide
    repeat' (first | ((with_reducible refine Know.mk fun _ => ?_); conv => whnf) | ((with_reducible refine Need.mk ?_ ?_); exact nd; conv => whnf) | ((with_reducible first | refine Both.mk ?_ ?_ | refine Any.mk fun b hb => ?_ | refine AskB.dec (fun hb => ?_) (fun hb => ?_) | refine AskB.ndec (fun hb => ?_) (fun hb => ?_) | refine AskB.mk (fun hb => ?_) (fun hb => ?_)) <;> conv => whnf) | ((with_reducible first | refine Run.drawX rfl (by decide +kernel) ?_ | refine Run.drawT rfl (by decide +kernel) ?_ | refine Run.drawW rfl (by decide +kernel) ?_); conv => whnf) | fail)
    all_goals (refine Run.leave (ts := [2,3]) (.inr ⟨_, rfl⟩) rfl Tryz.func135 rfl (resT ⟨Le.u _, Le.int ?_, trivial⟩); rw [hdec]; (try simp only [hz, a1, a2] at *); unfold Lib.slowN; (repeat' split) <;> first | rfl | (exfalso; omega))
end Go.Proofs.YteklnpgiloebcaaGreatDoor.V

namespace Go.Proofs.YteklnpgiloebcaaGreatDoor.V
set_option linter.unusedVariables false
set_option linter.unusedSimpArgs false
open Go
structure Cel where
  pos : Nat
  w : Nat
  r : Int
  bad : Bool
  byte : Int
def tCel : Ty Cel := ⟨5, fun c j => match j with | 0 => .int .i64 c.pos | 1 => .int .i64 c.w | 2 => .int .i32 c.r | 3 => .bool c.bad | _ => .int .u8 c.byte, ⟨0, 0, 0, false, 0⟩⟩
def cellAt (s : ByteArray) (p : Nat) : Cel := if (Utf8.decode s p).1 = 65533 ∧ (Utf8.decode s p).2 = 1 then ⟨p, 1, 65533, true, bt s p⟩ else ⟨p, (Utf8.decode s p).2, (Utf8.decode s p).1, false, 0⟩
def cells (s : ByteArray) (p : Nat) : List Cel := if p < s.size then cellAt s p :: cells s (p + (Utf8.decode s p).2) else []
termination_by s.size - p
decreasing_by have := Lib.width_pos s p; omega
theorem cells_in {s : ByteArray} {p : Nat} (h : p < s.size) : cells s p = cellAt s p :: cells s (p + (Utf8.decode s p).2) := by rw [cells, if_pos h]
theorem cells_out {s : ByteArray} {p : Nat} (h : ¬ p < s.size) : cells s p = [] := by rw [cells, if_neg h]
def runeLen (r : Int) : Int := if r < 0 then -1 else if r ≤ 127 then 1 else if r ≤ 2047 then 2 else if 55296 ≤ r ∧ r ≤ 57343 then -1 else if r ≤ 65535 then 3 else if r ≤ 1114111 then 4 else -1
/-- What is decoded has the length that its rune has, but for a bad byte. -/
theorem decode_len (s : ByteArray) (p : Nat) : runeLen (Utf8.decode s p).1 = (Utf8.decode s p).2 ∨ ((Utf8.decode s p).1 = 65533 ∧ (Utf8.decode s p).2 = 1) := by
  rw [Lib.decode_at]
  generalize (s.get! p).toNat = b0
  generalize (s.get! (p + 1)).toNat = b1
  generalize (s.get! (p + 2)).toNat = b2
  generalize (s.get! (p + 3)).toNat = b3
  unfold Lib.decodeN
  repeat' split
  all_goals first | exact .inr ⟨rfl, rfl⟩ | (refine .inl ?_; unfold runeLen; simp only []; repeat' split) <;> omega
theorem decode_fit (s : ByteArray) (p : Nat) (h : p < s.size) : (Utf8.decode s p).2 ≤ s.size - p := by
  rw [Lib.decode_at]
  unfold Lib.decodeN
  repeat' split
  all_goals (simp only []; omega)
theorem cells_len (s : ByteArray) (p : Nat) : (cells s p).length ≤ s.size - p := by
  by_cases h : p < s.size
  · have hw := Lib.width_pos s p
    have := cells_len s (p + (Utf8.decode s p).2)
    rw [cells_in h, List.length_cons]; omega
  · rw [cells_out h]; simp
termination_by s.size - p
end Go.Proofs.YteklnpgiloebcaaGreatDoor.V

namespace Go.Proofs.YteklnpgiloebcaaGreatDoor.V
set_option linter.unusedVariables false
set_option linter.unusedSimpArgs false
open Go Go.Proofs Go.RowKit
set_option maxRecDepth 100000
set_option maxHeartbeats 1000000
open Go Go.Proofs Go.Proofs.YteklnpgiloebcaaGreatDoor.V
theorem runeLen_fn (r : Int) : Fn Tryz.prog 108 [.int .i32 r] (.int .i64 (runeLen r)) := by
  refine Fn.of Tryz.f108 _ Tryz.func108 rfl (by decide) (by show 1 ≤ _; decide) tbOk 25 rfl fun S w0 gl => ?_
  refine Run.go ?_; (conv => whnf); repeat' (first | ((with_reducible refine Know.mk fun _ => ?_); conv => whnf) | ((with_reducible refine Need.mk ?_ ?_); exact nd; conv => whnf) | ((with_reducible first | refine Both.mk ?_ ?_ | refine Any.mk fun b hb => ?_ | refine AskB.dec (fun hb => ?_) (fun hb => ?_) | refine AskB.ndec (fun hb => ?_) (fun hb => ?_) | refine AskB.mk (fun hb => ?_) (fun hb => ?_)) <;> conv => whnf) | ((with_reducible first | refine Run.drawX rfl (by decide +kernel) ?_ | refine Run.drawT rfl (by decide +kernel) ?_ | refine Run.drawW rfl (by decide +kernel) ?_); conv => whnf) | fail)
  all_goals (refine Run.leave (ts := [2]) (.inr ⟨_, rfl⟩) rfl Tryz.func108 rfl (Le.int ?_); unfold runeLen; (repeat' split) <;> first | rfl | omega)
theorem decode_fn (s : ByteArray) (h : 0 < s.size) : Fn Tryz.prog 109 [.str s] (tupL [.u, .int .i64 (Utf8.decode s 0).2]) := by
  refine Fn.of Tryz.f109 _ Tryz.func109 rfl (by decide) (by show 1 ≤ _; decide) tbOk 19 rfl fun S w0 gl => ?_
  refine Run.go ?_; (conv => whnf); repeat' (first | ((with_reducible refine Know.mk fun _ => ?_); conv => whnf) | ((with_reducible refine Need.mk ?_ ?_); exact nd; conv => whnf) | ((with_reducible first | refine Both.mk ?_ ?_ | refine Any.mk fun b hb => ?_ | refine AskB.dec (fun hb => ?_) (fun hb => ?_) | refine AskB.ndec (fun hb => ?_) (fun hb => ?_) | refine AskB.mk (fun hb => ?_) (fun hb => ?_)) <;> conv => whnf) | ((with_reducible first | refine Run.drawX rfl (by decide +kernel) ?_ | refine Run.drawT rfl (by decide +kernel) ?_ | refine Run.drawW rfl (by decide +kernel) ?_); conv => whnf) | fail)
  · subst hb; exact absurd h (by decide)
  · refine Run.leave (ts := [2,3]) (.inr ⟨_, rfl⟩) rfl Tryz.func109 rfl (resT ⟨Le.u _, Le.int ?_, trivial⟩)
    have h0 := bt_lt s (Int.toNat 0)
    rw [dec_bt, dec_low _ _ _ _ _ (.inl (by omega)) (by omega)]; rfl
  · refine Run.callBX (slow_fn s h) rfl rfl ⟨Le.refl _, trivial⟩ rfl rfl rfl ?_
    (conv => whnf); repeat' (first | ((with_reducible refine Know.mk fun _ => ?_); conv => whnf) | ((with_reducible refine Need.mk ?_ ?_); exact nd; conv => whnf) | ((with_reducible first | refine Both.mk ?_ ?_ | refine Any.mk fun b hb => ?_ | refine AskB.dec (fun hb => ?_) (fun hb => ?_) | refine AskB.ndec (fun hb => ?_) (fun hb => ?_) | refine AskB.mk (fun hb => ?_) (fun hb => ?_)) <;> conv => whnf) | ((with_reducible first | refine Run.drawX rfl (by decide +kernel) ?_ | refine Run.drawT rfl (by decide +kernel) ?_ | refine Run.drawW rfl (by decide +kernel) ?_); conv => whnf) | fail)
    exact Run.leave (ts := [2,3]) (.inr ⟨_, rfl⟩) rfl Tryz.func109 rfl (resT ⟨Le.u _, Le.refl _, trivial⟩)
theorem cells_fn (s : ByteArray) (hs : s.size ≤ 134217728) : Fn Tryz.prog 82 [.str s] (tCel.L (cells s 0)) := by
  refine Fn.of Tryz.f82 _ Tryz.func82 rfl (by decide) (by show 1 ≤ _; decide) tbOk 45 rfl fun S w0 gl => ?_
  refine Run.go ?_; (conv => whnf); repeat' (first | ((with_reducible refine Know.mk fun _ => ?_); conv => whnf) | ((with_reducible refine Need.mk ?_ ?_); exact nd; conv => whnf) | ((with_reducible first | refine Both.mk ?_ ?_ | refine Any.mk fun b hb => ?_ | refine AskB.dec (fun hb => ?_) (fun hb => ?_) | refine AskB.ndec (fun hb => ?_) (fun hb => ?_) | refine AskB.mk (fun hb => ?_) (fun hb => ?_)) <;> conv => whnf) | ((with_reducible first | refine Run.drawX rfl (by decide +kernel) ?_ | refine Run.drawT rfl (by decide +kernel) ?_ | refine Run.drawW rfl (by decide +kernel) ?_); conv => whnf) | fail)
  refine Run.holdNil 3 1000 139 5 (fun _ _ => .u) rfl ?_
  refine Run.loop [0, 12] (fun (a : Nat × List Cel) => [(3, .row 1000)]) (fun a => [(12, .iter s a.1), (1000, tCel.R 139 a.2)]) (fun a => a.1 ≤ s.size ∧ a.2.length ≤ a.1 ∧ a.2 ++ cells s a.1 = cells s 0) (fun a => s.size - a.1) (0, []) ⟨Nat.zero_le _, Nat.zero_le _, rfl⟩ ⟨Le.refl _, trivial⟩ ⟨MOle.refl _, ⟨rfl, rfl, rfl, fun i j hi => absurd hi (Nat.not_lt_zero _)⟩, trivial⟩ ?_
  intro ⟨p, l⟩ ⟨hp, hl, hc⟩ IH
  simp only at hp hl hc
  show Run _ _ (lst (_ ++ [(3, .row 1000)])) (lstH [(12, .iter s p), (1000, tCel.R 139 l)])
  refine Run.go ?_; (conv => whnf); repeat' (first | ((with_reducible refine Know.mk fun _ => ?_); conv => whnf) | ((with_reducible refine Need.mk ?_ ?_); exact nd; conv => whnf) | ((with_reducible first | refine Both.mk ?_ ?_ | refine Any.mk fun b hb => ?_ | refine AskB.dec (fun hb => ?_) (fun hb => ?_) | refine AskB.ndec (fun hb => ?_) (fun hb => ?_) | refine AskB.mk (fun hb => ?_) (fun hb => ?_)) <;> conv => whnf) | ((with_reducible first | refine Run.drawX rfl (by decide +kernel) ?_ | refine Run.drawT rfl (by decide +kernel) ?_ | refine Run.drawW rfl (by decide +kernel) ?_); conv => whnf) | fail)
  · have hw := Lib.width_pos s p
    have hle := decode_fit s p (by omega)
    have hd := decode_len s p
    have hnext : l ++ cells s p = (l ++ [cellAt s p]) ++ cells s (p + (Utf8.decode s p).2) := by rw [cells_in (by omega)]; simp
    refine Run.callBX (runeLen_fn (Utf8.decode s p).1) rfl rfl ⟨Le.refl _, trivial⟩ rfl rfl rfl ?_
    (conv => whnf); repeat' (first | ((with_reducible refine Know.mk fun _ => ?_); conv => whnf) | ((with_reducible refine Need.mk ?_ ?_); exact nd; conv => whnf) | ((with_reducible first | refine Both.mk ?_ ?_ | refine Any.mk fun b hb => ?_ | refine AskB.dec (fun hb => ?_) (fun hb => ?_) | refine AskB.ndec (fun hb => ?_) (fun hb => ?_) | refine AskB.mk (fun hb => ?_) (fun hb => ?_)) <;> conv => whnf) | ((with_reducible first | refine Run.drawX rfl (by decide +kernel) ?_ | refine Run.drawT rfl (by decide +kernel) ?_ | refine Run.drawW rfl (by decide +kernel) ?_); conv => whnf) | fail)
    · refine Run.callBX (decode_fn (s.extract (Int.toNat p) s.size) (by simp; omega)) rfl rfl ⟨Le.refl _, trivial⟩ rfl rfl rfl ?_
      rw [show Utf8.decode (s.extract (Int.toNat p) s.size) 0 = Utf8.decode s p by rw [Lib.tail_decode]; simp]
      (conv => whnf); repeat' (first | ((with_reducible refine Know.mk fun _ => ?_); conv => whnf) | ((with_reducible refine Need.mk ?_ ?_); exact nd; conv => whnf) | ((with_reducible first | refine Both.mk ?_ ?_ | refine Any.mk fun b hb => ?_ | refine AskB.dec (fun hb => ?_) (fun hb => ?_) | refine AskB.ndec (fun hb => ?_) (fun hb => ?_) | refine AskB.mk (fun hb => ?_) (fun hb => ?_)) <;> conv => whnf) | ((with_reducible first | refine Run.drawX rfl (by decide +kernel) ?_ | refine Run.drawT rfl (by decide +kernel) ?_ | refine Run.drawW rfl (by decide +kernel) ?_); conv => whnf) | fail)
      · refine Run.hold (z := 43) 3 1000 (by rfl) (by rfl) (by rfl) ?_
        refine Run.to _ _ ?_ ?_ (IH (p + (Utf8.decode s p).2, l ++ [cellAt s p]) (by simp only []; omega) ⟨by simp only []; omega, by simp only [List.length_append, List.length_singleton]; omega, by simp only []; rw [← hnext, hc]⟩)
        · exact ⟨Le.refl _, Le.refl _, Le.refl _, trivial⟩
        · refine ⟨MOle.refl _, tCel.push 139 l (cellAt s p) _ (fun j hj => ?_), trivial⟩
          unfold cellAt
          rw [if_pos ⟨by omega, by omega⟩]
          match j, hj with
          | 0, _ => exact Le.refl _
          | 1, _ => exact Le.refl _
          | 2, _ => exact Le.int (by assumption)
          | 3, _ => exact Le.tt
          | 4, _ => exact Le.refl _
      · refine Run.hold (z := 43) 3 1000 (by rfl) (by rfl) (by rfl) ?_
        refine Run.to _ _ ?_ ?_ (IH (p + (Utf8.decode s p).2, l ++ [cellAt s p]) (by simp only []; omega) ⟨by simp only []; omega, by simp only [List.length_append, List.length_singleton]; omega, by simp only []; rw [← hnext, hc]⟩)
        · exact ⟨Le.refl _, Le.refl _, Le.refl _, trivial⟩
        · refine ⟨MOle.refl _, tCel.push 139 l (cellAt s p) _ (fun j hj => ?_), trivial⟩
          unfold cellAt
          rw [if_neg (fun h => by omega)]
          match j, hj with
          | 0, _ => exact Le.refl _
          | 1, _ => exact Le.int (by rcases hd with hd | hd; exact hd; exact absurd hd (by omega))
          | 2, _ => exact Le.refl _
          | 3, _ => exact Le.ff
          | 4, _ => exact Le.refl _
    · refine Run.hold (z := 43) 3 1000 (by rfl) (by rfl) (by rfl) ?_
      refine Run.to _ _ ?_ ?_ (IH (p + (Utf8.decode s p).2, l ++ [cellAt s p]) (by simp only []; omega) ⟨by simp only []; omega, by simp only [List.length_append, List.length_singleton]; omega, by simp only []; rw [← hnext, hc]⟩)
      · exact ⟨Le.refl _, Le.refl _, Le.refl _, trivial⟩
      · refine ⟨MOle.refl _, tCel.push 139 l (cellAt s p) _ (fun j hj => ?_), trivial⟩
        unfold cellAt
        rw [if_neg (fun h => by omega)]
        match j, hj with
        | 0, _ => exact Le.refl _
        | 1, _ => exact Le.int (by rcases hd with hd | hd; exact hd; exact absurd hd (by omega))
        | 2, _ => exact Le.refl _
        | 3, _ => exact Le.ff
        | 4, _ => exact Le.refl _
  · have : p = s.size := by omega
    subst this
    rw [cells_out (Nat.lt_irrefl _), List.append_nil] at hc
    rw [← hc]
    exact Run.leave (ts := [2]) (.inr ⟨_, rfl⟩) rfl Tryz.func82 rfl (Le.refl _)
end Go.Proofs.YteklnpgiloebcaaGreatDoor.V

namespace Go.Proofs.YteklnpgiloebcaaGreatDoor.V
set_option linter.unusedVariables false
set_option linter.unusedSimpArgs false
open Go
abbrev isJoiner (r : Int) : Prop := r = 39 ∨ r = 45 ∨ r = 173 ∨ (8204 ≤ r ∧ r ≤ 8205) ∨ r = 8217
abbrev isDigit (r : Int) : Prop := (48 ≤ r ∧ r ≤ 57) ∨ (1632 ≤ r ∧ r ≤ 1641)
abbrev isLetter (r : Int) : Prop := (65 ≤ r ∧ r ≤ 90) ∨ (97 ≤ r ∧ r ≤ 122) ∨ r = 170 ∨ r = 181 ∨ r = 186 ∨ (192 ≤ r ∧ r ≤ 214) ∨ (216 ≤ r ∧ r ≤ 246) ∨ (248 ≤ r ∧ r ≤ 687) ∨ (880 ≤ r ∧ r ≤ 893) ∨ (895 ≤ r ∧ r ≤ 902) ∨ (904 ≤ r ∧ r ≤ 1153) ∨ (1162 ≤ r ∧ r ≤ 1327) ∨ (7680 ≤ r ∧ r ≤ 8191) ∨ (64256 ≤ r ∧ r ≤ 64262) ∨ r = 9676
abbrev isAccent (r : Int) : Prop := (768 ≤ r ∧ r ≤ 879) ∨ (1155 ≤ r ∧ r ≤ 1161) ∨ (7616 ≤ r ∧ r ≤ 7679) ∨ (8400 ≤ r ∧ r ≤ 8447)
abbrev isLine (r : Int) : Prop := r = 10 ∨ r = 13 ∨ r = 133 ∨ (8232 ≤ r ∧ r ≤ 8233)
abbrev isBlank (r : Int) : Prop := r = 9 ∨ (11 ≤ r ∧ r ≤ 12) ∨ r = 32 ∨ r = 160 ∨ (8194 ≤ r ∧ r ≤ 8202) ∨ r = 8239 ∨ r = 12288
abbrev isPoint (r : Int) : Prop := (33 ≤ r ∧ r ≤ 126) ∨ (161 ≤ r ∧ r ≤ 191) ∨ r = 903 ∨ (8208 ≤ r ∧ r ≤ 8231) ∨ (8240 ≤ r ∧ r ≤ 8286)
def kOf (r : Int) : Int := if isJoiner r then 4 else if isDigit r then 3 else if isLetter r then 1 else if isAccent r then 2 else if isLine r then 6 else if isBlank r then 5 else if isPoint r then 7 else 0
def kCel (c : Cel) : Int := if c.bad then 1 else kOf c.r
theorem kOf_joiner {r : Int} (h : isJoiner r) : kOf r = 4 := by
  unfold kOf
  rw [if_pos h]
theorem kOf_digit {r : Int} (h : isDigit r) : kOf r = 3 := by
  unfold kOf
  rw [if_neg (by unfold isJoiner; unfold isDigit at h; omega), if_pos h]
theorem kOf_letter {r : Int} (h : isLetter r) : kOf r = 1 := by
  unfold kOf
  rw [if_neg (by unfold isJoiner; unfold isLetter at h; omega), if_neg (by unfold isDigit; unfold isLetter at h; omega), if_pos h]
theorem kOf_accent {r : Int} (h : isAccent r) : kOf r = 2 := by
  unfold kOf
  rw [if_neg (by unfold isJoiner; unfold isAccent at h; omega), if_neg (by unfold isDigit; unfold isAccent at h; omega), if_neg (by unfold isLetter; unfold isAccent at h; omega), if_pos h]
theorem kOf_line {r : Int} (h : isLine r) : kOf r = 6 := by
  unfold kOf
  rw [if_neg (by unfold isJoiner; unfold isLine at h; omega), if_neg (by unfold isDigit; unfold isLine at h; omega), if_neg (by unfold isLetter; unfold isLine at h; omega), if_neg (by unfold isAccent; unfold isLine at h; omega), if_pos h]
theorem kOf_blank {r : Int} (h : isBlank r) : kOf r = 5 := by
  unfold kOf
  rw [if_neg (by unfold isJoiner; unfold isBlank at h; omega), if_neg (by unfold isDigit; unfold isBlank at h; omega), if_neg (by unfold isLetter; unfold isBlank at h; omega), if_neg (by unfold isAccent; unfold isBlank at h; omega), if_neg (by unfold isLine; unfold isBlank at h; omega), if_pos h]
theorem kOf_point {r : Int} (h : isPoint r) (h0 : ¬ isJoiner r) (h1 : ¬ isDigit r) (h2 : ¬ isLetter r) : kOf r = 7 := by
  unfold kOf
  rw [if_neg h0, if_neg h1, if_neg h2, if_neg (by unfold isAccent; unfold isPoint at h; omega), if_neg (by unfold isLine; unfold isPoint at h; omega), if_neg (by unfold isBlank; unfold isPoint at h; omega), if_pos h]
theorem kOf_other {r : Int} (h0 : ¬ isJoiner r) (h1 : ¬ isDigit r) (h2 : ¬ isLetter r) (h3 : ¬ isAccent r) (h4 : ¬ isLine r) (h5 : ¬ isBlank r) (h6 : ¬ isPoint r) : kOf r = 0 := by
  unfold kOf
  rw [if_neg h0, if_neg h1, if_neg h2, if_neg h3, if_neg h4, if_neg h5, if_neg h6]
def wordy (k : Int) : Bool := decide (k = 1 ∨ k = 2 ∨ k = 3)
end Go.Proofs.YteklnpgiloebcaaGreatDoor.V

namespace Go.Proofs.YteklnpgiloebcaaGreatDoor.V
set_option linter.unusedVariables false
set_option linter.unusedSimpArgs false
open Go Go.Proofs Go.RowKit
set_option maxRecDepth 100000
set_option maxHeartbeats 2000000
open Go Go.Proofs Go.Proofs.YteklnpgiloebcaaGreatDoor.V
theorem in_fn (r lo hi : Int) : Fn Tryz.prog 136 [.int .i32 r, .int .i32 lo, .int .i32 hi] (.bool (decide (lo ≤ r ∧ r ≤ hi))) := by
  refine Fn.of Tryz.f136 _ Tryz.func136 rfl (by decide) (by show 3 ≤ _; decide) tbOk 15 rfl fun S w0 gl => ?_
  refine Run.go ?_; (conv => whnf); repeat' (first | ((with_reducible refine Know.mk fun _ => ?_); conv => whnf) | ((with_reducible refine Need.mk ?_ ?_); exact nd; conv => whnf) | ((with_reducible first | refine Both.mk ?_ ?_ | refine Any.mk fun b hb => ?_ | refine AskB.dec (fun hb => ?_) (fun hb => ?_) | refine AskB.ndec (fun hb => ?_) (fun hb => ?_) | refine AskB.mk (fun hb => ?_) (fun hb => ?_)) <;> conv => whnf) | ((with_reducible first | refine Run.drawX rfl (by decide +kernel) ?_ | refine Run.drawT rfl (by decide +kernel) ?_ | refine Run.drawW rfl (by decide +kernel) ?_); conv => whnf) | fail)
  · refine Run.leave (ts := [6]) (.inr ⟨_, rfl⟩) rfl Tryz.func136 rfl (Le.bool ?_)
    have h1 : lo ≤ r := by assumption
    rw [decide_eq_decide]
    exact ⟨fun h => ⟨h1, h⟩, fun h => h.2⟩
  · exact Run.leave (ts := [6]) (.inr ⟨_, rfl⟩) rfl Tryz.func136 rfl (Le.ff.trans (Le.bool (decide_eq_false (fun h => hb h.1)).symm))
theorem of_fn (r : Int) : Fn Tryz.prog 110 [.int .i32 r] (.int .i64 (kOf r)) := by
  refine Fn.of Tryz.f110 _ Tryz.func110 rfl (by decide) (by show 1 ≤ _; decide) tbOk 78 rfl fun S w0 gl => ?_
  refine Run.go ?_; (conv => whnf); repeat' (first | ((with_reducible refine Know.mk fun _ => ?_); conv => whnf) | ((with_reducible refine Need.mk ?_ ?_); exact nd; conv => whnf) | ((with_reducible first | refine Both.mk ?_ ?_ | refine Any.mk fun b hb => ?_ | refine AskB.dec (fun hb => ?_) (fun hb => ?_) | refine AskB.ndec (fun hb => ?_) (fun hb => ?_) | refine AskB.mk (fun hb => ?_) (fun hb => ?_)) <;> conv => whnf) | ((with_reducible first | refine Run.drawX rfl (by decide +kernel) ?_ | refine Run.drawT rfl (by decide +kernel) ?_ | refine Run.drawW rfl (by decide +kernel) ?_); conv => whnf) | fail)
  repeat' (first | (refine Run.callBX (in_fn _ _ _) rfl rfl ⟨Le.refl _, Le.refl _, Le.refl _, trivial⟩ rfl rfl rfl ?_; (conv => whnf); repeat' (first | ((with_reducible refine Know.mk fun _ => ?_); conv => whnf) | ((with_reducible refine Need.mk ?_ ?_); exact nd; conv => whnf) | ((with_reducible first | refine Both.mk ?_ ?_ | refine Any.mk fun b hb => ?_ | refine AskB.dec (fun hb => ?_) (fun hb => ?_) | refine AskB.ndec (fun hb => ?_) (fun hb => ?_) | refine AskB.mk (fun hb => ?_) (fun hb => ?_)) <;> conv => whnf) | ((with_reducible first | refine Run.drawX rfl (by decide +kernel) ?_ | refine Run.drawT rfl (by decide +kernel) ?_ | refine Run.drawW rfl (by decide +kernel) ?_); conv => whnf) | fail)))
  all_goals refine Run.leave (ts := [2]) (.inr ⟨_, rfl⟩) rfl Tryz.func110 rfl (Le.int ?_)
  all_goals first
    | exact (kOf_joiner (by unfold isJoiner; omega)).symm
    | exact (kOf_digit (by unfold isDigit; omega)).symm
    | exact (kOf_letter (by unfold isLetter; omega)).symm
    | exact (kOf_accent (by unfold isAccent; omega)).symm
    | exact (kOf_line (by unfold isLine; omega)).symm
    | exact (kOf_blank (by unfold isBlank; omega)).symm
    | exact (kOf_point (by unfold isPoint; omega) (by unfold isJoiner; omega) (by unfold isDigit; omega) (by unfold isLetter; omega)).symm
    | exact (kOf_other (by unfold isJoiner; omega) (by unfold isDigit; omega) (by unfold isLetter; omega) (by unfold isAccent; omega) (by unfold isLine; omega) (by unfold isBlank; omega) (by unfold isPoint; omega)).symm
end Go.Proofs.YteklnpgiloebcaaGreatDoor.V

namespace Go.Proofs.YteklnpgiloebcaaGreatDoor.V
set_option linter.unusedVariables false
set_option linter.unusedSimpArgs false
open Go
def wantsV (b : Int) : Nat := if b < 128 then 1 else if 194 ≤ b ∧ b ≤ 223 then 2 else if 224 ≤ b ∧ b ≤ 239 then 3 else if 240 ≤ b ∧ b ≤ 244 then 4 else 0
def secondV (a b : Int) : Bool := if a = 224 then decide (160 ≤ b ∧ b ≤ 191) else if a = 237 then decide (128 ≤ b ∧ b ≤ 159) else if a = 240 then decide (144 ≤ b ∧ b ≤ 191) else if a = 244 then decide (128 ≤ b ∧ b ≤ 143) else decide (128 ≤ b ∧ b ≤ 191)
def fitsE (s : ByteArray) (i n k : Nat) : Nat := if h : k < n ∧ i + k < s.size then (if (k = 1 ∧ secondV (bt s i) (bt s (i + k)) = false) ∨ (1 < k ∧ ¬ (128 ≤ bt s (i + k) ∧ bt s (i + k) ≤ 191)) then k else fitsE s i n (k + 1)) else k
termination_by n - k
def fitsV (s : ByteArray) (i : Nat) : Nat := if wantsV (bt s i) = 0 then 0 else fitsE s i (wantsV (bt s i)) 1
theorem fitsE_out {s : ByteArray} {i n k : Nat} (h : ¬ (k < n ∧ i + k < s.size)) : fitsE s i n k = k := by rw [fitsE, dif_neg h]
theorem fitsE_bad {s : ByteArray} {i n k : Nat} (h : k < n ∧ i + k < s.size) (h2 : (k = 1 ∧ secondV (bt s i) (bt s (i + k)) = false) ∨ (1 < k ∧ ¬ (128 ≤ bt s (i + k) ∧ bt s (i + k) ≤ 191))) : fitsE s i n k = k := by rw [fitsE, dif_pos h, if_pos h2]
theorem fitsE_go {s : ByteArray} {i n k : Nat} (h : k < n ∧ i + k < s.size) (h2 : ¬ ((k = 1 ∧ secondV (bt s i) (bt s (i + k)) = false) ∨ (1 < k ∧ ¬ (128 ≤ bt s (i + k) ∧ bt s (i + k) ≤ 191)))) : fitsE s i n k = fitsE s i n (k + 1) := by rw [fitsE, dif_pos h, if_neg h2]
theorem fitsE_le (s : ByteArray) (i n k : Nat) (h : k ≤ n) : k ≤ fitsE s i n k ∧ fitsE s i n k ≤ n := by
  by_cases h1 : k < n ∧ i + k < s.size
  · by_cases h2 : (k = 1 ∧ secondV (bt s i) (bt s (i + k)) = false) ∨ (1 < k ∧ ¬ (128 ≤ bt s (i + k) ∧ bt s (i + k) ≤ 191))
    · rw [fitsE_bad h1 h2]; omega
    · rw [fitsE_go h1 h2]
      have := fitsE_le s i n (k + 1) (by omega); omega
  · rw [fitsE_out h1]; omega
termination_by n - k
/-- All behind k fit. -/
theorem fitsE_all (s : ByteArray) (i n k : Nat) (h : k ≤ n) : fitsE s i n k = n ↔ ∀ j, k ≤ j → j < n → i + j < s.size ∧ (j = 1 → secondV (bt s i) (bt s (i + j)) = true) ∧ (1 < j → 128 ≤ bt s (i + j) ∧ bt s (i + j) ≤ 191) := by
  by_cases h0 : k = n
  · subst h0
    rw [fitsE_out (by omega)]
    exact ⟨fun _ j h1 h2 => absurd h2 (by omega), fun _ => rfl⟩
  by_cases h1 : i + k < s.size
  · by_cases h2 : (k = 1 ∧ secondV (bt s i) (bt s (i + k)) = false) ∨ (1 < k ∧ ¬ (128 ≤ bt s (i + k) ∧ bt s (i + k) ≤ 191))
    · rw [fitsE_bad ⟨by omega, h1⟩ h2]
      refine ⟨fun e => absurd e h0, fun hall => ?_⟩
      have := hall k (Nat.le_refl _) (by omega)
      rcases h2 with ⟨e, h2⟩ | ⟨e, h2⟩
      · rw [this.2.1 e] at h2; cases h2
      · exact absurd (this.2.2 e) h2
    · rw [fitsE_go ⟨by omega, h1⟩ h2, fitsE_all s i n (k + 1) (by omega)]
      refine ⟨fun hall j hj hn => ?_, fun hall j hj hn => hall j (by omega) hn⟩
      by_cases e : j = k
      · subst e
        refine ⟨h1, fun e1 => ?_, fun e1 => ?_⟩
        · cases hsec : secondV (bt s i) (bt s (i + j)) with
          | true => rfl
          | false => exact absurd (.inl ⟨e1, hsec⟩) h2
        · exact Classical.byContradiction fun hc => h2 (.inr ⟨e1, hc⟩)
      · exact hall j (by omega) hn
  · rw [fitsE_out (by omega)]
    exact ⟨fun e => absurd e h0, fun hall => absurd (hall k (Nat.le_refl _) (by omega)).1 h1⟩
termination_by n - k
theorem secondV_iff (a b : Int) : secondV a b = true ↔ (a = 224 ∧ 160 ≤ b ∧ b ≤ 191) ∨ (a = 237 ∧ 128 ≤ b ∧ b ≤ 159) ∨ (a = 240 ∧ 144 ≤ b ∧ b ≤ 191) ∨ (a = 244 ∧ 128 ≤ b ∧ b ≤ 143) ∨ (a ≠ 224 ∧ a ≠ 237 ∧ a ≠ 240 ∧ a ≠ 244 ∧ 128 ≤ b ∧ b ≤ 191) := by
  unfold secondV
  repeat' split
  all_goals (rw [decide_eq_true_iff]; omega)
theorem dec_at (s : ByteArray) (i : Nat) : Utf8.decode s i = Lib.decodeN (s.size - i) (bt s i).toNat (bt s (i + 1)).toNat (bt s (i + 2)).toNat (bt s (i + 3)).toNat := by
  rw [Lib.decode_at, bt_get, bt_get, bt_get, bt_get]
/-- No rune begins so. -/
theorem dec_none (s : ByteArray) (i : Nat) (h : wantsV (bt s i) = 0) : Utf8.decode s i = (65533, 1) := by
  have hb := bt_lt s i
  rw [dec_at]
  generalize bt s i = b0 at *
  unfold wantsV at h
  have : 128 ≤ b0 ∧ (b0 < 194 ∨ 244 < b0) := by
    repeat' split at h
    all_goals first | (exact absurd h (by decide)) | omega
  unfold Lib.decodeN
  repeat' split
  all_goals first | rfl | (exfalso; omega)
def valE (s : ByteArray) (i n : Nat) : Int := if n = 2 then bt s i % 32 * 64 + bt s (i + 1) % 64 else if n = 3 then bt s i % 16 * 4096 + bt s (i + 1) % 64 * 64 + bt s (i + 2) % 64 else if n = 4 then bt s i % 8 * 262144 + bt s (i + 1) % 64 * 4096 + bt s (i + 2) % 64 * 64 + bt s (i + 3) % 64 else bt s i
theorem cellAt_bad (s : ByteArray) (i : Nat) (h : Utf8.decode s i = (65533, 1)) : cellAt s i = ⟨i, 1, 65533, true, bt s i⟩ := by
  unfold cellAt
  rw [h, if_pos ⟨rfl, rfl⟩]
theorem cellAt_good (s : ByteArray) (i r w : Nat) (h : Utf8.decode s i = (r, w)) (hr : ¬ (r = 65533 ∧ w = 1)) : cellAt s i = ⟨i, w, r, false, 0⟩ := by
  unfold cellAt
  rw [h, if_neg hr]
theorem dec_cases (s : ByteArray) (i : Nat) (hi : i < s.size) (h : wantsV (bt s i) ≠ 0) :
    (fitsE s i (wantsV (bt s i)) 1 < wantsV (bt s i) → Utf8.decode s i = (65533, 1)) ∧
    (¬ fitsE s i (wantsV (bt s i)) 1 < wantsV (bt s i) → Utf8.decode s i = ((valE s i (wantsV (bt s i))).toNat, wantsV (bt s i)) ∧ 0 ≤ valE s i (wantsV (bt s i)) ∧ (wantsV (bt s i) = 1 → valE s i (wantsV (bt s i)) < 128)) := by
  have hb := bt_lt s i
  have hb1 := bt_lt s (i + 1)
  have hb2 := bt_lt s (i + 2)
  have hb3 := bt_lt s (i + 3)
  have hle := fitsE_le s i (wantsV (bt s i)) 1 (by omega)
  have hall := fitsE_all s i (wantsV (bt s i)) 1 (by omega)
  have hw : (wantsV (bt s i) = 1 ∧ bt s i < 128) ∨ (wantsV (bt s i) = 2 ∧ 194 ≤ bt s i ∧ bt s i ≤ 223) ∨ (wantsV (bt s i) = 3 ∧ 224 ≤ bt s i ∧ bt s i ≤ 239) ∨ (wantsV (bt s i) = 4 ∧ 240 ≤ bt s i ∧ bt s i ≤ 244) := by
    unfold wantsV at h ⊢
    repeat' split
    all_goals first | omega | (exfalso; rw [if_neg (by omega), if_neg (by omega), if_neg (by omega), if_neg (by omega)] at h; exact h rfl)
  generalize hF : fitsE s i (wantsV (bt s i)) 1 = F at *
  rw [dec_at]
  unfold valE
  generalize hW : wantsV (bt s i) = W at *
  rcases hw with ⟨e, h1⟩ | ⟨e, h1⟩ | ⟨e, h1⟩ | ⟨e, h1⟩
  all_goals subst e
  · refine ⟨fun hlt => absurd hlt (by omega), fun _ => ?_⟩
    simp only [show ¬ (1 = 2) by decide, show ¬ (1 = 3) by decide, show ¬ (1 = 4) by decide, if_false]
    refine ⟨?_, by omega, fun _ => by omega⟩
    unfold Lib.decodeN
    rw [if_pos (by omega)]
  · have ha : (F = 2 ↔ i + 1 < s.size ∧ 128 ≤ bt s (i + 1) ∧ bt s (i + 1) ≤ 191) := by
      rw [hall]
      refine ⟨fun hall => ?_, fun hc j h2 h3 => ?_⟩
      · have h2 := hall 1 (by omega) (by omega)
        have h3 := (secondV_iff _ _).mp (h2.2.1 rfl)
        omega
      · have : j = 1 := by omega
        subst this
        exact ⟨hc.1, fun _ => (secondV_iff _ _).mpr (by omega), fun h => absurd h (by omega)⟩
    simp only [show ¬ (2 = 3) by decide, show ¬ (2 = 4) by decide, if_false, if_true]
    generalize bt s i = b0 at *
    generalize bt s (i + 1) = b1 at *
    generalize bt s (i + 2) = b2 at *
    generalize bt s (i + 3) = b3 at *
    clear hall hF hW
    refine ⟨fun hlt => ?_, fun hlt => ⟨?_, by omega, fun h => absurd h (by decide)⟩⟩
    · have : ¬ (i + 1 < s.size ∧ 128 ≤ b1 ∧ b1 ≤ 191) := fun hc => by have := ha.mpr hc; omega
      unfold Lib.decodeN
      repeat' split
      all_goals first | rfl | (exfalso; omega)
    · have : (i + 1 < s.size ∧ 128 ≤ b1 ∧ b1 ≤ 191) := ha.mp (by omega)
      unfold Lib.decodeN
      rw [if_neg (by omega), if_pos (by omega), if_pos (by omega)]
      congr 1; omega
  · have ha : (F = 3 ↔ i + 1 < s.size ∧ secondV (bt s i) (bt s (i + 1)) = true ∧ i + 2 < s.size ∧ 128 ≤ bt s (i + 2) ∧ bt s (i + 2) ≤ 191) := by
      rw [hall]
      refine ⟨fun hall => ?_, fun hc j h2 h3 => ?_⟩
      · have h2 := hall 1 (by omega) (by omega)
        have h3 := hall 2 (by omega) (by omega)
        exact ⟨h2.1, h2.2.1 rfl, h3.1, h3.2.2 (by omega)⟩
      · rcases (by omega : j = 1 ∨ j = 2) with e | e <;> subst e
        · exact ⟨hc.1, fun _ => hc.2.1, fun h => absurd h (by omega)⟩
        · exact ⟨hc.2.2.1, fun h => absurd h (by omega), fun _ => hc.2.2.2⟩
    rw [secondV_iff] at ha
    simp only [show ¬ (3 = 2) by decide, show ¬ (3 = 4) by decide, if_false, if_true]
    generalize bt s i = b0 at *
    generalize bt s (i + 1) = b1 at *
    generalize bt s (i + 2) = b2 at *
    generalize bt s (i + 3) = b3 at *
    clear hall hF hW
    refine ⟨fun hlt => ?_, fun hlt => ⟨?_, by omega, fun h => absurd h (by decide)⟩⟩
    · have : ¬ (i + 1 < s.size ∧ _ ∧ i + 2 < s.size ∧ 128 ≤ b2 ∧ b2 ≤ 191) := fun hc => by have := ha.mpr hc; omega
      unfold Lib.decodeN
      repeat' split
      all_goals first | rfl | (exfalso; omega)
    · have := ha.mp (by omega)
      unfold Lib.decodeN
      rw [if_neg (by omega), if_neg (by omega), if_pos (by omega), if_pos (by omega)]
      congr 1; omega
  · have ha : (F = 4 ↔ i + 1 < s.size ∧ secondV (bt s i) (bt s (i + 1)) = true ∧ i + 2 < s.size ∧ (128 ≤ bt s (i + 2) ∧ bt s (i + 2) ≤ 191) ∧ i + 3 < s.size ∧ 128 ≤ bt s (i + 3) ∧ bt s (i + 3) ≤ 191) := by
      rw [hall]
      refine ⟨fun hall => ?_, fun hc j h2 h3 => ?_⟩
      · have h2 := hall 1 (by omega) (by omega)
        have h3 := hall 2 (by omega) (by omega)
        have h4 := hall 3 (by omega) (by omega)
        exact ⟨h2.1, h2.2.1 rfl, h3.1, h3.2.2 (by omega), h4.1, h4.2.2 (by omega)⟩
      · rcases (by omega : j = 1 ∨ j = 2 ∨ j = 3) with e | e | e <;> subst e
        · exact ⟨hc.1, fun _ => hc.2.1, fun h => absurd h (by omega)⟩
        · exact ⟨hc.2.2.1, fun h => absurd h (by omega), fun _ => hc.2.2.2.1⟩
        · exact ⟨hc.2.2.2.2.1, fun h => absurd h (by omega), fun _ => hc.2.2.2.2.2⟩
    rw [secondV_iff] at ha
    simp only [show ¬ (4 = 2) by decide, show ¬ (4 = 3) by decide, if_false, if_true]
    generalize bt s i = b0 at *
    generalize bt s (i + 1) = b1 at *
    generalize bt s (i + 2) = b2 at *
    generalize bt s (i + 3) = b3 at *
    clear hall hF hW
    refine ⟨fun hlt => ?_, fun hlt => ⟨?_, by omega, fun h => absurd h (by decide)⟩⟩
    · have : ¬ (i + 1 < s.size ∧ _ ∧ i + 2 < s.size ∧ (128 ≤ b2 ∧ b2 ≤ 191) ∧ i + 3 < s.size ∧ 128 ≤ b3 ∧ b3 ≤ 191) := fun hc => by have := ha.mpr hc; omega
      unfold Lib.decodeN
      repeat' split
      all_goals first | rfl | (exfalso; omega)
    · have := ha.mp (by omega)
      unfold Lib.decodeN
      rw [if_neg (by omega), if_neg (by omega), if_neg (by omega), if_pos (by omega), if_pos (by omega)]
      congr 1; omega
end Go.Proofs.YteklnpgiloebcaaGreatDoor.V

namespace Go.Proofs.YteklnpgiloebcaaGreatDoor.V
set_option linter.unusedVariables false
set_option linter.unusedSimpArgs false
open Go Go.Proofs Go.RowKit
set_option maxRecDepth 100000
set_option maxHeartbeats 2000000
open Go Go.Proofs Go.Proofs.YteklnpgiloebcaaGreatDoor.V
theorem between_fn (b lo hi : Int) : Fn Tryz.prog 153 [.int .u8 b, .int .u8 lo, .int .u8 hi] (.bool (decide (lo ≤ b ∧ b ≤ hi))) := by
  refine Fn.of Tryz.f153 _ Tryz.func153 rfl (by decide) (by show 3 ≤ _; decide) tbOk 15 rfl fun S w0 gl => ?_
  refine Run.go ?_; (conv => whnf); repeat' (first | ((with_reducible refine Know.mk fun _ => ?_); conv => whnf) | ((with_reducible refine Need.mk ?_ ?_); exact nd; conv => whnf) | ((with_reducible first | refine Both.mk ?_ ?_ | refine Any.mk fun b hb => ?_ | refine AskB.dec (fun hb => ?_) (fun hb => ?_) | refine AskB.ndec (fun hb => ?_) (fun hb => ?_) | refine AskB.mk (fun hb => ?_) (fun hb => ?_)) <;> conv => whnf) | ((with_reducible first | refine Run.drawX rfl (by decide +kernel) ?_ | refine Run.drawT rfl (by decide +kernel) ?_ | refine Run.drawW rfl (by decide +kernel) ?_); conv => whnf) | fail)
  · refine Run.leave (ts := [6]) (.inr ⟨_, rfl⟩) rfl Tryz.func153 rfl (Le.bool ?_)
    have h1 : lo ≤ b := by assumption
    rw [decide_eq_decide]
    exact ⟨fun h => ⟨h1, h⟩, fun h => h.2⟩
  · exact Run.leave (ts := [6]) (.inr ⟨_, rfl⟩) rfl Tryz.func153 rfl (Le.ff.trans (Le.bool (decide_eq_false (fun h => hb h.1)).symm))
theorem wants_fn (b : Int) : Fn Tryz.prog 141 [.int .u8 b] (.int .i64 (wantsV b : Nat)) := by
  refine Fn.of Tryz.f141 _ Tryz.func141 rfl (by decide) (by show 1 ≤ _; decide) tbOk 11 rfl fun S w0 gl => ?_
  refine Run.go ?_; (conv => whnf); repeat' (first | ((with_reducible refine Know.mk fun _ => ?_); conv => whnf) | ((with_reducible refine Need.mk ?_ ?_); exact nd; conv => whnf) | ((with_reducible first | refine Both.mk ?_ ?_ | refine Any.mk fun b hb => ?_ | refine AskB.dec (fun hb => ?_) (fun hb => ?_) | refine AskB.ndec (fun hb => ?_) (fun hb => ?_) | refine AskB.mk (fun hb => ?_) (fun hb => ?_)) <;> conv => whnf) | ((with_reducible first | refine Run.drawX rfl (by decide +kernel) ?_ | refine Run.drawT rfl (by decide +kernel) ?_ | refine Run.drawW rfl (by decide +kernel) ?_); conv => whnf) | fail)
  · exact Run.leave (ts := [2]) (.inr ⟨_, rfl⟩) rfl Tryz.func141 rfl (Le.int (by unfold wantsV; rw [if_pos (by assumption)]; rfl))
  repeat' (first | (refine Run.callBX (between_fn _ _ _) rfl rfl ⟨Le.refl _, Le.refl _, Le.refl _, trivial⟩ rfl rfl rfl ?_; (conv => whnf); repeat' (first | ((with_reducible refine Know.mk fun _ => ?_); conv => whnf) | ((with_reducible refine Need.mk ?_ ?_); exact nd; conv => whnf) | ((with_reducible first | refine Both.mk ?_ ?_ | refine Any.mk fun b hb => ?_ | refine AskB.dec (fun hb => ?_) (fun hb => ?_) | refine AskB.ndec (fun hb => ?_) (fun hb => ?_) | refine AskB.mk (fun hb => ?_) (fun hb => ?_)) <;> conv => whnf) | ((with_reducible first | refine Run.drawX rfl (by decide +kernel) ?_ | refine Run.drawT rfl (by decide +kernel) ?_ | refine Run.drawW rfl (by decide +kernel) ?_); conv => whnf) | fail)))
  all_goals refine Run.leave (ts := [2]) (.inr ⟨_, rfl⟩) rfl Tryz.func141 rfl (Le.int ?_)
  all_goals unfold wantsV
  all_goals repeat' split
  all_goals first | rfl | (exfalso; omega)
theorem second_fn (a b : Int) : Fn Tryz.prog 154 [.int .u8 a, .int .u8 b] (.bool (secondV a b)) := by
  refine Fn.of Tryz.f154 _ Tryz.func154 rfl (by decide) (by show 2 ≤ _; decide) tbOk 24 rfl fun S w0 gl => ?_
  refine Run.go ?_; (conv => whnf); repeat' (first | ((with_reducible refine Know.mk fun _ => ?_); conv => whnf) | ((with_reducible refine Need.mk ?_ ?_); exact nd; conv => whnf) | ((with_reducible first | refine Both.mk ?_ ?_ | refine Any.mk fun b hb => ?_ | refine AskB.dec (fun hb => ?_) (fun hb => ?_) | refine AskB.ndec (fun hb => ?_) (fun hb => ?_) | refine AskB.mk (fun hb => ?_) (fun hb => ?_)) <;> conv => whnf) | ((with_reducible first | refine Run.drawX rfl (by decide +kernel) ?_ | refine Run.drawT rfl (by decide +kernel) ?_ | refine Run.drawW rfl (by decide +kernel) ?_); conv => whnf) | fail)
  all_goals (refine Run.callBX (between_fn _ _ _) rfl rfl ⟨Le.refl _, Le.refl _, Le.refl _, trivial⟩ rfl rfl rfl ?_; (conv => whnf); repeat' (first | ((with_reducible refine Know.mk fun _ => ?_); conv => whnf) | ((with_reducible refine Need.mk ?_ ?_); exact nd; conv => whnf) | ((with_reducible first | refine Both.mk ?_ ?_ | refine Any.mk fun b hb => ?_ | refine AskB.dec (fun hb => ?_) (fun hb => ?_) | refine AskB.ndec (fun hb => ?_) (fun hb => ?_) | refine AskB.mk (fun hb => ?_) (fun hb => ?_)) <;> conv => whnf) | ((with_reducible first | refine Run.drawX rfl (by decide +kernel) ?_ | refine Run.drawT rfl (by decide +kernel) ?_ | refine Run.drawW rfl (by decide +kernel) ?_); conv => whnf) | fail))
  all_goals refine Run.leave (ts := [4]) (.inr ⟨_, rfl⟩) rfl Tryz.func154 rfl (Le.bool ?_)
  all_goals unfold secondV
  all_goals repeat' split
  all_goals first | rfl | (exfalso; omega)
theorem fits_fn (s : ByteArray) (i : Nat) (hi : i < s.size) (hs : s.size ≤ 134217728) : Fn Tryz.prog 142 [.str s, .int .i64 i] (.int .i64 (fitsV s i : Nat)) := by
  refine Fn.of Tryz.f142 _ Tryz.func142 rfl (by decide) (by show 2 ≤ _; decide) tbOk 53 rfl fun S w0 gl => ?_
  refine Run.go ?_; (conv => whnf); repeat' (first | ((with_reducible refine Know.mk fun _ => ?_); conv => whnf) | ((with_reducible refine Need.mk ?_ ?_); exact nd; conv => whnf) | ((with_reducible first | refine Both.mk ?_ ?_ | refine Any.mk fun b hb => ?_ | refine AskB.dec (fun hb => ?_) (fun hb => ?_) | refine AskB.ndec (fun hb => ?_) (fun hb => ?_) | refine AskB.mk (fun hb => ?_) (fun hb => ?_)) <;> conv => whnf) | ((with_reducible first | refine Run.drawX rfl (by decide +kernel) ?_ | refine Run.drawT rfl (by decide +kernel) ?_ | refine Run.drawW rfl (by decide +kernel) ?_); conv => whnf) | fail)
  refine Run.callBX (wants_fn (bt s i)) rfl rfl ⟨Le.refl _, trivial⟩ rfl rfl rfl ?_
  (conv => whnf); repeat' (first | ((with_reducible refine Know.mk fun _ => ?_); conv => whnf) | ((with_reducible refine Need.mk ?_ ?_); exact nd; conv => whnf) | ((with_reducible first | refine Both.mk ?_ ?_ | refine Any.mk fun b hb => ?_ | refine AskB.dec (fun hb => ?_) (fun hb => ?_) | refine AskB.ndec (fun hb => ?_) (fun hb => ?_) | refine AskB.mk (fun hb => ?_) (fun hb => ?_)) <;> conv => whnf) | ((with_reducible first | refine Run.drawX rfl (by decide +kernel) ?_ | refine Run.drawT rfl (by decide +kernel) ?_ | refine Run.drawW rfl (by decide +kernel) ?_); conv => whnf) | fail)
  · exact Run.leave (ts := [4]) (.inr ⟨_, rfl⟩) rfl Tryz.func142 rfl (Le.int (by unfold fitsV; rw [if_pos (by omega)]; rfl))
  have hne : ¬ wantsV (bt s i) = 0 := by omega
  generalize hW : wantsV (bt s i) = W at *
  have hf : fitsV s i = fitsE s i W 1 := by unfold fitsV; rw [hW, if_neg hne]
  have hW4 : W ≤ 4 := by
    rw [← hW]; unfold wantsV
    repeat' split
    all_goals omega
  refine Run.loop [0, 1, 5] (fun (k : Nat) => [(6, .int .i64 (k : Int))]) (fun k => []) (fun k => 1 ≤ k ∧ k ≤ W ∧ fitsE s i W k = fitsV s i) (fun k => W - k) 1 ⟨Nat.le_refl _, by omega, hf.symm⟩ ⟨Le.refl _, trivial⟩ trivial ?_
  intro k ⟨hk1, hk2, hk3⟩ IH
  have hw1 : IntKind.i64.wrap ((i : Int) + k) = (i : Int) + k := wrap64 (by omega) (by omega)
  have hw2 : IntKind.i64.wrap ((k : Int) + 1) = ((k + 1 : Nat) : Int) := wrap64 (by omega) (by omega)
  have hbt : bt s (IntKind.i64.wrap (↑i + ↑k)).toNat = bt s (i + k) := by rw [hw1]; rfl
  have stp : k < W ∧ i + k < s.size → ¬ ((k = 1 ∧ secondV (bt s i) (bt s (i + k)) = false) ∨ (1 < k ∧ ¬ (128 ≤ bt s (i + k) ∧ bt s (i + k) ≤ 191))) → k < W → k + 1 ≤ W ∧ fitsE s i W (k + 1) = fitsV s i := fun h1 h2 h3 => ⟨h3, by rw [← hk3, ← fitsE_go h1 h2]⟩
  have bad : k < W ∧ i + k < s.size → ((k = 1 ∧ secondV (bt s i) (bt s (i + k)) = false) ∨ (1 < k ∧ ¬ (128 ≤ bt s (i + k) ∧ bt s (i + k) ≤ 191))) → ((fitsV s i : Nat) : Int) = k := fun h1 h2 => by rw [← hk3, fitsE_bad h1 h2]
  have out : ¬ (k < W ∧ i + k < s.size) → ((fitsV s i : Nat) : Int) = k := fun h1 => by rw [← hk3, fitsE_out h1]
  refine Run.go ?_; (conv => whnf); repeat' (first | ((with_reducible refine Know.mk fun _ => ?_); conv => whnf) | ((with_reducible refine Need.mk ?_ ?_); exact nd; conv => whnf) | ((with_reducible first | refine Both.mk ?_ ?_ | refine Any.mk fun b hb => ?_ | refine AskB.dec (fun hb => ?_) (fun hb => ?_) | refine AskB.ndec (fun hb => ?_) (fun hb => ?_) | refine AskB.mk (fun hb => ?_) (fun hb => ?_)) <;> conv => whnf) | ((with_reducible first | refine Run.drawX rfl (by decide +kernel) ?_ | refine Run.drawT rfl (by decide +kernel) ?_ | refine Run.drawW rfl (by decide +kernel) ?_); conv => whnf) | fail)
  · rw [hw1] at *
    have hk : k = 1 := by omega
    refine Run.callBX (second_fn (bt s i) (bt s (i + k))) rfl rfl ⟨Le.refl _, Le.int hbt, trivial⟩ rfl rfl rfl ?_
    (conv => whnf); repeat' (first | ((with_reducible refine Know.mk fun _ => ?_); conv => whnf) | ((with_reducible refine Need.mk ?_ ?_); exact nd; conv => whnf) | ((with_reducible first | refine Both.mk ?_ ?_ | refine Any.mk fun b hb => ?_ | refine AskB.dec (fun hb => ?_) (fun hb => ?_) | refine AskB.ndec (fun hb => ?_) (fun hb => ?_) | refine AskB.mk (fun hb => ?_) (fun hb => ?_)) <;> conv => whnf) | ((with_reducible first | refine Run.drawX rfl (by decide +kernel) ?_ | refine Run.drawT rfl (by decide +kernel) ?_ | refine Run.drawW rfl (by decide +kernel) ?_); conv => whnf) | fail)
    · exact Run.leave (ts := [4]) (.inr ⟨_, rfl⟩) rfl Tryz.func142 rfl (Le.int (bad ⟨by omega, by omega⟩ (.inl ⟨hk, by simpa using hb⟩)).symm)
    · exact absurd hb (by omega)
    · obtain ⟨h1, h2⟩ := stp ⟨by omega, by omega⟩ (fun h => h.elim (fun h => absurd h.2 (by simp_all)) (fun h => absurd h.1 (by omega))) (by omega)
      refine Run.to _ _ ?_ ?_ (IH (k + 1) (by omega) ⟨by omega, h1, h2⟩)
      · exact ⟨Le.refl _, Le.refl _, Le.refl _, Le.int hw2, trivial⟩
      · exact trivial
  · rw [hw1] at *
    refine Run.callBX (between_fn (bt s (i + k)) 128 191) rfl rfl ⟨Le.int hbt, Le.refl _, Le.refl _, trivial⟩ rfl rfl rfl ?_
    (conv => whnf); repeat' (first | ((with_reducible refine Know.mk fun _ => ?_); conv => whnf) | ((with_reducible refine Need.mk ?_ ?_); exact nd; conv => whnf) | ((with_reducible first | refine Both.mk ?_ ?_ | refine Any.mk fun b hb => ?_ | refine AskB.dec (fun hb => ?_) (fun hb => ?_) | refine AskB.ndec (fun hb => ?_) (fun hb => ?_) | refine AskB.mk (fun hb => ?_) (fun hb => ?_)) <;> conv => whnf) | ((with_reducible first | refine Run.drawX rfl (by decide +kernel) ?_ | refine Run.drawT rfl (by decide +kernel) ?_ | refine Run.drawW rfl (by decide +kernel) ?_); conv => whnf) | fail)
    · obtain ⟨h1, h2⟩ := stp ⟨by omega, by omega⟩ (fun h => h.elim (fun h => absurd h.1 (by omega)) (fun h => h.2 hb)) (by omega)
      refine Run.to _ _ ?_ ?_ (IH (k + 1) (by omega) ⟨by omega, h1, h2⟩)
      · exact ⟨Le.refl _, Le.refl _, Le.refl _, Le.int hw2, trivial⟩
      · exact trivial
    · exact Run.leave (ts := [4]) (.inr ⟨_, rfl⟩) rfl Tryz.func142 rfl (Le.int (bad ⟨by omega, by omega⟩ (.inr ⟨by omega, hb⟩)).symm)
  · exact absurd hk1 (by omega)
  all_goals exact Run.leave (ts := [4]) (.inr ⟨_, rfl⟩) rfl Tryz.func142 rfl (Le.int (out (by omega)).symm)
end Go.Proofs.YteklnpgiloebcaaGreatDoor.V

