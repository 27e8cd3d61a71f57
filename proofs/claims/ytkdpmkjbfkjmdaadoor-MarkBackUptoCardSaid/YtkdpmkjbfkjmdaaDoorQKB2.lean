/-
The texts MD, Vt, BXo, ME, VJ, VP, VQ, VF, BNl, BKa, BNa, BNc, BKb, BNd, of each what the law needs.
-/
import Derived.Test.YtkdpmkjbfkjmdaaDoorQKB1
import Derived.Test.YtkdpmkjbfkjmdaaDoorRows
import Derived.ProofKit
import Derived.OpenShut
import Derived.ShutString
import Derived.ChangeOld
import Derived.SizedLaws
import Derived.JoinedCond
import Derived.ChangeArms
import Derived.Lib.Builder
import Derived.Laws.Externs
import Derived.Lib.UnsafeStr
import Derived.Lib.BufferRead
import Derived.Lib.Bytealg
import Derived.Laws.Small
import Derived.Laws.IdiomStrings
import Derived.Laws.AppendOwn
import Derived.Lib.TrimU
import Derived.Test.YtkdpmkjbfkjmdaaDoorProg
import Derived.Test.YtkdpmkjbfkjmdaaDoorCards
import Derived.Test.YtkdpmkjbfkjmdaaDoorTie
import Derived.Lib.LaidIn
import Derived.Lib.LaidU8
import Derived.Lay
import Derived.Deep.DeepHandedRow
import Derived.Deep.DeepWitnessRowRef
import Derived.Shelf.Strings.Builder1
import Derived.Shelf.Strings.Builder2
import Derived.Shelf.Strings.OnBuilder
import Derived.Shelf.Small.Strs
import Derived.Shelf.Strconv.Itoa0
import Derived.Shelf.Strconv.Itoa1
import Derived.Shelf.LaysM
import Derived.Shelf.Strconv.Itoa2
import Derived.Shelf.Strconv.Itoa3
import Derived.Shelf.Strings.Search1
import Derived.Defers
import Derived.Recover
import Derived.WideLaws
namespace Go.Proofs.YtkdpmkjbfkjmdaaDoor.V
set_option linter.unusedVariables false
set_option linter.unusedSimpArgs false
open Go Go.RowKit

/-- A store that turns one object and nothing else. -/
def astoreN (P : TT) (t : TypeId) (x y : AV) (h : Heap) (K : Nat → MO → Prop) (stop : Prop) : Prop :=
  match P.underlying t with
  | some _ => match cellsAV y with
    | some l => (match x with
      | .madr id i sz a b => match h id with
        | .mat e sz0 n get0 o ei szi len get hole => cond (Nat.beq l.length (P.cellsOf t) && Nat.ble (b + l.length) sz && l.all noRef)
            (K id (.mat e sz0 n get0 o ei szi len (updIn get i (updRow (get i) a b l)) hole)) stop
        | _ => stop
      | .box id off => match h id with
        | .box t' l0 => cond (Nat.beq l.length (P.cellsOf t)) (cond (Nat.ble (off + l.length) l0.length) (K id (.box t' (setL l0 off l))) stop) stop
        | _ => stop
      | .radr id sz i j => match h id with
        | .row e sz' n get => cond (Nat.beq l.length (P.cellsOf t)) (cond (Nat.ble (j + l.length) sz && l.all noRef) (K id (.row e sz' n (updRow get i j l))) stop) stop
        | _ => stop
      | _ => stop)
    | none => stop
  | none => stop

theorem astoreN_ok {T : TT} {t : TypeId} {x y : AV} {h : Heap} {K : Nat → MO → Prop} {stop : Prop} (hk : astoreN T t x y h K stop) :
    stop ∨ ∃ id m, K id m ∧ ∀ (env : Env) (K' : Env → Heap → Prop), K' env (upd h id m) → astoreA T t x y env h K' False := by
  unfold astoreN at hk
  split at hk
  · rename_i d hd
    split at hk
    · rename_i l hl
      split at hk
      · rename_i id i sz a b
        split at hk
        · rename_i e sz0 n get0 o ei szi len get hole hh
          cases hb : (Nat.beq l.length (T.cellsOf t) && Nat.ble (b + l.length) sz && l.all noRef) with
          | false => rw [hb] at hk; exact .inl hk
          | true =>
            rw [hb, cond_true] at hk
            exact .inr ⟨_, _, hk, fun env K' hK => by simp only [astoreA, isM, cond_true, astoreM, hd, hl, hh, hb]; exact hK⟩
        · exact .inl hk
      · rename_i id off
        split at hk
        · rename_i t' l0 hh
          cases hb : Nat.beq l.length (T.cellsOf t) with
          | false => rw [hb] at hk; exact .inl hk
          | true =>
            rw [hb, cond_true] at hk
            cases hb2 : Nat.ble (off + l.length) l0.length with
            | false => rw [hb2] at hk; exact .inl hk
            | true =>
              rw [hb2, cond_true] at hk
              exact .inr ⟨_, _, hk, fun env K' hK => by simp only [astoreA, isM, cond_false, astore, hd, hl, hh, hb, hb2, cond_true]; exact hK⟩
        · exact .inl hk
      · rename_i id sz i j
        split at hk
        · rename_i e sz' n get hh
          cases hb : Nat.beq l.length (T.cellsOf t) with
          | false => rw [hb] at hk; exact .inl hk
          | true =>
            rw [hb, cond_true] at hk
            cases hb2 : (Nat.ble (j + l.length) sz && l.all noRef) with
            | false => rw [hb2] at hk; exact .inl hk
            | true =>
              rw [hb2, cond_true] at hk
              exact .inr ⟨_, _, hk, fun env K' hK => by simp only [astoreA, isM, hh, cond_false, astore, hd, hl, hb, hb2, cond_true]; exact hK⟩
        · exact .inl hk
      · exact .inl hk
    · exact .inl hk
  · exact .inl hk

/-! ### what is asked of the list itself -/
def hasEdge (o : Oper) (j : Nat) : Bool := o.after.toList.any fun e => Region.binds .any e && Nat.beq e.on j
theorem hasEdge_ok {o : Oper} {j : Nat} (h : hasEdge o j = true) : ∃ e ∈ o.after, Region.binds .any e = true ∧ e.on = j := by
  obtain ⟨e, he, h3⟩ := List.any_eq_true.mp h
  rw [Bool.and_eq_true] at h3
  exact ⟨e, by simpa using he, h3.1, Nat.eq_of_beq_eq_true h3.2⟩

def drawStatW (ops : Array Oper) : Bool := (List.range ops.size).all fun i => match ops.toList[i]? with
  | none => false
  | some o => (o.after.toList.all fun e => !Region.binds .any e || Nat.blt e.on i) &&
    (((looks ops o).all fun s => (List.range ops.size).all fun j => match dstOf ops j with
      | some d => !(Nat.beq d s) || hasEdge o j
      | none => true) &&
    ((List.range ops.size).all fun j => Nat.beq j i || match dstOf ops j, o.dst with
      | some d, some d' => !(Nat.beq d d')
      | _, _ => true))

theorem Stat.ofW {ops : Array Oper} (hs : drawStatW ops = true) : Stat ops ops.size := by
  unfold drawStatW at hs
  have key : ∀ (i : Nat) o, ops[i]? = some o → (o.after.toList.all fun e => !Region.binds .any e || Nat.blt e.on i) = true ∧
    ((looks ops o).all fun s => (List.range ops.size).all fun j => match dstOf ops j with
      | some d => !(Nat.beq d s) || hasEdge o j
      | none => true) = true ∧
    ((List.range ops.size).all fun j => Nat.beq j i || match dstOf ops j, o.dst with
      | some d, some d' => !(Nat.beq d d')
      | _, _ => true) = true := by
    intro i o ho
    have hi : i < ops.size := (Array.getElem?_eq_some_iff.1 ho).1
    have := List.all_eq_true.mp hs i (List.mem_range.mpr hi)
    have ho' : ops.toList[i]? = some o := by simpa using ho
    rw [ho'] at this
    simpa only [Bool.and_eq_true] using this
  refine ⟨Nat.le_refl _, ?_, ?_, ?_, ?_⟩
  · intro i o ho e he hb
    have := List.all_eq_true.mp (key i o ho).1 e (by simpa using he)
    rw [hb] at this
    simpa [Nat.blt_eq] using this
  · intro i o hip ho s hs' j hjp hj
    have h1 := List.all_eq_true.mp (key i o ho).2.1 s hs'
    have h2 := List.all_eq_true.mp h1 j (List.mem_range.mpr hjp)
    rw [hj] at h2
    simp only [Nat.beq_refl, Bool.not_true, Bool.false_or] at h2
    exact hasEdge_ok h2
  · intro i j d hip hjp hi hj
    have hi' := hi
    unfold dstOf at hi'
    cases ho : ops.toList[i]? with
    | none => rw [ho] at hi'; cases hi'
    | some o =>
      rw [ho] at hi'
      have hd : o.dst = some d := hi'
      have h1 := List.all_eq_true.mp (key i o (by simpa using ho)).2.2 j (List.mem_range.mpr hjp)
      rw [hj, hd] at h1
      simp only [Nat.beq_refl, Bool.not_true, Bool.or_false] at h1
      exact (Nat.eq_of_beq_eq_true h1).symm
  · intro i o hip ho
    exact absurd (Array.getElem?_eq_some_iff.1 ho).1 (by omega)

/-! ### the walk, in the text's order -/
def isSt (o : Oper) : Option (TypeId × Operand × Operand) := match o.op, o.guard, o.dst with
  | .store t x y, none, none => some (t, x, y)
  | _, _, _ => none
theorem isSt_ok {o : Oper} {t : TypeId} {x y : Operand} (h : isSt o = some (t, x, y)) : o.op = .store t x y ∧ o.guard = none ∧ o.dst = none := by
  unfold isSt at h
  split at h
  · rename_i h1 h2 h3; cases h; exact ⟨h1, h2, h3⟩
  · cases h
def rdsOf (o : Oper) (env : Env) : List Nat := o.op.operands.toList.flatMap fun y => idOf (ev env y)
def rdsQ (o : Oper) (env : Env) : Option (List Nat) := match calls? o with
  | some _ => none
  | none => some (rdsOf o env)
def clear (id : Nat) : Option (List Nat) → Bool
  | some l => !memL id l
  | none => false
where memL (id : Nat) : List Nat → Bool
  | [] => false
  | x :: l => cond (Nat.beq id x) true (memL id l)
def okS (o : Oper) (id : Nat) (p : Nat × Option (List Nat)) : Bool := cond (hasEdge o p.1) true (clear id p.2)
def okQ (o : Oper) (rd : Option (List Nat)) (s : Nat × Nat) : Bool := cond (hasEdge o s.1) true (clear s.2 rd)

def aqW (C : Ctx) (ops : Array Oper) (k : List Item) : List Oper → Nat → Env → Heap → List (Nat × Option (List Nat)) → List (Nat × Nat) → Prop
  | [], _, env, h, _, _ => aexec C 400 k env h
  | o :: rest, i, env, h, past, sts => match isSt o with
    | some (t, x, y) => fv (ev env x) fun x => fv (ev env y) fun y => astoreN C.T t x y h (fun id m => cond (sts.all (fun s => hasEdge o s.1) && past.all (okS o id)) (aqW C ops k rest (i + 1) env (upd h id m) past ((i, id) :: sts)) False) False
    | none => withDst o fun dst => cond (okD C dst) (match o.guard with
      | none => cond (sts.all (okQ o (rdsQ o env))) (aqStep C h o dst env (fun env' => aqW C ops k rest (i + 1) env' h ((i, rdsQ o env) :: past) sts)) False
      | some (j, want) => match dstOf ops j with
        | some d => match env d with
          | .tt => cond want (cond (sts.all (okQ o (rdsQ o env))) (aqStep C h o dst env (fun env' => aqW C ops k rest (i + 1) env' h ((i, rdsQ o env) :: past) sts)) False) (aqW C ops k rest (i + 1) (putE env dst .sk) h ((i, some []) :: past) sts)
          | .ff => cond want (aqW C ops k rest (i + 1) (putE env dst .sk) h ((i, some []) :: past) sts) (cond (sts.all (okQ o (rdsQ o env))) (aqStep C h o dst env (fun env' => aqW C ops k rest (i + 1) env' h ((i, rdsQ o env) :: past) sts)) False)
          | .sk => aqW C ops k rest (i + 1) (putE env dst .sk) h ((i, some []) :: past) sts
          | _ => False
        | none => False) False

/-! ### what the walk says, whatever the order -/
inductive Rec where
  | st (id : Nat)
  | q (rd : Option (List Nat))

def StSem (C : Ctx) (h h' : Heap) (t : TypeId) (x y : Operand) (E : Env) : Prop :=
  ∀ env ι a w, Rel C env h ι a w → VR w (okB C h ι w) (ev E x) (rf h ι) (a.eval x) → VR w (okB C h ι w) (ev E y) (rf h ι) (a.eval y) →
    ∃ w' ι', (Instr.storeAt t (a.eval x) (a.eval y)).run C.P w = .ok () w' ∧ Rel C env h' ι' a w'

def OpW (C : Ctx) (ops : Array Oper) (E : Env) (Hs : Nat → Heap) (rec : Nat → Rec) (j : Nat) : Prop :=
  ∃ o, ops[j]? = some o ∧ match rec j with
    | .st id => o.dst = none ∧ (∃ m, Hs (j + 1) = upd (Hs j) id m) ∧ ∃ t x y, o.op = .store t x y ∧ o.guard = none ∧ StSem C (Hs j) (Hs (j + 1)) t x y E
    | .q rd => okD C o.dst = true ∧ Hs (j + 1) = Hs j ∧
      ((GuardSem ops E o true ∧ ∃ x, (∀ h', (∀ id, clear id rd = false → h' id = Hs j id) → Quiet C h' o (ev E) x) ∧ ∀ d, o.dst = some d → Le x (E d)) ∨ (GuardSem ops E o false ∧ ∀ d, o.dst = some d → Le .sk (E d)))

def Pair (o : Oper) (j' : Nat) : Rec → Rec → Bool
  | .st _, .st _ => hasEdge o j'
  | .st id, .q rd => okS o id (j', rd)
  | .q rd, .st id => okQ o rd (j', id)
  | .q _, .q _ => true

theorem memL_flat {id : Nat} {l : List Nat} (h : id ∈ l) : clear.memL id l = true := by
  induction l with
  | nil => cases h
  | cons x l ih =>
    unfold clear.memL
    cases hb : Nat.beq id x with
    | true => rfl
    | false =>
      rcases List.mem_cons.mp h with e | h'
      · subst e; rw [Nat.beq_refl] at hb; cases hb
      · exact ih h'

section
variable {C : Ctx} {ops : Array Oper}

theorem aqW_ok (S : Stat ops ops.size) {k : List Item} : ∀ (idxs : List Oper) (i : Nat), i + idxs.length = ops.size → idxs = ops.toList.drop i → ∀ (env : Env) (h : Heap) (ι : Loc) (a : Act) (w : World) past sts, Rel C env h ι a w → aqW C ops k idxs i env h past sts →
    ∃ E Hs rec, Hs i = h ∧ aexec C 400 k E (Hs ops.size) ∧ (∀ s, (∀ j, i ≤ j → j < ops.size → dstOf ops j ≠ some s) → Eqv (env s) (E s)) ∧
      ∀ j, i ≤ j → j < ops.size → OpW C ops E Hs rec j ∧ ∀ o, ops[j]? = some o → (∀ s ∈ sts, Pair o s.1 (rec j) (.st s.2) = true) ∧ (∀ p ∈ past, Pair o p.1 (rec j) (.q p.2) = true) ∧ ∀ j', i ≤ j' → j' < j → Pair o j' (rec j) (rec j') = true := by
  intro idxs
  induction idxs with
  | nil =>
    intro i hlen hl env h ι a w past sts R hq
    refine ⟨env, fun _ => h, fun _ => .st 0, rfl, hq, fun s _ => Eqv.refl _, fun j h1 h2 => ?_⟩
    simp at hlen; omega
  | cons o rest ih =>
    intro i hlen hl env h ι a w past sts R hq
    have hilt : i < ops.toList.length := by
      rcases Nat.lt_or_ge i ops.toList.length with h' | h'
      · exact h'
      · rw [List.drop_eq_nil_of_le h'] at hl; cases hl
    rw [List.drop_eq_getElem_cons hilt] at hl
    injection hl with e1 e2
    have hip : i < ops.size := by simpa using hilt
    have ho : ops.toList[i]? = some o := by rw [List.getElem?_eq_getElem hilt, ← e1]
    have ho' : ops[i]? = some o := by simpa using ho
    have hdsti : dstOf ops i = o.dst := by unfold dstOf; rw [ho]; rfl
    have hlen' : (i + 1) + rest.length = ops.size := by simp at hlen; omega
    have hfree : ∀ s ∈ looks ops o, ∀ j, i ≤ j → j < ops.size → dstOf ops j ≠ some s := by
      intro s hs j hij hjp e
      obtain ⟨ed, h1, h2, h3⟩ := S.look i o hip ho' s hs j hjp e
      have := S.edge i o ho' ed h1 h2
      omega
    -- what is known behind this statement is known with it
    have lift : ∀ (r : Rec) (h' : Heap) (E : Env) (Hs : Nat → Heap) (rec : Nat → Rec) (past' : List (Nat × Option (List Nat))) (sts' : List (Nat × Nat)),
        (match r with | .st id => past' = past ∧ sts' = (i, id) :: sts | .q rd => past' = (i, rd) :: past ∧ sts' = sts) → Hs (i + 1) = h' → aexec C 400 k E (Hs ops.size) →
        OpW C ops E (fun j => if j ≤ i then h else Hs j) (fun j => if j = i then r else rec j) i →
        (∀ s ∈ sts, Pair o s.1 r (.st s.2) = true) → (∀ p ∈ past, Pair o p.1 r (.q p.2) = true) →
        (∀ s, (∀ j, i ≤ j → j < ops.size → dstOf ops j ≠ some s) → Eqv (env s) (E s)) →
        (∀ j, i + 1 ≤ j → j < ops.size → OpW C ops E Hs rec j ∧ ∀ o, ops[j]? = some o → (∀ s ∈ sts', Pair o s.1 (rec j) (.st s.2) = true) ∧ (∀ p ∈ past', Pair o p.1 (rec j) (.q p.2) = true) ∧ ∀ j', i + 1 ≤ j' → j' < j → Pair o j' (rec j) (rec j') = true) →
        ∃ E Hs rec, Hs i = h ∧ aexec C 400 k E (Hs ops.size) ∧ (∀ s, (∀ j, i ≤ j → j < ops.size → dstOf ops j ≠ some s) → Eqv (env s) (E s)) ∧
          ∀ j, i ≤ j → j < ops.size → OpW C ops E Hs rec j ∧ ∀ o, ops[j]? = some o → (∀ s ∈ sts, Pair o s.1 (rec j) (.st s.2) = true) ∧ (∀ p ∈ past, Pair o p.1 (rec j) (.q p.2) = true) ∧ ∀ j', i ≤ j' → j' < j → Pair o j' (rec j) (rec j') = true := by
      intro r h' E Hs rec past' sts' hps hH hE hop hs0 hp0 hE1 hall
      refine ⟨E, fun j => if j ≤ i then h else Hs j, fun j => if j = i then r else rec j, if_pos (Nat.le_refl _), ?_, hE1, fun j h1 h2 => ?_⟩
      · show aexec C 400 k E (if ops.size ≤ i then h else Hs ops.size)
        rw [if_neg (by omega)]; exact hE
      · by_cases hji : j = i
        · subst hji
          refine ⟨hop, fun o2 ho2 => ?_⟩
          rw [ho'] at ho2; cases ho2
          simp only [if_true]
          exact ⟨hs0, hp0, fun j' h3 h4 => by omega⟩
        · obtain ⟨⟨o1, h5, h6⟩, h7⟩ := hall j (by omega) h2
          refine ⟨⟨o1, h5, ?_⟩, fun o2 ho2 => ?_⟩
          · simp only [if_neg hji, show ¬ j ≤ i by omega, show ¬ j + 1 ≤ i by omega, if_false]; exact h6
          · obtain ⟨h8, h9, h10⟩ := h7 o2 ho2
            simp only [if_neg hji]
            refine ⟨?_, ?_, fun j' h3 h4 => ?_⟩
            · cases r with
              | st id => rw [hps.2] at h8; exact fun s hs => h8 s (List.mem_cons_of_mem _ hs)
              | q rd => rw [hps.2] at h8; exact h8
            · cases r with
              | st id => rw [hps.1] at h9; exact h9
              | q rd => rw [hps.1] at h9; exact fun p hp => h9 p (List.mem_cons_of_mem _ hp)
            · by_cases hj' : j' = i
              · subst hj'
                simp only [if_true]
                cases r with
                | st id => rw [hps.2] at h8; exact h8 (_, _) (List.mem_cons_self ..)
                | q rd => rw [hps.1] at h9; exact h9 (_, _) (List.mem_cons_self ..)
              · rw [if_neg hj']; exact h10 j' (by omega) h4
    unfold aqW at hq
    cases hst : isSt o with
    | some txy =>
      obtain ⟨t, x, y⟩ := txy
      rw [hst] at hq
      simp only [fv_eq] at hq
      obtain ⟨hop, hg, hd⟩ := isSt_ok hst
      rcases astoreN_ok hq with hf | ⟨id, m, hk, hsto⟩
      · exact hf.elim
      · cases hb : (sts.all (fun s => hasEdge o s.1) && past.all (okS o id)) with
        | false => rw [hb] at hk; exact hk.elim
        | true =>
          rw [hb, cond_true] at hk
          rw [Bool.and_eq_true] at hb
          have hsem : ∀ E : Env, Le (ev E x) (ev env x) → Le (ev E y) (ev env y) → StSem C h (upd h id m) t x y E := by
            intro E hx hy env1 ι1 a1 w1 R1 h1 h2
            rcases astoreA_ok R1 (hx _ _ _ _ h1) (hy _ _ _ _ h2) (hsto env1 (fun env' h' => env' = env1 ∧ h' = upd h id m) ⟨rfl, rfl⟩) with hf | ⟨w', env', h', ι', hr, R', he1, he2⟩
            · exact hf.elim
            · subst he1; subst he2; exact ⟨w', ι', hr, R'⟩
          obtain ⟨w', ι', hr, R'⟩ := hsem env (Le.refl _) (Le.refl _) env ι a w R (ev_ok R x) (ev_ok R y)
          obtain ⟨E, Hs, rec, hH, hE, hE1, hall⟩ := ih (i + 1) hlen' e2 env (upd h id m) ι' a w' past ((i, id) :: sts) R' hk
          have hE2 : ∀ s, (∀ j, i ≤ j → j < ops.size → dstOf ops j ≠ some s) → Eqv (env s) (E s) := fun s hs => hE1 s fun j h1 h2 => hs j (by omega) h2
          have hlook : ∀ z, z ∈ o.op.operands → Le (ev E z) (ev env z) := by
            intro z hz
            cases z with
            | tmp s => exact (hE2 s (fun j h1 h2 => hfree s (looks_tmp hz) j h1 h2)).2
            | const v => exact Le.refl _
            | global g => exact Le.refl _
            | func f => exact Le.refl _
          refine lift (.st id) (upd h id m) E Hs rec past ((i, id) :: sts) ⟨rfl, rfl⟩ hH hE ?_ (fun s hs => List.all_eq_true.mp hb.1 s hs) (fun p hp => List.all_eq_true.mp hb.2 p hp) hE2 hall
          refine ⟨o, ho', ?_⟩
          simp only [if_true, Nat.le_refl, show ¬ i + 1 ≤ i by omega, if_false]
          refine ⟨hd, ⟨m, hH⟩, t, x, y, hop, hg, ?_⟩
          rw [hH]
          exact hsem E (hlook x (by rw [hop]; simp [Op.operands])) (hlook y (by rw [hop]; simp [Op.operands]))
    | none =>
      rw [hst] at hq
      simp only at hq
      rw [withDst_eq] at hq
      cases hd : okD C o.dst with
      | false => rw [hd] at hq; exact hq.elim
      | true =>
        rw [hd, cond_true] at hq
        have hput : ∀ (x : AV) s, (∀ d, o.dst = some d → s ≠ d) → putE env o.dst x s = env s := by
          intro x s hs
          cases hq : o.dst with
          | none => rfl
          | some d => exact upd_other _ _ (hs d hq)
        have step : (∀ E, (∀ s, s ∈ looks ops o → Eqv (env s) (E s)) → GuardSem ops E o true) → (Region.wanted o (yielded ops a.tmps) = true) →
            cond (sts.all (okQ o (rdsQ o env))) (aqStep C h o o.dst env (fun env' => aqW C ops k rest (i + 1) env' h ((i, rdsQ o env) :: past) sts)) False →
            ∃ E Hs rec, Hs i = h ∧ aexec C 400 k E (Hs ops.size) ∧ (∀ s, (∀ j, i ≤ j → j < ops.size → dstOf ops j ≠ some s) → Eqv (env s) (E s)) ∧
              ∀ j, i ≤ j → j < ops.size → OpW C ops E Hs rec j ∧ ∀ o, ops[j]? = some o → (∀ s ∈ sts, Pair o s.1 (rec j) (.st s.2) = true) ∧ (∀ p ∈ past, Pair o p.1 (rec j) (.q p.2) = true) ∧ ∀ j', i ≤ j' → j' < j → Pair o j' (rec j) (rec j') = true := by
          intro hguard hwant hstep
          cases hb : sts.all (okQ o (rdsQ o env)) with
          | false => rw [hb] at hstep; exact hstep.elim
          | true =>
            rw [hb, cond_true] at hstep
            have hx : ∃ x, aqW C ops k rest (i + 1) (putE env o.dst x) h ((i, rdsQ o env) :: past) sts ∧ ∀ h', (∀ id, clear id (rdsQ o env) = false → h' id = h id) → Quiet C h' o (ev env) x := by
              unfold aqStep at hstep
              unfold rdsQ at hstep ⊢
              split at hstep
              · rename_i cc hcc
                rw [hcc] at hstep ⊢
                obtain ⟨x, h1, h2⟩ := hstep.out
                exact ⟨x, h1, fun h' hag => by
                  have : h' = h := funext fun id => hag id rfl
                  rw [this]; exact h2⟩
              · rename_i hcc
                rw [hcc] at hstep ⊢
                rcases qop_quietR R (fun y _ => ev_ok R y) hstep with hf | ⟨x, h1, h2⟩
                · exact hf.elim
                · refine ⟨x, (fv_eq _ _).mp h1, fun h' hag => h2 h' fun y hy id hid => hag id ?_⟩
                  simp only [clear]
                  have hmem : clear.memL id (rdsOf o env) = true := memL_flat (List.mem_flatMap.mpr ⟨y, by simpa using hy, hid⟩)
                  rw [hmem]; rfl
            obtain ⟨x, hk, hqx⟩ := hx
            obtain ⟨v, w2, ι2, _, R2, hv⟩ := hqx h (fun _ _ => rfl) env ι a w R (fun y _ => ev_ok R y) default [] [] ops i [] ho' hwant
            obtain ⟨E, Hs, rec, hH, hE, hE1, hall⟩ := ih (i + 1) hlen' e2 _ h ι2 _ w2 _ _ (R2.put hv hd) hk
            have hE2 : ∀ s, (∀ j, i ≤ j → j < ops.size → dstOf ops j ≠ some s) → Eqv (env s) (E s) := fun s hs => by
              have h3 := hE1 s fun j h1 h2 => hs j (by omega) h2
              rw [hput x s (fun d hd' e => hs i (Nat.le_refl _) hip (by rw [hdsti, hd', e]))] at h3
              exact h3
            have hlook : ∀ s ∈ looks ops o, Eqv (env s) (E s) := fun s hs => hE2 s (hfree s hs)
            refine lift (.q (rdsQ o env)) h E Hs rec _ _ ⟨rfl, rfl⟩ hH hE ?_ (fun s hs => List.all_eq_true.mp hb s hs) (fun p hp => rfl) hE2 hall
            refine ⟨o, ho', ?_⟩
            simp only [if_true, Nat.le_refl, show ¬ i + 1 ≤ i by omega, if_false]
            refine ⟨hd, hH, .inl ⟨hguard E hlook, x, fun h' hag => (hqx h' hag).congr (fun s hs => (hlook s (looks_tmp hs)).2), fun d hd' => ?_⟩⟩
            have h3 := hE1 d (fun j' hj' hjp' e => by
              have := S.one _ _ _ hjp' hip e (hdsti.trans hd')
              omega)
            rw [hd'] at h3
            simp only [putE, upd_same] at h3
            exact h3.1
        have skip : (∀ E, (∀ s, s ∈ looks ops o → Eqv (env s) (E s)) → GuardSem ops E o false) → aqW C ops k rest (i + 1) (putE env o.dst .sk) h ((i, some []) :: past) sts →
            ∃ E Hs rec, Hs i = h ∧ aexec C 400 k E (Hs ops.size) ∧ (∀ s, (∀ j, i ≤ j → j < ops.size → dstOf ops j ≠ some s) → Eqv (env s) (E s)) ∧
              ∀ j, i ≤ j → j < ops.size → OpW C ops E Hs rec j ∧ ∀ o, ops[j]? = some o → (∀ s ∈ sts, Pair o s.1 (rec j) (.st s.2) = true) ∧ (∀ p ∈ past, Pair o p.1 (rec j) (.q p.2) = true) ∧ ∀ j', i ≤ j' → j' < j → Pair o j' (rec j) (rec j') = true := by
          intro hguard hk
          obtain ⟨E, Hs, rec, hH, hE, hE1, hall⟩ := ih (i + 1) hlen' e2 _ h ι _ w _ _ (R.put (x := .sk) (v := undef) rfl hd) hk
          have hE2 : ∀ s, (∀ j, i ≤ j → j < ops.size → dstOf ops j ≠ some s) → Eqv (env s) (E s) := fun s hs => by
            have h3 := hE1 s fun j h1 h2 => hs j (by omega) h2
            rw [hput .sk s (fun d hd' e => hs i (Nat.le_refl _) hip (by rw [hdsti, hd', e]))] at h3
            exact h3
          have hlook : ∀ s ∈ looks ops o, Eqv (env s) (E s) := fun s hs => hE2 s (hfree s hs)
          refine lift (.q (some [])) h E Hs rec _ _ ⟨rfl, rfl⟩ hH hE ?_ (fun s hs => by
            show okQ o (some []) (s.1, s.2) = true
            unfold okQ; cases hasEdge o s.1 <;> rfl) (fun p hp => rfl) hE2 hall
          refine ⟨o, ho', ?_⟩
          simp only [if_true, Nat.le_refl, show ¬ i + 1 ≤ i by omega, if_false]
          refine ⟨hd, hH, .inr ⟨hguard E hlook, fun d hd' => ?_⟩⟩
          have h3 := hE1 d (fun j' hj' hjp' e => by
            have := S.one _ _ _ hjp' hip e (hdsti.trans hd')
            omega)
          rw [hd'] at h3
          simp only [putE, upd_same] at h3
          exact h3.1
        split at hq
        · rename_i hg
          exact step (fun E _ => by unfold GuardSem; rw [hg]) (wanted_none hg _) hq
        · rename_i j want hg
          split at hq
          · rename_i d hj
            have hgs : ∀ (b : Bool), (∀ w ok r v, VR w ok (env d) r v → v = .bool b) → ∀ E, (∀ s, s ∈ looks ops o → Eqv (env s) (E s)) → GuardSem ops E o (b == want) := by
              intro b hb E hE
              unfold GuardSem
              rw [hg]
              exact ⟨d, hj, .inl ⟨b, fun w ok r v hv => hb w ok r v ((hE d (looks_guard hg hj)).2 _ _ _ _ hv), rfl⟩⟩
            have hwt : ∀ (b : Bool), (∀ w ok r v, VR w ok (env d) r v → v = .bool b) → Region.wanted o (yielded ops a.tmps) = (b == want) := by
              intro b hb
              have hv := hb _ _ _ _ (R.env d)
              have hy : yielded ops a.tmps j = some b := by
                have hj' : (ops[j]?).bind (·.dst) = some d := by unfold dstOf at hj; simpa using hj
                unfold yielded
                rw [hj']
                rw [Array.getD_eq_getD_getElem?] at hv
                simp only [Option.bind_some]
                cases hq2 : a.tmps[d]? with
                | none => rw [hq2] at hv; cases hv
                | some u => rw [hq2] at hv; simp only [Option.getD_some] at hv; subst hv; rfl
              exact wanted_some hg hy
            split at hq
            · rename_i e
              have hb : ∀ w ok r v, VR w ok (env d) r v → v = .bool true := by intro w ok r v hv; rw [e] at hv; exact hv
              cases want with
              | true => exact step (hgs true hb) (hwt true hb) hq
              | false => exact skip (hgs true hb) hq
            · rename_i e
              have hb : ∀ w ok r v, VR w ok (env d) r v → v = .bool false := by intro w ok r v hv; rw [e] at hv; exact hv
              cases want with
              | true => exact skip (hgs false hb) hq
              | false => exact step (hgs false hb) (hwt false hb) hq
            · rename_i e
              refine skip (fun E hE => ?_) hq
              unfold GuardSem
              rw [hg]
              refine ⟨d, hj, .inr ⟨fun w ok r v hv => ?_, rfl⟩⟩
              have := (hE d (looks_guard hg hj)).2 _ _ _ _ hv
              rw [e] at this; exact this
            · exact hq.elim
          · exact hq.elim

/-! ### in any order -/
theorem same_heap {E : Env} {Hs : Nat → Heap} {rec : Nat → Rec} (hall : ∀ j, j < ops.size → OpW C ops E Hs rec j) {id : Nat} {b : Nat} : ∀ (d : Nat), b + d ≤ ops.size → (∀ j, b ≤ j → j < b + d → rec j ≠ .st id) → Hs (b + d) id = Hs b id
  | 0, _, _ => rfl
  | d + 1, hb, hn => by
    rw [← same_heap hall d (by omega) (fun j h1 h2 => hn j h1 (by omega))]
    obtain ⟨o, ho, hj⟩ := hall (b + d) (by omega)
    have hne := hn (b + d) (by omega) (by omega)
    show Hs (b + d + 1) id = _
    split at hj
    · rename_i id' hr
      obtain ⟨_, ⟨m, hm⟩, _⟩ := hj
      rw [hm, upd_other]
      rintro rfl
      exact hne hr
    · rw [hj.2.1]

theorem anyW_ok (S : Stat ops ops.size) {k : List Item} {E : Env} {Hs : Nat → Heap} {rec : Nat → Rec} (hall : ∀ j, j < ops.size → OpW C ops E Hs rec j)
    (hpair : ∀ j o, ops[j]? = some o → ∀ j', j' < j → Pair o j' (rec j) (rec j') = true) (next : aexec C 400 k E (Hs ops.size)) :
    ∀ (l : List Nat) (listed : Array Bool) (b : Nat), listed.size = ops.size → b ≤ ops.size → (∀ j id, j < ops.size → rec j = .st id → (listed.getD j true = true ↔ j < b)) →
      (∀ j o, ops[j]? = some o → listed.getD j true = true → ∀ e ∈ o.after, Region.binds .any e = true → listed.getD e.on true = true) →
      Sched ops listed l → Run C (.inRegion ops l :: k) (envX ops ops.size E listed) (Hs b) := by
  intro l
  induction l with
  | nil =>
    intro listed b hsz hb hst hcl hs
    have e : Hs b = Hs ops.size := by
      funext id
      have := same_heap hall (id := id) (b := b) (ops.size - b) (by omega) (fun j h1 h2 hr => by
        have := (hst j id (by omega) hr).mp (hs j (by omega))
        omega)
      rw [show b + (ops.size - b) = ops.size by omega] at this
      exact this.symm
    rw [e]
    refine Run.weaken (env' := E) (fun s => ?_) (fun _ => MOle.refl _) (Run.quiet (fun b a cs w => step_region_end) (aexec_ok 400 next))
    unfold envX
    rw [unl_false (fun j hj _ => hs j hj)]
    exact Le.refl _
  | cons i rest ih =>
    intro listed b hsz hb hst hcl hs
    obtain ⟨hip, hil, hpre, hs'⟩ := hs
    obtain ⟨o, ho, hsem⟩ := hall i hip
    have hdsti : dstOf ops i = o.dst := by unfold dstOf; rw [show ops.toList[i]? = some o by simpa using ho]; rfl
    have hpre2 : ∀ e ∈ o.after, Region.binds .any e = true → listed.getD e.on true = true := fun e he hbi => by
      have := hpre o ho e he hbi
      have h3 := S.edge i o ho e he hbi
      rw [getD_two (b := false) (by omega)]; exact this
    have hlk : ∀ s ∈ looks ops o, envX ops ops.size E listed s = E s := by
      intro s hs2
      unfold envX
      rw [unl_false (fun j hjp hj => ?_)]
      · rfl
      · obtain ⟨e, h1, h2, h3⟩ := S.look i o hip ho s hs2 j hjp hj
        rw [← h3]; exact hpre2 e h1 h2
    have hcl' : ∀ j o, ops[j]? = some o → (listed.setIfInBounds i true).getD j true = true → ∀ e ∈ o.after, Region.binds .any e = true → (listed.setIfInBounds i true).getD e.on true = true := by
      intro j o2 ho2 hj e he hbi
      rw [getD_set] at hj ⊢
      split
      · rfl
      · by_cases hij : i = j
        · subst hij
          rw [ho] at ho2; cases ho2
          exact hpre2 e he hbi
        · rw [if_neg hij] at hj
          exact hcl j o2 ho2 hj e he hbi
    split at hsem
    · -- a store
      rename_i id hr
      obtain ⟨hd, ⟨m, hm⟩, t, x, y, hop, hg, hsto⟩ := hsem
      have hbi : b ≤ i := by
        rcases Nat.lt_or_ge i b with h | h
        · have := (hst i id hip hr).mpr h; rw [hil] at this; cases this
        · exact h
      have hno : ∀ j id', b ≤ j → j < i → rec j ≠ .st id' := by
        intro j id' h1 h2 hr'
        have hp := hpair i o ho j h2
        rw [hr, hr'] at hp
        obtain ⟨e, he, h3, h4⟩ := hasEdge_ok hp
        have := hpre2 e he h3
        rw [h4] at this
        have := (hst j id' (by omega) hr').mp this
        omega
      have hHb : Hs b = Hs i := by
        funext id'
        have := same_heap hall (id := id') (b := b) (i - b) (by omega) (fun j h1 h2 => hno j id' h1 (by omega))
        rw [show b + (i - b) = i by omega] at this
        exact this.symm
      have hrec := ih (listed.setIfInBounds i true) (i + 1) (by simpa using hsz) (by omega) (fun j id' hj hr' => by
        rw [getD_set]
        by_cases hij : i = j
        · subst hij; simp
        · rw [if_neg hij]
          rcases Nat.lt_or_ge j b with h1 | h1
          · have := (hst j id' hj hr').mpr h1
            rw [this]; simp; omega
          · rcases Nat.lt_or_ge j i with h2 | h2
            · exact absurd hr' (hno j id' h1 h2)
            · have : ¬ listed.getD j true = true := fun h3 => by have := (hst j id' hj hr').mp h3; omega
              simp only [this, Bool.false_eq_true, false_iff]; omega) hcl' hs'
      refine Run.of_step fun ι a w fb cs _ R => ?_
      rw [hHb] at R
      have hev : ∀ z, z ∈ o.op.operands → VR w (okB C (Hs i) ι w) (ev E z) (rf (Hs i) ι) (a.eval z) := by
        intro z hz
        have := ev_ok R z
        cases z with
        | tmp s => have e : ev (envX ops ops.size E listed) (.tmp s) = ev E (.tmp s) := hlk s (looks_tmp hz)
                   rw [e] at this; exact this
        | const v => exact this
        | global g => exact this
        | func f => exact this
      obtain ⟨w', ι', hrun, R'⟩ := hsto _ ι a w R (hev x (by rw [hop]; simp [Op.operands])) (hev y (by rw [hop]; simp [Op.operands]))
      have hst := step_op_ok (P := C.P) (b := fb) (k := k) (cs := cs) (rest := rest) (nx := .skip) (v := undef) (a := a) (w := w) (w' := w') ho (wanted_none hg _) (by simp [execOp, hop, hrun]) (.inr ⟨rfl, rfl⟩)
      rw [hd] at hst
      refine ⟨_, _, ι', a, w', _, .one hst, R'.weaken (fun s => ?_) (fun _ => MOle.refl _), hrec⟩
      have : unl ops ops.size (listed.setIfInBounds i true) s = unl ops ops.size listed s := by
        unfold unl
        congr 1
        funext j
        rw [getD_set]
        by_cases hij : i = j
        · subst hij; rw [hdsti, hd]; simp
        · rw [if_neg hij]
      unfold envX
      rw [this]; exact Le.refl _
    · -- a look
      rename_i rd hr
      obtain ⟨hd, _, hsem⟩ := hsem
      have hrec := ih (listed.setIfInBounds i true) b (by simpa using hsz) hb (fun j id' hj hr' => by
        rw [getD_set, if_neg (fun e => by subst e; rw [hr] at hr'; cases hr')]
        exact hst j id' hj hr') hcl' hs'
      have hagree : ∀ id, clear id rd = false → Hs b id = Hs i id := by
        intro id hid
        rcases Nat.lt_or_ge i b with h | h
        · have := same_heap hall (id := id) (b := i) (b - i) (by omega) (fun j h1 h2 hr' => by
            have hji : i < j := by
              rcases Nat.lt_or_ge i j with h3 | h3
              · exact h3
              · have : j = i := by omega
                subst this; rw [hr] at hr'; cases hr'
            have hjl := (hst j id (by omega) hr').mpr (by omega)
            obtain ⟨oj, hoj⟩ : ∃ oj, ops[j]? = some oj := ⟨_, Array.getElem?_eq_getElem (by omega)⟩
            have hp := hpair j oj hoj i hji
            rw [hr, hr'] at hp
            have hp : cond (hasEdge oj i) true (clear id rd) = true := hp
            cases he : hasEdge oj i with
            | true =>
              obtain ⟨e, h4, h5, h6⟩ := hasEdge_ok he
              have := hcl j oj hoj hjl e h4 h5
              rw [h6, hil] at this; cases this
            | false => rw [he, cond_false, hid] at hp; cases hp)
          rw [show i + (b - i) = b by omega] at this
          exact this
        · have := same_heap hall (id := id) (b := b) (i - b) (by omega) (fun j h1 h2 hr' => by
            have hp := hpair i o ho j (by omega)
            rw [hr, hr'] at hp
            have hp : cond (hasEdge o j) true (clear id rd) = true := hp
            cases he : hasEdge o j with
            | true =>
              obtain ⟨e, h4, h5, h6⟩ := hasEdge_ok he
              have := hpre2 e h4 h5
              rw [h6] at this
              have := (hst j id (by omega) hr').mp this
              omega
            | false => rw [he, cond_false, hid] at hp; cases hp)
          rw [show b + (i - b) = i by omega] at this
          exact this.symm
      have hw : ∀ (want' : Bool), GuardSem ops E o want' → ∀ ι a w, Rel C (envX ops ops.size E listed) (Hs b) ι a w → Region.wanted o (yielded ops a.tmps) = want' := by
        intro want' hgs ι a w R
        unfold GuardSem at hgs
        split at hgs
        · rename_i hg; rw [hgs]; exact wanted_none hg _
        · rename_i j want hg
          obtain ⟨d, hj, hbb⟩ := hgs
          have hv := R.env d
          rw [hlk d (looks_guard hg hj)] at hv
          rcases hbb with ⟨b, hb, rfl⟩ | ⟨hb, rfl⟩
          · have hv := hb _ _ _ _ hv
            have hy : yielded ops a.tmps j = some b := by
              have hj' : (ops[j]?).bind (·.dst) = some d := by unfold dstOf at hj; simpa using hj
              unfold yielded
              rw [hj']
              rw [Array.getD_eq_getD_getElem?] at hv
              simp only [Option.bind_some]
              cases hq2 : a.tmps[d]? with
              | none => rw [hq2] at hv; cases hv
              | some u => rw [hq2] at hv; simp only [Option.getD_some] at hv; subst hv; rfl
            exact wanted_some hg hy
          · exact wanted_sk hg (yield_sk hj (hb _ _ _ _ hv))
      have hle : ∀ (x : AV), (∀ d, o.dst = some d → Le x (E d)) → ∀ s, Le (putE (envX ops ops.size E listed) o.dst x s) (envX ops ops.size E (listed.setIfInBounds i true) s) := by
        intro x hx s
        by_cases hsd : o.dst = some s
        · rw [hsd]
          simp only [putE, upd_same]
          unfold envX
          cases unl ops ops.size (listed.setIfInBounds i true) s with
          | true => exact Le.u _
          | false => exact hx s hsd
        · have e1 : putE (envX ops ops.size E listed) o.dst x s = envX ops ops.size E listed s := by
            cases hq : o.dst with
            | none => rfl
            | some d => exact upd_other _ _ (fun e => hsd (by rw [hq, e]))
          rw [e1]
          unfold envX
          cases hu : unl ops ops.size (listed.setIfInBounds i true) s with
          | true => exact Le.u _
          | false =>
            have : unl ops ops.size listed s = false := by
              refine unl_false fun j hjp hj => ?_
              unfold unl at hu
              rw [List.any_eq_false] at hu
              have := hu j (List.mem_range.mpr hjp)
              simp only [hj, beq_self_eq_true, Bool.and_true, Bool.not_eq_true, Bool.not_eq_false'] at this
              rw [getD_set] at this
              by_cases hij : i = j
              · subst hij; exact absurd (hdsti ▸ hj) hsd
              · rwa [if_neg hij] at this
            rw [this]; exact Le.refl _
      rcases hsem with ⟨hgs, x, hq, hx⟩ | ⟨hgs, hx⟩
      · refine Run.of_step fun ι a w fb cs _ R => ?_
        obtain ⟨v, w', ι', hst, R', hv⟩ := hq (Hs b) hagree _ ι a w R (fun y hy => by
          have := ev_ok R y
          cases y with
          | tmp s => have e : ev (envX ops ops.size E listed) (.tmp s) = ev E (.tmp s) := hlk s (looks_tmp hy)
                     rw [e] at this; exact this
          | const v => exact this
          | global g => exact this
          | func f => exact this) fb k cs ops i rest ho (hw true hgs ι a w R)
        exact ⟨_, Hs b, ι', _, w', _, hst, (R'.put hv hd).weaken (hle x hx) (fun _ => MOle.refl _), hrec⟩
      · exact skip_ok ho hd (hw false hgs) (Run.weaken (hle .sk hx) (fun _ => MOle.refl _) hrec)

def drawStatWX (ops : Array Oper) : Bool := drawStatW ops && ops.toList.all fun o => !memOp o
theorem Run.drawW {id : Nat} {k : List Item} {env : Env} {h : Heap} (hm : C.P.follows .mixedOrders = true) (hsx : drawStatWX ops = true) (hq : aqW C ops k ops.toList 0 env h [] []) :
    Run C (.code (.region id ops true) :: k) env h := by
  have S := Stat.ofW (by unfold drawStatWX at hsx; rw [Bool.and_eq_true] at hsx; exact hsx.1)
  refine ⟨fun ι a w b cs hb hkd R => ?_⟩
  obtain ⟨E, Hs, rec, hH, hE, hE1, hall⟩ := aqW_ok S ops.toList 0 (by simp) (by simp) env h ι a w [] [] R hq
  have hf : ∀ j, j < ops.size → (Array.replicate ops.size false).getD j true = false := fun j hj => by simp [hj]
  have hrun := anyW_ok S (fun j hj => (hall j (Nat.zero_le _) hj).1) (fun j o ho j' hj' => ((hall j (Nat.zero_le _) (Array.getElem?_eq_some_iff.1 ho).1).2 o ho).2.2 j' (Nat.zero_le _) hj') hE
    (Region.schedule (C.P.follows .mixedOrders) ops (w.tape w.drawn (.order b.fn id))) (Array.replicate ops.size false) 0 (by simp) (Nat.zero_le _)
    (fun j id hj _ => by rw [hf j hj]; simp) (fun j o ho hj => by rw [hf j (Array.getElem?_eq_some_iff.1 ho).1] at hj; cases hj) (sched_of hm S.edge _)
  have Rd : Rel C env h ι a { w with drawn := w.drawn + 1 } := R.grow ((Below.refl _ _).drew)
  rw [hH] at hrun
  have R' : Rel C (envX ops ops.size E (Array.replicate ops.size false)) h ι a { w with drawn := w.drawn + 1 } := Rd.weaken (fun s => by
    unfold envX
    cases hu : unl ops ops.size (Array.replicate ops.size false) s with
    | true => exact Le.u _
    | false =>
      refine (hE1 s fun j _ hjp hj => ?_).1
      unfold unl at hu
      rw [List.any_eq_false] at hu
      have := hu j (List.mem_range.mpr hjp)
      have hjl := dstOf_lt hj
      simp [hj, hjl] at this) (fun _ => MOle.refl _)
  obtain ⟨e, w2, fr, h1, h2, h3⟩ := hrun.run ι a _ b cs hb hkd R'
  exact ⟨e, w2, fr, h1, Comes.of_steps (.one step_region_draw) h2, h3⟩
end

end Go.Proofs.YtkdpmkjbfkjmdaaDoor.V

namespace Go.Proofs.YtkdpmkjbfkjmdaaDoor.V
set_option linter.unusedVariables false
set_option linter.unusedSimpArgs false
open Go Go.RowKit

structure Both (p q : Prop) : Prop where
  one : p
  two : q

/-- Does i wait for j, itself or by way of others? -/
def reachB (ops : Array Oper) : Nat → Nat → Nat → Bool
  | 0, _, _ => false
  | f + 1, i, j => match ops.toList[i]? with
    | some o => (o.after.toList.any fun e => Region.binds .any e && Nat.beq e.on j) || o.after.toList.any fun e => Region.binds .any e && reachB ops f e.on j
    | none => false
def Closed (ops : Array Oper) (listed : Array Bool) : Prop := ∀ (i : Nat) o, ops[i]? = some o → listed.getD i false = true → ∀ e ∈ o.after, Region.binds .any e = true → listed.getD e.on false = true
theorem getD_mono {listed : Array Bool} {i j : Nat} (h : listed.getD j false = true) : (listed.setIfInBounds i true).getD j false = true := by
  rw [Array.getD_eq_getD_getElem?] at h ⊢
  rw [Array.getElem?_setIfInBounds]
  split
  · split
    · rfl
    · subst_vars
      rename_i h2
      rw [Array.getElem?_eq_none (by omega)] at h; cases h
  · exact h
theorem Closed.set {ops : Array Oper} {listed : Array Bool} {i : Nat} (hc : Closed ops listed) (hpre : ∀ o, ops[i]? = some o → ∀ e ∈ o.after, Region.binds .any e = true → listed.getD e.on false = true) : Closed ops (listed.setIfInBounds i true) := by
  intro i2 o ho hl e he hb
  by_cases h : i = i2
  · subst h; exact getD_mono (hpre o ho e he hb)
  · refine getD_mono (hc i2 o ho ?_ e he hb)
    rw [Array.getD_eq_getD_getElem?, Array.getElem?_setIfInBounds, if_neg h] at hl
    rw [Array.getD_eq_getD_getElem?]; exact hl
theorem reach_listed {ops : Array Oper} {listed : Array Bool} (hc : Closed ops listed) {j : Nat} : ∀ (f i : Nat), (∀ o, ops[i]? = some o → ∀ e ∈ o.after, Region.binds .any e = true → listed.getD e.on false = true) → reachB ops f i j = true → listed.getD j false = true := by
  intro f
  induction f with
  | zero => intro i _ h; cases h
  | succ f ih =>
    intro i hpre h
    unfold reachB at h
    cases ho : ops.toList[i]? with
    | none => rw [ho] at h; cases h
    | some o =>
      have ho' : ops[i]? = some o := by simpa using ho
      rw [ho] at h
      simp only [Bool.or_eq_true] at h
      rcases h with h | h
      · obtain ⟨e, he, h3⟩ := List.any_eq_true.mp h
        rw [Bool.and_eq_true] at h3
        rw [← Nat.eq_of_beq_eq_true h3.2]
        exact hpre o ho' e (by simpa using he) h3.1
      · obtain ⟨e, he, h3⟩ := List.any_eq_true.mp h
        rw [Bool.and_eq_true] at h3
        have hl := hpre o ho' e (by simpa using he) h3.1
        exact ih e.on (fun o2 ho2 => hc e.on o2 ho2 hl) h3.2

structure Stat2 (ops : Array Oper) (p m : Nat) : Prop where
  le : p < ops.size
  mp : m ≤ p
  edge : ∀ (i : Nat) o, ops[i]? = some o → ∀ e ∈ o.after, Region.binds .any e = true → e.on < i
  look : ∀ (i : Nat) o, i < p → ops[i]? = some o → ∀ s ∈ looks ops o, ∀ j, j < p → dstOf ops j = some s → ∃ e ∈ o.after, Region.binds .any e = true ∧ e.on = j
  one : ∀ i j d, i < p → j < p → dstOf ops i = some d → dstOf ops j = some d → i = j
  tail : ∀ (i : Nat), p ≤ i → i < ops.size → ∀ j, j < i → ¬ (i = p ∧ j = m) → reachB ops 40 i j = true

def drawStat2 (ops : Array Oper) (p m : Nat) : Bool := Nat.blt p ops.size && Nat.ble m p && (List.range ops.size).all fun i => match ops.toList[i]? with
  | none => false
  | some o => (o.after.toList.all fun e => !Region.binds .any e || Nat.blt e.on i) &&
    cond (Nat.blt i p) (!storeOp o && ((looks ops o).all fun s => (List.range p).all fun j => match dstOf ops j with
      | some d => !(Nat.beq d s) || (o.after.toList.any fun e => Region.binds .any e && Nat.beq e.on j)
      | none => true) &&
    ((List.range p).all fun j => Nat.beq j i || match dstOf ops j, o.dst with
      | some d, some d' => !(Nat.beq d d')
      | _, _ => true)) ((List.range i).all fun j => (Nat.beq i p && Nat.beq j m) || reachB ops 40 i j)

theorem Stat2.of {ops : Array Oper} {p m : Nat} (hs : drawStat2 ops p m = true) : Stat2 ops p m := by
  unfold drawStat2 at hs
  rw [Bool.and_eq_true, Bool.and_eq_true] at hs
  obtain ⟨⟨hle, hmp⟩, hs⟩ := hs
  have key : ∀ (i : Nat) o, ops[i]? = some o → (o.after.toList.all fun e => !Region.binds .any e || Nat.blt e.on i) = true ∧
    cond (Nat.blt i p) (!storeOp o && ((looks ops o).all fun s => (List.range p).all fun j => match dstOf ops j with
      | some d => !(Nat.beq d s) || (o.after.toList.any fun e => Region.binds .any e && Nat.beq e.on j)
      | none => true) &&
    ((List.range p).all fun j => Nat.beq j i || match dstOf ops j, o.dst with
      | some d, some d' => !(Nat.beq d d')
      | _, _ => true)) ((List.range i).all fun j => (Nat.beq i p && Nat.beq j m) || reachB ops 40 i j) = true := by
    intro i o ho
    have hi : i < ops.size := (Array.getElem?_eq_some_iff.1 ho).1
    have := List.all_eq_true.mp hs i (List.mem_range.mpr hi)
    have ho' : ops.toList[i]? = some o := by simpa using ho
    rw [ho'] at this
    simpa only [Bool.and_eq_true] using this
  have hlt : ∀ i, i < p → Nat.blt i p = true := fun i hi => by rw [Nat.blt_eq]; exact hi
  refine ⟨by simpa [Nat.blt_eq] using hle, Nat.ble_eq ▸ hmp, ?_, ?_, ?_, ?_⟩
  · intro i o ho e he hb
    have := List.all_eq_true.mp (key i o ho).1 e (by simpa using he)
    rw [hb] at this
    simpa [Nat.blt_eq] using this
  · intro i o hip ho s hs' j hjp hj
    have h0 := (key i o ho).2
    rw [hlt i hip, cond_true, Bool.and_eq_true, Bool.and_eq_true] at h0
    have h1 := List.all_eq_true.mp h0.1.2 s hs'
    have h2 := List.all_eq_true.mp h1 j (List.mem_range.mpr hjp)
    rw [hj] at h2
    simp only [Nat.beq_refl, Bool.not_true, Bool.false_or] at h2
    obtain ⟨e, he, h3⟩ := List.any_eq_true.mp h2
    rw [Bool.and_eq_true] at h3
    exact ⟨e, by simpa using he, h3.1, Nat.eq_of_beq_eq_true h3.2⟩
  · intro i j d hip hjp hi hj
    have hi' := hi
    unfold dstOf at hi'
    cases ho : ops.toList[i]? with
    | none => rw [ho] at hi'; cases hi'
    | some o =>
      rw [ho] at hi'
      have hd : o.dst = some d := hi'
      have h0 := (key i o (by simpa using ho)).2
      rw [hlt i hip, cond_true, Bool.and_eq_true] at h0
      have h1 := List.all_eq_true.mp h0.2 j (List.mem_range.mpr hjp)
      rw [hj, hd] at h1
      simp only [Nat.beq_refl, Bool.not_true, Bool.or_false] at h1
      exact (Nat.eq_of_beq_eq_true h1).symm
  · intro i hip hi j hj hne
    obtain ⟨o, ho⟩ : ∃ o, ops[i]? = some o := ⟨_, Array.getElem?_eq_getElem hi⟩
    have h0 := (key i o ho).2
    have : Nat.blt i p = false := by rw [Bool.eq_false_iff]; intro e; rw [Nat.blt_eq] at e; omega
    rw [this, cond_false] at h0
    have h1 := List.all_eq_true.mp h0 j (List.mem_range.mpr hj)
    rw [Bool.or_eq_true] at h1
    rcases h1 with h1 | h1
    · rw [Bool.and_eq_true] at h1
      exact absurd ⟨Nat.eq_of_beq_eq_true h1.1, Nat.eq_of_beq_eq_true h1.2⟩ hne
    · exact h1

section
variable {C : Ctx} {h : Heap} {ops : Array Oper}

theorem sched_tail2 {p m0 : Nat} (S : Stat2 ops p m0) : ∀ (m q : Nat) (listed : Array Bool) (l : List Nat), m = ops.size - q → p ≤ q → q ≤ ops.size → listed.size = ops.size → (∀ j, j < q → listed.getD j true = true) → (∀ j, q ≤ j → j < ops.size → listed.getD j true = false) →
    Closed ops listed → Sched ops listed l → l = List.range' q (ops.size - q) := by
  intro m
  induction m with
  | zero =>
    intro q listed l hm hpq hqs hsz h1 h2 hcl hs
    have hq : q = ops.size := by omega
    subst hq
    rw [Nat.sub_self]
    cases l with
    | nil => rfl
    | cons i rest => obtain ⟨hi, hil, _⟩ := hs; rw [h1 i hi] at hil; cases hil
  | succ m ih =>
    intro q listed l hm hpq hqs hsz h1 h2 hcl hs
    have hq : q < ops.size := by omega
    cases l with
    | nil => have := hs q hq; rw [h2 q (Nat.le_refl _) hq] at this; cases this
    | cons i rest =>
      obtain ⟨hi, hil, hpre, hs'⟩ := hs
      have hqi : q ≤ i := by
        rcases Nat.lt_or_ge i q with h' | h'
        · rw [h1 i h'] at hil; cases hil
        · exact h'
      have hiq : i = q := by
        rcases Nat.lt_or_ge q i with h' | h'
        · exfalso
          have hmp := S.mp
          have := reach_listed hcl 40 i hpre (S.tail i (by omega) hi q h' (by omega))
          rw [getD_two (b := true) (by omega), h2 q (Nat.le_refl _) hq] at this; cases this
        · omega
      subst hiq
      have e1 : ops.size - i = (ops.size - (i + 1)) + 1 := by omega
      rw [e1, List.range'_succ]
      congr 1
      refine ih (i + 1) (listed.setIfInBounds i true) rest (by omega) (by omega) (by omega) (by simpa using hsz) (fun j hj => ?_) (fun j hj1 hj2 => ?_) (hcl.set hpre) hs'
      · rw [getD_set]
        split
        · rfl
        · exact h1 j (by omega)
      · rw [getD_set, if_neg (by omega)]
        exact h2 j (by omega) hj2

theorem any_ok3 {p : Nat} (S : Stat2 ops p p) {k : List Item} {E : Env} (hall : ∀ j, j < p → OpSem C h ops E j) (next : Run C (.inRegion ops (List.range' p (ops.size - p)) :: k) E h) :
    ∀ (l : List Nat) (listed : Array Bool), listed.size = ops.size → (∀ j, p ≤ j → j < ops.size → listed.getD j true = false) → Closed ops listed → Sched ops listed l → Run C (.inRegion ops l :: k) (envX ops p E listed) h := by
  have hple := S.le
  have fin : ∀ (l : List Nat) (listed : Array Bool), listed.size = ops.size → (∀ j, p ≤ j → j < ops.size → listed.getD j true = false) → (∀ j, j < p → listed.getD j true = true) → Closed ops listed → Sched ops listed l → Run C (.inRegion ops l :: k) (envX ops p E listed) h := by
    intro l listed hsz h2 h1 hcl hs
    rw [sched_tail2 S _ p listed l rfl (Nat.le_refl _) (by omega) hsz h1 h2 hcl hs]
    refine Run.weaken (fun s => ?_) (fun _ => MOle.refl _) next
    unfold envX
    rw [unl_false (fun j hj _ => h1 j hj)]
    exact Le.refl _
  intro l
  induction l with
  | nil =>
    intro listed hsz h2 hcl hs
    refine fin [] listed hsz h2 (fun j hj => hs j (by omega)) hcl hs
  | cons i rest ih =>
    intro listed hsz h2 hcl hs
    by_cases hip : p ≤ i
    · have hs0 := hs
      obtain ⟨hi, hil, hpre, hs'⟩ := hs
      have hwait : ∀ j, j < i → listed.getD j true = true := fun j hj => by
        have := reach_listed hcl 40 i hpre (S.tail i hip hi j hj (by omega))
        rw [getD_two (b := false) (by omega)]; exact this
      exact fin (i :: rest) listed hsz h2 (fun j hj => hwait j (by omega)) hcl hs0
    have hip : i < p := by omega
    obtain ⟨hi, hil, hpre, hs'⟩ := hs
    obtain ⟨o, ho, hd, hsem⟩ := hall i hip
    have hdsti : dstOf ops i = o.dst := by unfold dstOf; rw [show ops.toList[i]? = some o by simpa using ho]; rfl
    have hlk : ∀ s ∈ looks ops o, envX ops p E listed s = E s := by
      intro s hs2
      unfold envX
      rw [unl_false (fun j hjp hj => ?_)]
      · rfl
      · obtain ⟨e, h1, h2, h3⟩ := S.look i o hip ho s hs2 j hjp hj
        have := hpre o ho e h1 h2
        rw [h3] at this
        have hjl : j < listed.size := by rw [hsz]; exact dstOf_lt hj
        rw [getD_two (b := false) hjl]; exact this
    have hrec := ih (listed.setIfInBounds i true) (by simpa using hsz) (fun j h1 h3 => by rw [getD_set, if_neg (by omega)]; exact h2 j h1 h3) (hcl.set hpre) hs'
    have hw : ∀ (want' : Bool), GuardSem ops E o want' → ∀ ι a w, Rel C (envX ops p E listed) h ι a w → Region.wanted o (yielded ops a.tmps) = want' := by
      intro want' hgs ι a w R
      unfold GuardSem at hgs
      split at hgs
      · rename_i hg; rw [hgs]; exact wanted_none hg _
      · rename_i j want hg
        obtain ⟨d, hj, hbb⟩ := hgs
        have hv := R.env d
        rw [hlk d (looks_guard hg hj)] at hv
        rcases hbb with ⟨b, hb, rfl⟩ | ⟨hb, rfl⟩
        · have hv := hb _ _ _ _ hv
          have hy : yielded ops a.tmps j = some b := by
            have hj' : (ops[j]?).bind (·.dst) = some d := by unfold dstOf at hj; simpa using hj
            unfold yielded
            rw [hj']
            rw [Array.getD_eq_getD_getElem?] at hv
            simp only [Option.bind_some]
            cases hq2 : a.tmps[d]? with
            | none => rw [hq2] at hv; cases hv
            | some u => rw [hq2] at hv; simp only [Option.getD_some] at hv; subst hv; rfl
          exact wanted_some hg hy
        · exact wanted_sk hg (yield_sk hj (hb _ _ _ _ hv))
    have hle : ∀ (x : AV), (∀ d, o.dst = some d → Le x (E d)) → ∀ s, Le (putE (envX ops p E listed) o.dst x s) (envX ops p E (listed.setIfInBounds i true) s) := by
      intro x hx s
      by_cases hsd : o.dst = some s
      · rw [hsd]
        simp only [putE, upd_same]
        unfold envX
        cases unl ops p (listed.setIfInBounds i true) s with
        | true => exact Le.u _
        | false => exact hx s hsd
      · have e1 : putE (envX ops p E listed) o.dst x s = envX ops p E listed s := by
          cases hq : o.dst with
          | none => rfl
          | some d => exact upd_other _ _ (fun e => hsd (by rw [hq, e]))
        rw [e1]
        unfold envX
        cases hu : unl ops p (listed.setIfInBounds i true) s with
        | true => exact Le.u _
        | false =>
          have : unl ops p listed s = false := by
            refine unl_false fun j hjp hj => ?_
            unfold unl at hu
            rw [List.any_eq_false] at hu
            have := hu j (List.mem_range.mpr hjp)
            simp only [hj, beq_self_eq_true, Bool.and_true, Bool.not_eq_true, Bool.not_eq_false'] at this
            rw [getD_set] at this
            by_cases hij : i = j
            · subst hij; exact absurd (hdsti ▸ hj) hsd
            · rwa [if_neg hij] at this
          rw [this]; exact Le.refl _
    rcases hsem with ⟨hgs, x, hq, hx⟩ | ⟨hgs, hx⟩
    · refine Run.of_step fun ι a w b cs _ R => ?_
      obtain ⟨v, w', ι', hst, R', hv⟩ := hq _ ι a w R (fun y hy => by
        have := ev_ok R y
        cases y with
        | tmp s => have e : ev (envX ops p E listed) (.tmp s) = ev E (.tmp s) := hlk s (looks_tmp hy)
                   rw [e] at this; exact this
        | const v => exact this
        | global g => exact this
        | func f => exact this) b k cs ops i rest ho (hw true hgs ι a w R)
      exact ⟨_, h, ι', _, w', _, hst, (R'.put hv hd).weaken (hle x hx) (fun _ => MOle.refl _), hrec⟩
    · exact skip_ok ho hd (hw false hgs) (Run.weaken (hle .sk hx) (fun _ => MOle.refl _) hrec)


/-- Where the first statement stands that makes memory or stores. -/
def pfxM : List Oper → Nat → Nat
  | [], i => i
  | o :: rest, i => cond (storeOp o) i (pfxM rest (i + 1))

theorem Run.drawT {id : Nat} {k : List Item} {env : Env} (hm : C.P.follows .mixedOrders = true) (hs : drawStat2 ops (pfxM ops.toList 0) (pfxM ops.toList 0) = true)
    (hq : (fun p => aq C h ops (ops.toList.take p) env (fun E => aexec C 400 (.inRegion ops (List.range' p (ops.size - p)) :: k) E h)) (pfxM ops.toList 0)) :
    Run C (.code (.region id ops true) :: k) env h := by
  generalize pfxM ops.toList 0 = p at hs hq
  have S := Stat2.of hs
  refine ⟨fun ι a w b cs hb hkd R => ?_⟩
  obtain ⟨E, hE, hE1, hE2⟩ := aq_ok (⟨by have := S.le; omega, S.edge, S.look, S.one⟩ : Stat0 ops p) (ops.toList.take p) 0 (by simp) env ι a w _ R hq
  have hf : ∀ j, j < ops.size → (Array.replicate ops.size false).getD j true = false := fun j hj => by simp [hj]
  have hrun := any_ok3 S (fun j hj => hE2 j (Nat.zero_le _) hj) (aexec_ok 400 hE) (Region.schedule (C.P.follows .mixedOrders) ops (w.tape w.drawn (.order b.fn id))) (Array.replicate ops.size false) (by simp)
    (fun j _ hj => hf j hj) (fun i o ho hl => by rw [Array.getD_eq_getD_getElem?, Array.getElem?_replicate] at hl; split at hl <;> cases hl) (sched_of hm S.edge _)
  have Rd : Rel C env h ι a { w with drawn := w.drawn + 1 } := R.grow ((Below.refl _ _).drew)
  have R' : Rel C (envX ops p E (Array.replicate ops.size false)) h ι a { w with drawn := w.drawn + 1 } := Rd.weaken (fun s => by
    unfold envX
    cases hu : unl ops p (Array.replicate ops.size false) s with
    | true => exact Le.u _
    | false =>
      refine (hE1 s fun j _ hjp hj => ?_).1
      unfold unl at hu
      rw [List.any_eq_false] at hu
      have := hu j (List.mem_range.mpr hjp)
      have hjl := dstOf_lt hj
      simp [hj, hjl] at this) (fun _ => MOle.refl _)
  obtain ⟨e, w2, fr, h1, h2, h3⟩ := hrun.run ι a _ b cs hb hkd R'
  exact ⟨e, w2, fr, h1, Comes.of_steps (.one step_region_draw) h2, h3⟩

end
end Go.Proofs.YtkdpmkjbfkjmdaaDoor.V

namespace Go.Proofs.YtkdpmkjbfkjmdaaDoor.V
set_option linter.unusedVariables false
set_option linter.unusedSimpArgs false
open Go Go.RowKit

/-! ### references told anew -/
def mapRef (p : Nat → Bool) (f : Nat → Nat) : AV → AV
  | .row id => cond (p id) (.row (f id)) .u
  | .radr id sz i j => cond (p id) (.radr (f id) sz i j) .u
  | .box id off => cond (p id) (.box (f id) off) .u
  | .obj id => cond (p id) (.obj (f id)) .u
  | .mrow id i => cond (p id) (.mrow (f id) i) .u
  | .madr id i sz a b => cond (p id) (.madr (f id) i sz a b) .u
  | .agg n get => .agg n (fun j => mapRef p f (get j))
  | .tup n get => .tup n (fun j => mapRef p f (get j))
  | x => x

theorem mapRef_scr (p : Nat → Bool) (f : Nat → Nat) : Scr (mapRef p f) := by
  refine ⟨fun _ _ => rfl, fun _ _ => rfl, fun x h1 h2 h3 => ?_⟩
  cases x <;> first
    | rfl
    | exact absurd rfl (h2 _ _)
    | exact absurd rfl (h3 _ _)
    | exact absurd rfl (h1 (fun _ => .dead) (fun _ _ => .nilIface) _)
    | (exfalso; exact h1 (fun _ => .dead) (fun _ _ => .nilIface) _ ⟨rfl, trivial⟩)
    | (exfalso; exact h1 (fun _ => .dead) (fun _ _ => .slice (some ⟨0, 0, none⟩) 0 0) _ ⟨0, 0, 0, rfl, rfl, trivial⟩)
    | (exfalso; exact h1 (fun _ => .dead) (fun _ _ => .pointer (some ⟨0, 0, none⟩)) _ ⟨0, rfl, rfl⟩)

/-- References lead where they led, under other names. -/
theorem rf_mapRef {p : Nat → Bool} {f : Nat → Nat} {h h' : Heap} {ι ι' : Loc} {σ : AV → AV} (hp : ∀ id, p id = true → ι' (f id) = ι id ∧ (h' (f id) = .dead ∨ h' (f id) = scrM σ (h id)))
    {w : World} {ok : Nat → Prop} {x : AV} {v : Value} (hr : rf h ι x v) : VR w ok (mapRef p f x) (rf h' ι') v := by
  cases x with
  | row id =>
    cases hb : p id with
    | false => simp only [mapRef, hb, cond_false, VR]
    | true => simp only [mapRef, hb, cond_true, VR]; exact (show v = ι id 0 from hr).trans (by rw [(hp id hb).1])
  | obj id =>
    cases hb : p id with
    | false => simp only [mapRef, hb, cond_false, VR]
    | true => simp only [mapRef, hb, cond_true, VR]; exact (show v = ι id 0 from hr).trans (by rw [(hp id hb).1])
  | box id off =>
    cases hb : p id with
    | false => simp only [mapRef, hb, cond_false, VR]
    | true =>
      simp only [mapRef, hb, cond_true, VR]
      obtain ⟨g, h1, h2⟩ := hr
      exact ⟨g, by rw [(hp id hb).1]; exact h1, h2⟩
  | radr id sz i j =>
    cases hb : p id with
    | false => simp only [mapRef, hb, cond_false, VR]
    | true =>
      simp only [mapRef, hb, cond_true, VR]
      obtain ⟨g, n, c, h1, h2, h3⟩ := hr
      refine ⟨g, n, c, by rw [(hp id hb).1]; exact h1, h2, ?_⟩
      rcases (hp id hb).2 with e2 | e2
      · rw [e2]; trivial
      · rw [e2]
        cases hq : h id <;> rw [hq] at h3 <;> first | trivial | exact h3
  | mrow id i =>
    cases hb : p id with
    | false => simp only [mapRef, hb, cond_false, VR]
    | true =>
      simp only [mapRef, hb, cond_true, VR]
      refine ⟨hr.1.trans (by rw [(hp id hb).1]), ?_⟩
      have h3 := hr.2
      rcases (hp id hb).2 with e2 | e2
      · rw [e2]; trivial
      · rw [e2]
        cases hq : h id <;> rw [hq] at h3 <;> first | trivial | exact h3
  | madr id i sz a b =>
    cases hb : p id with
    | false => simp only [mapRef, hb, cond_false, VR]
    | true =>
      simp only [mapRef, hb, cond_true, VR]
      obtain ⟨g, n, c, h1, h2, h3⟩ := hr
      refine ⟨g, n, c, by rw [(hp id hb).1]; exact h1, h2, ?_⟩
      rcases (hp id hb).2 with e2 | e2
      · rw [e2]; trivial
      · rw [e2]
        cases hq : h id <;> rw [hq] at h3 <;> first | trivial | exact h3
  | _ => exact absurd hr (by simp [rf])

/-! ### contracts -/
def objsH (objs : List MO) : Heap := fun k => objs.getD k .dead

/-- Where what a call answers may lie: in what its arguments lead to, or in new memory that is not among what is handed over. -/
def okF (S : Nat → Prop) (B : Nat) (objs : List MO) (ι : Loc) (w' : World) (b : Nat) : Prop := b < w'.heap.size ∧ (S b ∨ B ≤ b) ∧ ∀ k, objsH objs k ≠ .dead → ¬ owns (objsH objs k) (ι k) b

structure Fresh (S : Nat → Prop) (B : Nat) (objs : List MO) (ι : Loc) (w' : World) : Prop where
  obj : ∀ k, MR B w' (okF S B objs ι w') (rf (objsH objs) ι) (objsH objs k) (ι k)
  one : ∀ k i, (ι k i).oneCell' = true
  base : ∀ k, objsH objs k ≠ .dead → ∀ g, owns (objsH objs k) (ι k) g → B ≤ g ∧ g < w'.heap.size
  apart : ∀ k k', objsH objs k ≠ .dead → objsH objs k' ≠ .dead → k ≠ k' → ∀ g, owns (objsH objs k) (ι k) g → ¬ owns (objsH objs k') (ι k') g

def PostF (S : Nat → Prop) (w : World) (r : AV) (objs : List MO) (e : Ending) (w' : World) : Prop :=
  ∃ v ι, e = .returned v ∧ Below w.heap.size w w' ∧ Fresh S w.heap.size objs ι w' ∧ VR w' (okF S w.heap.size objs ι w') r (rf (objsH objs) ι) v

/-- Called with what reads as 'args', the function returns what reads as 'r', with new memory that is the caller's own; nothing that was there has changed. -/
structure FnF (P : Program) (f : FuncId) (args : List AV) (r : AV) (objs : List MO) : Prop where
  there : ∃ fn, P.funcs[f]? = some fn ∧ fn.name ≠ "runtime.NumGoroutine" ∧ fn.body.isNone = false
  calls : ∀ (S : Nat → Prop) (w : World) (vs : Array Value), (∀ b, S b → b < w.heap.size) → GlobOk S w → args.length = vs.size →
    (∀ (i : Nat) x v, args[i]? = some x → vs[i]? = some v → VR w S x noref v) → Calls P f vs w (PostF S w r objs)

section
variable {C : Ctx} {env : Env} {h : Heap} {ι : Loc} {a : Act} {w : World}

/-- What is handed over: the objects 'ids', told as 'objs'. -/
def handed (ids : List Nat) (objs : List MO) (h : Heap) : Prop := match ids, objs with
  | [], [] => True
  | id :: ids, m :: objs => MOle (h id) m ∧ handed ids objs h
  | _, _ => False

def memL (ids : List Nat) (id : Nat) : Bool := match ids with
  | [] => false
  | x :: l => cond (Nat.beq id x) true (memL l id)
def idxL (ids : List Nat) (id : Nat) : Nat := match ids with
  | [] => 0
  | x :: l => cond (Nat.beq id x) 0 (idxL l id + 1)
/-! ### calling them -/
/-! ### answers that hold no memory but their own -/
def FlatM : MO → Prop
  | .row _ sz n get => ∀ i j, i < n → j < sz → flat (get i j) = true
  | .mat _ sz n get0 o _ szi len get _ => (∀ i j, i < n → j < sz → j ≠ o → flat (get0 i j) = true) ∧ ∀ i a b, i < n → a < len i → b < szi → flat (get i a b) = true
  | .box _ l => ∀ x ∈ l, flat x = true
  | .frame _ _ => False
  | .clo _ l => ∀ x ∈ l, flat x = true
  | _ => True

/-! ### what is given up may be read for ever -/
def repl (z : Nat) (y : AV) (g : Nat → AV) : AV → AV
  | .row id => cond (Nat.beq id z) y (.row id)
  | .radr id sz i j => cond (Nat.beq id z) .u (.radr id sz i j)
  | .box id off => cond (Nat.beq id z) .u (.box id off)
  | .obj id => cond (Nat.beq id z) .u (.obj id)
  | .mrow id i => cond (Nat.beq id z) (g i) (.mrow id i)
  | .madr id i sz a b => cond (Nat.beq id z) .u (.madr id i sz a b)
  | .agg n get => .agg n (fun j => repl z y g (get j))
  | .tup n get => .tup n (fun j => repl z y g (get j))
  | x => x
end

end Go.Proofs.YtkdpmkjbfkjmdaaDoor.V

namespace Go.Proofs.YtkdpmkjbfkjmdaaDoor.V
set_option linter.unusedVariables false
set_option linter.unusedSimpArgs false
open Go Go.RowKit

/-- Lists of lists, each one's own. -/
def Ty.M {α : Type} (T : Ty α) (eo ei : Nat) (ls : List (List α)) : MO := .mat eo 1 ls.length (fun _ _ => .u) 0 ei T.sz (fun i => (ls.getD i []).length) (fun i a b => T.G (ls.getD i []) a b) none

/-- Lists of lists that are only read. -/
def tL {α : Type} (T : Ty α) : Ty (List α) := ⟨1, fun l _ => T.L l, []⟩
theorem Le.tt' {b : Bool} (h : b = true) : Le (.bool b) .tt := by subst h; exact fun _ _ _ _ h => h
/-! ### a list turned from its head on -/
/-! ### answers of several parts -/
def tupL (l : List AV) : AV := .tup l.length (fun j => l.getD j .u)
theorem ArgsLe.get {xs ys : List AV} (h : ArgsLe xs ys) (j : Nat) (hj : j < xs.length) : Le (xs.getD j .u) (ys.getD j .u) := by
  obtain ⟨h1, h2⟩ := h.at
  have hj2 : j < ys.length := by omega
  obtain ⟨x, hx, hle⟩ := h2 j ys[j] (List.getElem?_eq_getElem hj2)
  rw [List.getD, hx, List.getD, List.getElem?_eq_getElem hj2]
  exact hle
theorem Le.tupL {xs ys : List AV} (h : ArgsLe xs ys) : Le (V.tupL xs) (V.tupL ys) := by
  unfold V.tupL
  rw [h.at.1]
  exact Le.tup fun j hj => h.get j hj
theorem resT {env : Env} {h : Heap} {t u : Nat} {ts : List Nat} {ys : List AV} (hle : ArgsLe ((t :: u :: ts).map fun t => fz h (env t)) ys) : Le (fz h (resAV env (t :: u :: ts))) (V.tupL ys) := by
  have h1 := hle.at.1
  unfold V.tupL
  rw [h1, List.length_map]
  refine Le.tup fun j hj => ?_
  have := hle.get j (by simpa using hj)
  rw [List.getD, List.getElem?_map, List.getElem?_eq_getElem hj] at this
  show Le (fz h (env ((t :: u :: ts).getD j 0))) _
  rw [List.getD, List.getElem?_eq_getElem hj]
  exact this
end Go.Proofs.YtkdpmkjbfkjmdaaDoor.V

namespace Go.Proofs.YtkdpmkjbfkjmdaaDoor.V
set_option linter.unusedVariables false
set_option linter.unusedSimpArgs false
open Go
set_option maxRecDepth 100000
end Go.Proofs.YtkdpmkjbfkjmdaaDoor.V

namespace Go.Proofs.YtkdpmkjbfkjmdaaDoor.V
set_option linter.unusedVariables false
set_option linter.unusedSimpArgs false
open Go Go.RowKit Go.ChangeShapes Go.WideShapes Go.ChangeAt

/-- Cells that read as x. -/
def CellsAt {α : Type} (w : World) (T : Ty α) (x : α) (off : Nat) (cs : List Value) : Prop := ∀ j, j < T.sz → ∃ cv, cs[off + j]? = some cv ∧ cv.oneCell' = true ∧ VR w (fun b => b < w.heap.size) (T.enc x j) noref cv

structure Dec (P : Program) (t : TypeId) {α : Type} (T : Ty α) (bk : α → Nat) : Prop where
  size : P.cellsOf t = T.sz
  read : ∀ {H : Type} (enc : TypeId × Value → H) (w : World) (fuel : Nat) (cs : List Value) (d : DataW H) ps, DataW.trod enc P w 0 (fun _ => true) true fuel t cs = some (d, ps) →
    ∃ x : α, CellsAt w T x 0 cs ∧ bk x ≤ Rows.uptoBulk d

theorem cells_one1 {α : Type} {w : World} {T : Ty α} {x : α} {v : Value} (hs : T.sz = 1) (h1 : v.oneCell' = true) (hv : VR w (fun b => b < w.heap.size) (T.enc x 0) noref v) : CellsAt w T x 0 [v] := by
  intro j hj
  have : j = 0 := by omega
  subst this
  exact ⟨v, rfl, h1, hv⟩
def tK (k : IntKind) : Ty Int := ⟨1, fun x _ => .int k x, 0⟩
theorem Dec.int {P : Program} {t : TypeId} {k : IntKind} (hu : P.underlying t = some (.int k)) (hc : P.cellsOf t = 1) : Dec P t (tK k) (fun _ => 1) := by
  refine ⟨hc, fun enc w fuel cs d ps h => ?_⟩
  obtain ⟨n, rfl, e, _⟩ := DataW.trod_int hu h
  cases e
  exact ⟨n, cells_one1 rfl rfl rfl, by simp [Rows.uptoBulk]⟩
theorem Dec.str {P : Program} {t : TypeId} (hu : P.underlying t = some .string) (hc : P.cellsOf t = 1) : Dec P t tS (fun x => x.size + 1) := by
  refine ⟨hc, fun enc w fuel cs d ps h => ?_⟩
  obtain ⟨n, rfl, e, hs⟩ := DataW.trod_string hu h
  cases e
  exact ⟨n, cells_one1 rfl rfl ⟨rfl, hs⟩, by simp [Rows.uptoBulk]⟩

def sumL {α : Type} (bk : α → Nat) : List α → Nat
  | [] => 0
  | x :: l => bk x + sumL bk l
theorem sumL_append {α : Type} (bk : α → Nat) (l m : List α) : sumL bk (l ++ m) = sumL bk l + sumL bk m := by
  induction l with
  | nil => simp [sumL]
  | cons x l ih => simp only [List.cons_append, sumL, ih]; omega
theorem bulkAll_append {H : Type} (l r : List (DataW H)) : Rows.uptoBulkAll (l ++ r) = Rows.uptoBulkAll l + Rows.uptoBulkAll r := by
  induction l with
  | nil => simp [Rows.uptoBulkAll]
  | cons y l ih => simp only [List.cons_append, Rows.uptoBulkAll, ih]; omega
theorem Dec.slice {P : Program} {t e : TypeId} {α : Type} {T : Ty α} {bk : α → Nat} (hu : P.underlying t = some (.slice e)) (hc : P.cellsOf t = 1) (hz : 0 < T.sz) (D : Dec P e T bk) : Dec P t (tL T) (fun l => sumL bk l + 1) := by
  refine ⟨hc, fun enc w fuel cs d ps h => ?_⟩
  rcases DataW.trod_slice hu h with ⟨rfl, ed⟩ | ⟨a, len, cap, elems, rest, n, rfl, rfl, ed, hb, hl, hcap, hlen, hel, _, _⟩
  · cases ed
    exact ⟨[], cells_one1 rfl rfl (Ty.nil T _ _ _ _ rfl), by simp [Rows.uptoBulk, sumL]⟩
  · cases ed
    have key : ∀ m, m ≤ len → ∃ l : List α, l.length = m ∧ (∀ i, i < m → ∃ cs, w.cells? 0 (a.add (i * P.cellsOf e)) (P.cellsOf e) = some cs ∧ CellsAt w T (l.getD i T.z) 0 cs) ∧ sumL bk l ≤ Rows.uptoBulkAll ((elems.take m).map (·.1)) := by
      intro m
      induction m with
      | zero => intro _; exact ⟨[], rfl, fun i hi => absurd hi (Nat.not_lt_zero _), by simp [sumL]⟩
      | succ m ih =>
        intro hm
        obtain ⟨l, h1, h2, h3⟩ := ih (by omega)
        have he := hel m (by omega)
        rw [List.getElem?_eq_getElem (by omega : m < elems.length)] at he
        simp only [Option.bind_eq_some_iff] at he
        obtain ⟨csm, hcs, htr⟩ := he
        obtain ⟨x, hx, hbx⟩ := D.read enc w n csm elems[m].1 elems[m].2 htr
        refine ⟨l ++ [x], by simp [h1], fun i hi => ?_, ?_⟩
        · rcases Nat.lt_or_ge i m with h' | h'
          · obtain ⟨cs, h4, h5⟩ := h2 i h'
            refine ⟨cs, h4, ?_⟩
            rw [show (l ++ [x]).getD i T.z = l.getD i T.z by simp [List.getD, List.getElem?_append_left (by omega : i < l.length)]]
            exact h5
          · have : i = m := by omega
            subst this
            refine ⟨csm, hcs, ?_⟩
            rw [show (l ++ [x]).getD i T.z = x by simp [List.getD, List.getElem?_append_right (by omega : l.length ≤ i), h1]]
            exact hx
        · have ht : elems.take (m + 1) = elems.take m ++ [elems[m]] := by rw [List.take_add_one, List.getElem?_eq_getElem (by omega : m < elems.length)]; rfl
          rw [sumL_append, ht, List.map_append, bulkAll_append]
          simp only [sumL, List.map_cons, List.map_nil, Rows.uptoBulkAll]
          omega
    obtain ⟨l, h1, h2, h3⟩ := key len (Nat.le_refl _)
    refine ⟨l, cells_one1 rfl rfl ⟨some a, cap, by rw [h1], by omega, hcap, (fun e => by cases e), fun hn => ⟨a, rfl, ?_, fun i j hi hj => ?_⟩⟩, ?_⟩
    · obtain ⟨cs, h4, h5⟩ := h2 0 (by omega)
      have := World.cells?_block h4 (by rw [D.size]; exact hz)
      simpa [addr_block] using this
    · obtain ⟨cs, h4, h5⟩ := h2 i (by omega)
      obtain ⟨cv, c1, c2, c3⟩ := h5 j hj
      obtain ⟨_, _, h6⟩ := World.cells?_some h4
      refine ⟨cv, ?_, c2, c3⟩
      have := h6 j (by rw [D.size]; exact hj)
      rw [addr_add, D.size] at this
      rw [this]; simpa using c1
    · rw [List.take_of_length_le (by omega)] at h3
      simp only [Rows.uptoBulk]
      omega

/-! ### structs, field by field -/
structure DecF (P : Program) (fs : List Field) (off : Nat) {α : Type} (T : Ty α) (bk : α → Nat) : Prop where
  read : ∀ {H : Type} (enc : TypeId × Value → H) (w : World) (fuel : Nat) (cs : List Value) (xs : List (DataW H × List MemPlace)), xs.length = fs.length →
    (∀ (i : Nat) (f : Field), fs[i]? = some f → DataW.trod enc P w 0 (fun _ => true) true fuel f.type ((cs.drop f.offset).take (P.cellsOf f.type)) = xs[i]?) →
    ∃ x : α, CellsAt w T x off cs ∧ bk x ≤ Rows.uptoBulkAll (xs.map (·.1))
def tU : Ty Unit := ⟨0, fun _ _ => .u, ()⟩
def tP {α β : Type} (T : Ty α) (U : Ty β) : Ty (α × β) := ⟨T.sz + U.sz, fun x j => cond (Nat.blt j T.sz) (T.enc x.1 j) (U.enc x.2 (j - T.sz)), (T.z, U.z)⟩
theorem DecF.nil {P : Program} {off : Nat} : DecF P [] off tU (fun _ => 0) := ⟨fun enc w fuel cs xs _ _ => ⟨(), fun j hj => absurd hj (Nat.not_lt_zero _), Nat.zero_le _⟩⟩
theorem DecF.cons {P : Program} {f : Field} {fs : List Field} {off : Nat} {α β : Type} {T : Ty α} {U : Ty β} {bk : α → Nat} {bu : β → Nat} (ho : f.offset = off) (D : Dec P f.type T bk) (F : DecF P fs (off + T.sz) U bu) :
    DecF P (f :: fs) off (tP T U) (fun x => bk x.1 + bu x.2) := by
  refine ⟨fun enc w fuel cs xs hl h => ?_⟩
  cases xs with
  | nil => simp at hl
  | cons y ys =>
    have h0 := h 0 f rfl
    obtain ⟨x, hx, hbx⟩ := D.read enc w fuel _ y.1 y.2 (by rw [h0]; rfl)
    obtain ⟨u, hu, hbu⟩ := F.read enc w fuel cs ys (by simpa using hl) (fun i g hg => by simpa using h (i + 1) g (by simpa using hg))
    refine ⟨(x, u), fun j hj => ?_, by simp only [List.map_cons, Rows.uptoBulkAll]; omega⟩
    unfold tP at hj ⊢
    simp only at hj ⊢
    by_cases hjt : j < T.sz
    · rw [show Nat.blt j T.sz = true by rw [Nat.blt_eq]; exact hjt, cond_true]
      obtain ⟨cv, c1, c2, c3⟩ := hx j hjt
      refine ⟨cv, ?_, c2, c3⟩
      rw [Nat.zero_add, List.getElem?_take_of_lt (by rw [D.size]; exact hjt), List.getElem?_drop, ho] at c1
      exact c1
    · rw [show Nat.blt j T.sz = false by rw [Bool.eq_false_iff]; intro e; rw [Nat.blt_eq] at e; exact hjt e, cond_false]
      obtain ⟨cv, c1, c2, c3⟩ := hu (j - T.sz) (by omega)
      exact ⟨cv, by rw [show off + j = off + T.sz + (j - T.sz) by omega]; exact c1, c2, c3⟩
theorem Dec.struct {P : Program} {t : TypeId} {fs : Array Field} {α : Type} {T : Ty α} {bk : α → Nat} (hu : P.underlying t = some (.struct fs)) (hc : P.cellsOf t = T.sz) (F : DecF P fs.toList 0 T bk) : Dec P t T (fun x => bk x + 1) := by
  refine ⟨hc, fun enc w fuel cs d ps h => ?_⟩
  obtain ⟨xs, n, rfl, ed, hl, hlx, hf⟩ := DataW.trod_struct hu h
  cases ed
  obtain ⟨x, hx, hb⟩ := F.read enc w n cs xs (by simpa using hlx) (fun i f hif => hf i f (by simpa using hif))
  exact ⟨x, hx, by simp only [Rows.uptoBulk]; omega⟩
theorem Dec.map {P : Program} {t : TypeId} {α β : Type} {T : Ty α} {T' : Ty β} {bk : α → Nat} {bk' : β → Nat} (f : α → β) (hs : T'.sz = T.sz) (hle : ∀ x j, j < T.sz → Le (T.enc x j) (T'.enc (f x) j)) (hb : ∀ x, bk' (f x) ≤ bk x) (D : Dec P t T bk) : Dec P t T' bk' := by
  refine ⟨D.size.trans hs.symm, fun enc w fuel cs d ps h => ?_⟩
  obtain ⟨x, hx, hbx⟩ := D.read enc w fuel cs d ps h
  refine ⟨f x, fun j hj => ?_, Nat.le_trans (hb x) hbx⟩
  obtain ⟨cv, c1, c2, c3⟩ := hx j (by omega)
  exact ⟨cv, c1, c2, hle x j (by omega) _ _ _ _ c3⟩

/-! ### arguments -/
structure Arg (P : Program) (t : TypeId) {α : Type} (E : α → AV) (bk : α → Nat) : Prop where
  read : ∀ {H : Type} (enc : TypeId × Value → H) (W : World) (base : Nat) (v : Value) (d : DataW H) ps, Value.okWide P W .any base t v → DataW.Trod enc P W 0 (fun _ => true) true t v d ps →
    ∃ x : α, VR W (fun b => b < W.heap.size) (E x) noref v ∧ bk x ≤ Rows.uptoBulk d
theorem Arg.of_one {P : Program} {t : TypeId} {α : Type} {T : Ty α} {bk : α → Nat} (hs : T.sz = 1) (D : Dec P t T bk) (hv : ∀ W base v, Value.okWide P W .any base t v → v.cells = #[v]) : Arg P t (fun x => T.enc x 0) bk := by
  refine ⟨fun enc W base v d ps ok ⟨fuel, h⟩ => ?_⟩
  rw [hv W base v ok] at h
  obtain ⟨x, hx, hb⟩ := D.read enc W fuel _ d ps h
  obtain ⟨cv, c1, _, c3⟩ := hx 0 (by omega)
  cases c1
  exact ⟨x, c3, hb⟩
theorem Arg.slice {P : Program} {t e : TypeId} {α : Type} {T : Ty α} {bk : α → Nat} (hu : P.underlying t = some (.slice e)) (hc : P.cellsOf t = 1) (hz : 0 < T.sz) (D : Dec P e T bk) : Arg P t (fun l => T.L l) (fun l => sumL bk l + 1) :=
  Arg.of_one (T := tL T) rfl (Dec.slice hu hc hz D) fun W base v ok => by obtain ⟨a, l, c, rfl⟩ := okWide_slice hu ok; rfl
theorem Arg.str {P : Program} {t : TypeId} (hu : P.underlying t = some .string) (hc : P.cellsOf t = 1) : Arg P t (fun s : ByteArray => .str s) (fun s => s.size + 1) :=
  Arg.of_one (T := tS) rfl (Dec.str hu hc) fun W base v ok => by obtain ⟨a, rfl⟩ := okWide_string hu ok; rfl
structure ArgsD (P : Program) (ts : List TypeId) (G : List AV → Nat → Prop) : Prop where
  read : ∀ {H : Type} (enc : TypeId × Value → H) (W : World) (base : Nat) (vs : List Value) (ds : List (DataW H)) ps, (∀ (j : Nat) t v, ts[j]? = some t → vs[j]? = some v → Value.okWide P W .any base t v) →
    DataW.TrodAll enc P W 0 (fun _ => true) true ts vs ds ps →
    ∃ avs b, G avs b ∧ b ≤ Rows.uptoBulkAll ds ∧ avs.length = vs.length ∧ ∀ (i : Nat) x v, avs[i]? = some x → vs[i]? = some v → VR W (fun b => b < W.heap.size) x noref v
theorem ArgsD.nil {P : Program} : ArgsD P [] (fun avs b => avs = [] ∧ b = 0) := by
  refine ⟨fun enc W base vs ds ps ok h => ?_⟩
  obtain ⟨rfl, rfl, rfl⟩ := trodAll_nil h
  exact ⟨[], 0, ⟨rfl, rfl⟩, Nat.zero_le _, rfl, fun i x v hx => by cases hx⟩
theorem ArgsD.cons {P : Program} {t : TypeId} {ts : List TypeId} {α : Type} {E : α → AV} {bk : α → Nat} {G : List AV → Nat → Prop} (A : Arg P t E bk) (As : ArgsD P ts G) : ArgsD P (t :: ts) (fun avs b => ∃ x avs' b', avs = E x :: avs' ∧ b = bk x + b' ∧ G avs' b') := by
  refine ⟨fun enc W base vs ds ps ok h => ?_⟩
  obtain ⟨v, vs', d, ds', p, q, rfl, rfl, rfl, hd, hrest⟩ := trodAll_cons h
  obtain ⟨x, hx, hb⟩ := A.read enc W base v d p (ok 0 t v rfl rfl) hd
  obtain ⟨avs, b, hG, hb2, hlen, hall⟩ := As.read enc W base vs' ds' q (fun j t v h1 h2 => ok (j + 1) t v (by simpa using h1) (by simpa using h2)) hrest
  refine ⟨E x :: avs, bk x + b, ⟨x, avs, b, rfl, rfl, hG⟩, by simp only [Rows.uptoBulkAll]; omega, by simp [hlen], fun i y u hy hu => ?_⟩
  cases i with
  | zero => cases hy; cases hu; exact hx
  | succ i => exact hall i y u hy hu

/-- The law's call: true, and nothing that was there has turned. -/
theorem ArgsD.calls {P : Program} {f : FuncId} {ts : List TypeId} {G : List AV → Nat → Prop} (A : ArgsD P ts G) {B : Nat} (hfn : ∀ avs b, G avs b → b ≤ B → Fn P f avs .tt) {H : Type} (enc : TypeId × Value → H) (W : World) (base : Nat) (args : Array Value) (ds : List (DataW H)) ps (gl : GlobOk (fun b => b < W.heap.size) W)
    (ok : ∀ (j : Nat) t v, ts[j]? = some t → args[j]? = some v → Value.okWide P W .any base t v) (h : DataW.TrodAll enc P W 0 (fun _ => true) true ts args.toList ds ps) (hB : Rows.uptoBulkAll ds ≤ B) :
    Calls P f args W fun e W' => e = .returned (.bool true) ∧ Below W.heap.size W W' := by
  obtain ⟨avs, b, hG, hb, hlen, hall⟩ := A.read enc W base args.toList ds ps (fun j t v h1 h2 => ok j t v h1 (by simpa using h2)) h
  refine ((hfn avs b hG (by omega)).calls (fun b => b < W.heap.size) W args (fun b hb => hb) gl (by simpa using hlen) (fun i x v hx hv => hall i x v hx (by simpa using hv))).mono ?_
  rintro e W' ⟨v, rfl, hbel, hv⟩
  have : v = .bool true := hv
  subst this
  exact ⟨rfl, hbel⟩
/-- The arguments read as they did. -/
theorem stay {P : Program} (hl : laidOutB P = true) {H : Type} {enc : TypeId × Value → H} {W W' : World} (hb : Below W.heap.size W W') : ∀ {ts : List TypeId}, (ts.all fun t => P.readableRec t && Nat.blt t P.types.size) = true → ∀ {vs : List Value} {ds : List (DataW H)} {ps : List MemPlace},
    DataW.TrodAll enc P W 0 (fun _ => true) true ts vs ds ps → DataW.TrodAll enc P W' 0 (fun b => decide (b < W.heap.size)) true ts vs ds ps
  | [], _, vs, ds, ps, h => by obtain ⟨rfl, rfl, rfl⟩ := trodAll_nil h; exact trodAll_mk0
  | t :: ts, ht, vs, ds, ps, h => by
    obtain ⟨v, vs', d, ds', p, q, rfl, rfl, rfl, hd, hrest⟩ := trodAll_cons h
    rw [List.all_cons, Bool.and_eq_true, Bool.and_eq_true] at ht
    refine trodAll_cons_mk (Below.trod hl ht.1.1 (by simpa [Nat.blt_eq] using ht.1.2) hd hb ?_) (stay hl hb ht.2 hrest)
    obtain ⟨m, hm⟩ := hd
    exact DataW.trod_lt m _ _ _ hm
end Go.Proofs.YtkdpmkjbfkjmdaaDoor.V

namespace Go.Proofs.YtkdpmkjbfkjmdaaDoor.V
set_option linter.unusedVariables false
set_option linter.unusedSimpArgs false
open Go Go.RowKit
end Go.Proofs.YtkdpmkjbfkjmdaaDoor.V

namespace Go.Proofs.YtkdpmkjbfkjmdaaDoor.V
set_option linter.unusedVariables false
set_option linter.unusedSimpArgs false
open Go Go.RowKit

/-- The callee has come back to the caller's slots: a's. -/
def RetQ (C : Ctx) (a : Act) (K : Env → Heap → AV → Prop) (e : Ending) (w' : World) : Prop :=
  ∃ v ι' env' h' x, e = .returned v ∧ Rel C env' h' ι' a w' ∧ VR w' (okB C h' ι' w') x (rf h' ι') v ∧ K env' h' x

/-- What the callee is walked in. -/
def Ctx.sub (C : Ctx) (f : FuncId) (N : Nat) (a : Act) (K : Env → Heap → AV → Prop) : Ctx := { C with N := N, f := f, R := RetQ C a K, kp := ⟨[], [], .normal⟩ }

theorem Run.inline {C : Ctx} {env : Env} {h : Heap} {ops : Array Oper} {i : Nat} {rest : List Nat} {k : List Item} {o : Oper} {f : FuncId} {xs : List Operand} (F : Nat) (fn : Func) (c : Code) (N : Nat)
    (ho : ops.toList[i]? = some o) (hc : calls? o = some (f, xs)) (hf : C.P.funcs[f]? = some fn) (hb : fn.body = some c) (hname : fn.name ≠ "runtime.NumGoroutine") (hN : fn.ntmps = N) (hn : xs.length ≤ N)
    (hd : okD C o.dst = true) (hr : ready env ops o = true)
    (sub : ∀ a : Act, a.tmps.size = C.N → DK C.kp a → Run (C.sub f N a (fun env' h' x => Run C (.inRegion ops rest :: k) (putE env' o.dst x) h')) [.code c] (envOf (xs.map (ev (scrubE F env)))) (upd (upd (scrubH F h) F .dead) F (.frame a.tmps (scrubE F env)))) :
    Run C (.inRegion ops (i :: rest) :: k) env h := by
  subst hN
  refine Run.of_step fun ι a w b cs _ R => ?_
  have ho' : ops[i]? = some o := by simpa using ho
  obtain ⟨R2, hok2, S2⟩ := R.make F F (.frame a.tmps (scrubE F env)) .nilIface w (Below.refl _ _) (fun _ _ => rfl) (fun _ _ _ _ _ _ => rfl) rfl (fun g hg => by cases hg) (fun g hg => by cases hg) (fun _ _ _ _ g _ e => by cases e)
    (fun ok r hok hS hrr => by
      subst hrr
      exact fun j => VR.scrub hS hok (fun _ _ => rfl) _ _ (R.env j))
  have hcalls : Calls C.P f (xs.map a.eval).toArray w (RetQ C a (fun env' h' x => Run C (.inRegion ops rest :: k) (putE env' o.dst x) h')) := by
    intro cs2
    let b2 : Frame := { (default : Frame) with fn := f, kind := .normal }
    have henter : Frame.enter C.P f (xs.map a.eval).toArray .normal = b2.at { tmps := (xs.map a.eval).toArray ++ Array.replicate (fn.ntmps - (xs.map a.eval).toArray.size) undef, defers := [] } [.code c] := by
      simp [Frame.enter, Frame.at, hf, hb, b2]
    rw [henter]
    refine exK ((sub a R.size R.defers).run (upd ι F (fun _ => .nilIface)) _ w b2 cs2 rfl rfl ?_)
    constructor
    · exact R.below
    · exact ⟨rfl, fun _ h => nomatch h⟩
    · show ((xs.map a.eval).toArray ++ Array.replicate (fn.ntmps - (xs.map a.eval).toArray.size) undef).size = fn.ntmps
      simp; omega
    · intro j
      show VR w _ (envOf (xs.map (ev (scrubE F env))) j) _ _
      unfold envOf
      cases hx : xs[j]? with
      | none =>
        have : (xs.map (ev (scrubE F env))).getD j .u = .u := by simp [List.getD, hx]
        rw [this]; trivial
      | some y =>
        have hj : j < xs.length := by
          rcases Nat.lt_or_ge j xs.length with h' | h'
          · exact h'
          · rw [List.getElem?_eq_none h'] at hx; cases hx
        have e1 : (xs.map (ev (scrubE F env))).getD j .u = ev (scrubE F env) y := by simp [List.getD, hx]
        have e2 : ((xs.map a.eval).toArray ++ Array.replicate (fn.ntmps - (xs.map a.eval).toArray.size) undef).getD j undef = a.eval y := by
          rw [Array.getD_eq_getD_getElem?, Array.getElem?_append_left (by simpa using hj)]
          simp [hx]
        rw [e1, e2]
        exact ev_ok R2 y
    · exact R2.obj
    · exact R2.one
    · exact R2.base
    · exact R2.apart
  obtain ⟨v, w', ⟨v', ι', env', h', x, e, R', hv, hk⟩, hst⟩ := step_call (b := b) (k := k) (cs := cs) (rest := rest) ho' (ready_ok hr R) (exec_call hc ⟨fn, hf, hname, by rw [hb]; rfl⟩ a w) hcalls (fun e w' ⟨v, _, _, _, _, h, _⟩ => ⟨v, h⟩)
  cases e
  exact ⟨_, h', ι', _, w', _, hst, R'.put hv hd, hk⟩

/-- Back from a call gone through in place: one answer, or none. -/
theorem Run.back {C : Ctx} {a : Act} {f : FuncId} {N : Nat} {K : Env → Heap → AV → Prop} {env : Env} {h : Heap} {k : List Item} (F : Nat) {E : Env} {fn : Func} {ts : List Nat} (hsz : a.tmps.size = C.N) (hdf : DK C.kp a) (hk : k = [] ∨ ∃ k', k = .code .ret :: k')
    (hfr : h F = .frame a.tmps E) (hf : C.P.funcs[f]? = some fn) (hres : fn.results = (ts.map ResultVar.tmp).toArray) (hK : K E (upd h F .dead) (resAV env ts)) : Run (C.sub f N a K) k env h := by
  refine ⟨fun ι a2 w b cs hb hkd R => ?_⟩
  obtain ⟨R2, hok, hrf⟩ := R.kill F
  have hfo : ∀ i, VR w (okB (C.sub f N a K) h ι w) (E i) (rf h ι) (a.tmps.getD i undef) := by
    have := R.obj F
    rw [hfr] at this
    exact this
  have Rc : Rel C E (upd h F .dead) ι a w := by
    constructor
    · exact R2.below
    · exact hdf
    · exact hsz
    · exact fun i => VR.mono hok (fun _ _ => rfl) _ _ _ _ hrf (hfo i)
    · exact R2.obj
    · exact R2.one
    · exact R2.base
    · exact R2.apart
  have hv : VR w (okB C (upd h F .dead) ι w) (resAV env ts) (rf (upd h F .dead) ι) (resV a2.tmps ts) := by
    match ts, hres with
    | [t], _ => exact R2.env t
    | [], _ => exact ⟨#[], rfl, rfl, fun j hj => by cases hj⟩
    | t :: u :: ts, _ =>
      refine ⟨_, rfl, by simp, fun j hj => ?_⟩
      refine ⟨a2.tmps.getD ((t :: u :: ts).getD j 0) undef, ?_, R2.env _⟩
      rw [List.getElem?_toArray, List.getElem?_map, List.getElem?_eq_getElem hj, List.getD, List.getElem?_eq_getElem hj]
      rfl
  refine ⟨.returned _, w, { b.at a2 k with mode := .returning }, ⟨_, ι, E, upd h F .dead, _, rfl, Rc, hv, hK⟩, ?_, hb, rfl, R.defers.1, hkd, fn, by show C.P.funcs[b.fn]? = _; rw [hb]; exact hf, results_run hres a2.tmps w⟩
  rcases hk with rfl | ⟨k', rfl⟩
  · exact Steps.one step_end
  · exact Steps.one step_ret

/-- One operation that the engine does not know: what it does is handed in. -/
theorem Run.opG {C : Ctx} {env : Env} {h : Heap} {o : Oper} {ops : Array Oper} {i : Nat} {rest : List Nat} {k : List Item} (K : Env → Heap → AV → Prop) (ho : ops.toList[i]? = some o) (hd : okD C o.dst = true) (hr : ready env ops o = true)
    (hop : ∀ ι a w, Rel C env h ι a w → OpOut C a w o K) (hK : ∀ env' h' x, K env' h' x → Run C (.inRegion ops rest :: k) (putE env' o.dst x) h') : Run C (.inRegion ops (i :: rest) :: k) env h :=
  ⟨fun ι a w b cs hb hkd R => by
    obtain ⟨nx, v, w', ι', env', h', x, hr1, hv, R', hx, hk⟩ := hop ι a w R
    have hst := step_op_ok (b := b) (k := k) (cs := cs) (rest := rest) (by simpa using ho) (ready_ok hr R) hr1 hv
    obtain ⟨e, w2, fr, h1, h2, h3⟩ := (hK env' h' x hk).run ι' (a.put o.dst v) w' b cs hb hkd (R'.put hx hd)
    exact ⟨e, w2, fr, h1, Comes.of_steps (.one hst) h2, h3⟩⟩

theorem box_shape {C : Ctx} {env : Env} {h : Heap} {ι : Loc} {a : Act} {w : World} (R : Rel C env h ι a w) {id : Nat} {t : TypeId} {l : List AV} (hb : h id = .box t l) : ∃ g, ι id 0 = .pointer (some ⟨g, 0, none⟩) ∧ w.shape? g = some (t, l.length) := by
  have := R.obj id
  rw [hb] at this
  obtain ⟨g, cs, h1, h2, h3, _⟩ := this
  exact ⟨g, h1, by simp [World.shape?, h2, h3]⟩
/-- A box's address turned to unsafe.Pointer: the address as it is. -/
theorem Run.toUnsafe {C : Ctx} {env : Env} {h : Heap} {o : Oper} {ops : Array Oper} {i : Nat} {rest : List Nat} {k : List Item} {src dst t e : TypeId} {x : Operand} {id : Nat} {l : List AV} {j : TypeInfo} (ho : ops.toList[i]? = some o) (hc : o.op = .convert src dst x) (hd : okD C o.dst = true) (hr : ready env ops o = true)
    (hx : ev env x = .box id 0) (hb : h id = .box e l) (hl : 0 < l.length) (hs : C.P.underlying src = some (.pointer t)) (hds : C.P.underlying dst = some .unsafePointer) (ht : C.P.info? t = some j) (hj : j.size ≠ 0)
    (next : Run C (.inRegion ops rest :: k) (putE env o.dst (.box id 0)) h) : Run C (.inRegion ops (i :: rest) :: k) env h :=
  Run.opG (fun env' h' y => env' = env ∧ h' = h ∧ y = .box id 0) ho hd hr (fun ι a w R => by
    obtain ⟨g, h1, h2⟩ := box_shape R hb
    have hv := ev_ok R x
    rw [hx] at hv
    obtain ⟨g', h3, h4⟩ := hv
    rw [h1] at h3
    cases h3
    have h4' : a.eval x = .pointer (some ⟨g, 0, none⟩) := by rw [h4]; rfl
    refine OpOut.of (s := convert src dst (a.eval x)) (by simp [execOp, hc]) (Out.same R ⟨rfl, rfl, rfl⟩ ?_ ⟨g, h1, h4⟩)
    rw [h4']
    exact Lib.run_to_unsafe w ⟨g, 0, none⟩ hs hds ht hj h2 hl) (fun env' h' y ⟨e1, e2, e3⟩ => by subst e1; subst e2; subst e3; exact next)
/-- unsafe.Pointer to a pointer to what lies there: the address as it is. -/
theorem Run.fromUnsafe {C : Ctx} {env : Env} {h : Heap} {o : Oper} {ops : Array Oper} {i : Nat} {rest : List Nat} {k : List Item} {src dst u e : TypeId} {x : Operand} {id : Nat} {l : List AV} {j : TypeInfo} (ho : ops.toList[i]? = some o) (hc : o.op = .convert src dst x) (hd : okD C o.dst = true) (hr : ready env ops o = true)
    (hx : ev env x = .box id 0) (hb : h id = .box e l) (hs : C.P.underlying src = some .unsafePointer) (hds : C.P.underlying dst = some (.pointer u)) (hu : C.P.info? u = some j) (hlies : liesAt C.P C.P.depth e (l.length / C.P.cellsOf e) 0 u 1 = true)
    (next : Run C (.inRegion ops rest :: k) (putE env o.dst (.box id 0)) h) : Run C (.inRegion ops (i :: rest) :: k) env h :=
  Run.opG (fun env' h' y => env' = env ∧ h' = h ∧ y = .box id 0) ho hd hr (fun ι a w R => by
    obtain ⟨g, h1, h2⟩ := box_shape R hb
    have hv := ev_ok R x
    rw [hx] at hv
    obtain ⟨g', h3, h4⟩ := hv
    rw [h1] at h3
    cases h3
    have h4' : a.eval x = .pointer (some ⟨g, 0, none⟩) := by rw [h4]; rfl
    refine OpOut.of (s := convert src dst (a.eval x)) (by simp [execOp, hc]) (Out.same R ⟨rfl, rfl, rfl⟩ ?_ ⟨g, h1, h4⟩)
    rw [h4']
    exact Lib.run_from_unsafe w ⟨g, 0, none⟩ hs hds hu h2 hlies) (fun env' h' y ⟨e1, e2, e3⟩ => by subst e1; subst e2; subst e3; exact next)

/-- A call of one of the model's own entries that answers a value and leaves the world as it is. -/
theorem exec_extern {P : Program} {f : FuncId} {fn : Func} {o : Oper} {xs : List Operand} {e : Array Value → Sem Value} (ho : calls? o = some (f, xs)) (hf : P.funcs[f]? = some fn) (hname : (fn.name == "runtime.NumGoroutine") = false)
    (hb : fn.body.isNone = true) (hn : Extern.findNext fn = none) (he : Extern.find fn = some e) (a : Act) (w : World) {v : Value} (hv : (e (xs.map a.eval).toArray).run P w = .ok v w) :
    (execOp a.eval o).run P w = .ok (.value v) w := by
  unfold calls? at ho
  split at ho
  · rename_i f' args at_ heq
    cases ho
    have h1 := run_callFunc_extern hf hname hb hn he (args.toList.map a.eval).toArray w
    rw [hv] at h1
    have h2 : (args.toList.map a.eval).toArray = args.map a.eval := by apply Array.ext'; simp
    rw [h2] at h1
    simp only [execOp, heq, resolve, Act.eval, Deferred.ofValue, Sem.run_bind, Sem.run_pure, Result.andThen_ok, invoke]
    first | exact h1 | simpa [Act.eval, Result.andThen] using h1
  · cases ho
/-- internal/abi.NoEscape: what goes in. -/
theorem Run.noEscape {C : Ctx} {env : Env} {h : Heap} {o : Oper} {ops : Array Oper} {i : Nat} {rest : List Nat} {k : List Item} {f : FuncId} {fn : Func} {x : Operand} (ho : ops.toList[i]? = some o) (hc : calls? o = some (f, [x])) (hd : okD C o.dst = true) (hr : ready env ops o = true)
    (hf : C.P.funcs[f]? = some fn) (hname : (fn.name == "runtime.NumGoroutine") = false) (hb : fn.body.isNone = true) (hn : Extern.findNext fn = none) (he : Extern.find fn = some Extern.AbiNoEscape.same)
    (next : Run C (.inRegion ops rest :: k) (putE env o.dst (ev env x)) h) : Run C (.inRegion ops (i :: rest) :: k) env h :=
  Run.opG (fun env' h' y => env' = env ∧ h' = h ∧ y = ev env x) ho hd hr (fun ι a w R =>
    OpOut.same R ⟨rfl, rfl, rfl⟩ (exec_extern hc hf hname hb hn he a w (by exact Lib.run_noEscape w (a.eval x))) (ev_ok R x)) (fun env' h' y ⟨e1, e2, e3⟩ => by subst e1; subst e2; subst e3; exact next)
end Go.Proofs.YtkdpmkjbfkjmdaaDoor.V

namespace Go.Proofs.YtkdpmkjbfkjmdaaDoor.V
set_option linter.unusedVariables false
set_option linter.unusedSimpArgs false
open Go Go.RowKit
section
variable {C : Ctx} {env : Env} {h : Heap} {ι : Loc} {a : Act} {w : World}
/-- An object is given up, and its own blocks are turned. -/
theorem Rel.killW (R : Rel C env h ι a w) (z : Nat) {w' : World} (hz : h z ≠ .dead) (hb : Below C.B w w') (hsz : w'.heap.size = w.heap.size) (hw : ∀ b, ¬ owns (h z) (ι z) b → w'.heap[b]? = w.heap[b]?) : Rel C env (upd h z .dead) ι a w' := by
  have hdead : ∀ id, upd h z .dead id ≠ .dead → h id ≠ .dead ∧ id ≠ z := by
    intro id hl
    by_cases e : id = z
    · subst e; rw [upd_same] at hl; exact absurd rfl hl
    · rw [upd_other _ _ e] at hl; exact ⟨hl, e⟩
  have hr : ∀ x v, rf h ι x v → rf (upd h z .dead) ι x v := rf_upd (by trivial)
  have hok : ∀ b, okB C h ι w b → okB C (upd h z .dead) ι w' b := fun b hb => ⟨by rw [hsz]; exact hb.1, hb.2.1, fun id hl => by rw [upd_other _ _ (hdead id hl).2]; exact hb.2.2 id (hdead id hl).1⟩
  have hwo : ∀ b, okB C h ι w b → w'.heap[b]? = w.heap[b]? := fun b hb => hw b (hb.2.2 z hz)
  constructor
  · exact R.below.trans hb
  · exact R.defers
  · exact R.size
  · exact fun i => VR.mono hok hwo _ _ _ _ hr (R.env i)
  · intro id
    by_cases e : id = z
    · subst e; rw [upd_same]; trivial
    · rw [upd_other _ _ e]
      by_cases hl : h id = .dead
      · rw [hl]; trivial
      · exact MR.keepR hr hok hwo (fun g hg => hw g (fun hg' => R.apart id z hl hz e g hg hg')) (R.obj id)
  · exact R.one
  · intro id hl; rw [upd_other _ _ (hdead id hl).2, hsz]; exact R.base id (hdead id hl).1
  · intro id id' hl hl'; rw [upd_other _ _ (hdead id hl).2, upd_other _ _ (hdead id' hl').2]; exact R.apart id id' (hdead id hl).1 (hdead id' hl').1

theorem freeze_heap {w : World} {g : Nat} {cs : Array Value} {e : TypeId} {fz : Nat × Nat} (hg : w.heap[g]? = some (.cells cs e fz)) (n : Nat) :
    (w.freeze ⟨g, 0, none⟩ n).heap.size = w.heap.size ∧ ∀ b, b ≠ g → (w.freeze ⟨g, 0, none⟩ n).heap[b]? = w.heap[b]? := by
  unfold World.freeze
  split
  · exact ⟨rfl, fun _ _ => rfl⟩
  · refine ⟨by simp, fun b hb => ?_⟩
    simp only [Array.getElem?_modify]
    rw [if_neg (fun e => hb e.symm)]
end
section
variable {C : Ctx} {env : Env} {h : Heap}
/-- unsafe.String of no byte. -/
theorem Run.unsafeString0 {o : Oper} {ops : Array Oper} {i : Nat} {rest : List Nat} {k : List Item} {c : Call} {x y : Operand} {pt it : TypeId} (ho : ops.toList[i]? = some o) (hc : o.op = .call c) (hcb : c.callee = .builtin .unsafeString) (hca : c.args.toList = [x, y]) (hct : c.argTypes.toList = [pt, it])
    (hd : okD C o.dst = true) (hr : ready env ops o = true) (hx : ev env x = .ptr ∨ ev env x = .nilp) (hy : ev env y = .int .i64 0)
    (next : Run C (.inRegion ops rest :: k) (putE env o.dst (.str .empty)) h) : Run C (.inRegion ops (i :: rest) :: k) env h :=
  Run.opG (fun env' h' z => env' = env ∧ h' = h ∧ z = .str .empty) ho hd hr (fun ι a w R => by
    have hca' := toList_two hca
    have hct' := toList_two hct
    have hv := ev_ok R x
    have hp : ∃ p, a.eval x = .pointer p := by
      rcases hx with hx | hx <;> rw [hx] at hv
      · exact hv
      · exact ⟨none, hv⟩
    obtain ⟨p, hp⟩ := hp
    have hvy := ev_ok R y
    rw [hy] at hvy
    have hvy' : a.eval y = .int .i64 0 := hvy
    refine OpOut.same R ⟨rfl, rfl, rfl⟩ (v := .string .empty) ?_ ⟨rfl, by decide⟩
    simp only [execOp, hc, resolve, hcb, hca', hct', invoke, builtin, Act.eval]
    have := Lib.run_unsafeString_none (P := C.P) w pt it o.type p
    simp [hp, hvy', this]) (fun env' h' y ⟨e1, e2, e3⟩ => by subst e1; subst e2; subst e3; exact next)

/-- unsafe.String of a row's bytes: the row is given up. -/
theorem Run.unsafeString {o : Oper} {ops : Array Oper} {i : Nat} {rest : List Nat} {k : List Item} {c : Call} {x y : Operand} {pt it : TypeId} {q e n : Nat} {get : Nat → Nat → AV} (s : ByteArray) (ho : ops.toList[i]? = some o) (hc : o.op = .call c) (hcb : c.callee = .builtin .unsafeString) (hca : c.args.toList = [x, y]) (hct : c.argTypes.toList = [pt, it])
    (hd : okD C o.dst = true) (hr : ready env ops o = true) (hx : ev env x = .radr q 1 0 0) (hy : ev env y = .int .i64 (n : Int)) (hq : h q = .row e 1 n get) (hs : s.size = n) (hn : n ≠ 0) (hget : ∀ i, i < n → get i 0 = .int .u8 (bt s i))
    (hpt : C.P.underlying pt = some (.pointer e)) (hc1 : C.P.cellsOf e = 1)
    (next : Run C (.inRegion ops rest :: k) (putE env o.dst (.str s)) (upd h q .dead)) : Run C (.inRegion ops (i :: rest) :: k) env h :=
  Run.opG (fun env' h' z => env' = env ∧ h' = upd h q .dead ∧ z = .str s) ho hd hr (fun ι a w R => by
    have hca' := toList_two hca
    have hct' := toList_two hct
    have hlq : h q ≠ .dead := by rw [hq]; simp
    have hv := ev_ok R x
    rw [hx] at hv
    obtain ⟨g, n', cap', hg1, hv, -⟩ := hv
    have hvy := ev_ok R y
    rw [hy] at hvy
    have hvy' : a.eval y = .int .i64 (n : Int) := hvy
    have hoq := R.obj q
    rw [hq] at hoq
    obtain ⟨xs, hown, hone, hcells⟩ := hoq
    have hcell := fun j u hj => hown.cells (g := g) (by rcases hown.2 with ⟨hv0, h0⟩ | ⟨g', cap, cur, hv0, _⟩; exact absurd h0 hn; rw [hg1] at hv0; cases hv0; rw [hg1]; rfl) j u hj
    obtain ⟨g', cap, cur, hv0, hB, hg, hnc, hcm, hcs, htake⟩ : ∃ g' cap cur, ι q 0 = .slice (some ⟨g', 0, none⟩) n cap ∧ C.B ≤ g' ∧ cellsX w g' cur e ∧ n ≤ cap ∧ cap ≤ maxLen ∧ cur.size = cap * 1 ∧ cur.toList.take (n * 1) = xs := by
      rcases hown.2 with ⟨hv0, h0⟩ | hr
      · exact absurd h0 hn
      · exact hr
    have hgg : g' = g := by rw [hg1] at hv0; cases hv0; rfl
    subst hgg
    have hval : a.eval x = .pointer (some ⟨g', 0, none⟩) := by rw [hv]; simp [Addr.add]
    have hlen : s.data.toList.length = n := by rw [← hs]; rfl
    have hrun := Lib.run_unsafeString_row (P := C.P) w pt it o.type e hpt hc1 g' cur.size hg.shape s.data.toList (by intro e0; rw [e0] at hlen; exact hn hlen.symm) (by rw [hlen, hcs]; omega) (by rw [hlen]; simp only [maxLen] at hcm; omega) (fun j u hj => by
      have hjn : j < n := by
        rcases Nat.lt_or_ge j s.data.toList.length with h' | h'
        · omega
        · rw [List.getElem?_eq_none h'] at hj; cases hj
      obtain ⟨cv, c1, c2⟩ := hcells j 0 hjn (by omega)
      rw [hget j hjn] at c2
      have c2' : cv = .int .u8 (bt s j) := c2
      rw [Nat.mul_one, Nat.add_zero] at c1
      have := hcell j cv c1
      rw [this, c2']
      unfold bt
      rw [List.getD, hj]; rfl)
    rw [hlen] at hrun
    have hs' : (⟨s.data.toList.toArray⟩ : ByteArray) = s := by simp
    rw [hs'] at hrun
    obtain ⟨fz0, hg0, _⟩ := hg
    obtain ⟨f1, f2⟩ := freeze_heap hg0 n
    refine ⟨.value (.string s), .string s, w.freeze ⟨g', 0, none⟩ n, ι, env, upd h q .dead, .str s, ?_, .inl rfl, R.killW q hlq (Lib.below_freeze (Below.refl _ _) hB n) f1 (fun b hb => f2 b (fun e0 => hb ?_)), ⟨rfl, by rw [hs]; omega⟩, rfl, rfl, rfl⟩
    · simp only [execOp, hc, resolve, hcb, hca', hct', invoke, builtin, Act.eval]
      simp [hval, hvy', hrun]
    · subst e0; rw [hq]; exact owns_zero (by rw [hv0]; rfl)) (fun env' h' y ⟨e1, e2, e3⟩ => by subst e1; subst e2; subst e3; exact next)

/-- A slice in a box's cell gets a row's name of its own. -/
theorem Run.holdBoxRow {k : List Item} (id j q z : Nat) {e sz n : Nat} {get : Nat → Nat → AV} {t : TypeId} {l l2 : List AV} (hb : h id = .box t l) (hj : l[j]? = some (.row z)) (hz : h z = .row e sz n get) (hne : Nat.beq z q = false) (hqi : Nat.beq id q = false) (hl2 : l2 = (l.map (scrub q)).set j (.row q))
    (hr : Run C k (scrubE q env) (upd (upd (upd (scrubH q h) z .dead) q (.row e sz n get)) id (.box t l2))) : Run C k env h :=
  ⟨fun ι a w b cs hbf hkd R => by
    have hiq : id ≠ q := fun e0 => by subst e0; simp at hqi
    have hiz : id ≠ z := fun e0 => by subst e0; rw [hb] at hz; cases hz
    have ho := R.obj z
    rw [hz] at ho
    have hlz : h z ≠ .dead := by rw [hz]; simp
    obtain ⟨xs, hown, h1, hc⟩ := ho
    obtain ⟨R', hok', hS'⟩ := R.make q z (.row e sz n get) (ι z 0) w (Below.refl _ _) (fun _ _ => rfl) (fun _ _ _ _ _ _ => rfl) (R.one z 0) (fun g hg => R.base z hlz g (owns_zero hg))
      (fun g hg hok => hok.2.2 z hlz (owns_zero hg)) (fun id _ hid hl g hg e' => R.apart id z hl hlz hid g hg (owns_zero e'))
      (fun ok r hok hS hrr => ⟨xs, hown, h1, fun i j hi hj => by
        obtain ⟨cv, c1, c3⟩ := hc i j hi hj
        exact ⟨cv, c1, VR.mono hok (fun _ _ => rfl) _ _ _ _ (fun _ _ h => h) c3⟩⟩)
    have hbx : (upd (upd (scrubH q h) z .dead) q (.row e sz n get)) id = .box t (l.map (scrub q)) := by
      rw [upd_other _ _ hiq, upd_other _ _ hiz]
      show scrubM q (h id) = _
      rw [hb]; rfl
    have hbr := R.obj id
    rw [hb] at hbr
    have hbr2 := R'.obj id
    rw [hbx] at hbr2
    refine hr.run (upd ι q (fun _ => ι z 0)) a w b cs hbf hkd (R'.set id (.box t l2) w (Below.refl _ _) (by rw [hbx]; simp) (fun _ _ _ => rfl) (by rw [hbx]; trivial) (fun r ok hrr hok _ => ?_))
    obtain ⟨g0, cs0, e1, e2, e3, e4⟩ := hbr
    obtain ⟨g1, cs1, f1, f2, f3, f4⟩ := hbr2
    have hio : upd ι q (fun _ => ι z 0) id = ι id := upd_other _ _ hiq
    have hg : g1 = g0 := by rw [hio] at f1; rw [e1] at f1; cases f1; rfl
    subst hg
    have hcs : cs1 = cs0 := by rw [e2] at f2; cases f2; rfl
    subst hcs
    refine ⟨g1, cs1, f1, f2, by rw [f3, hl2]; simp, fun i x hx => ?_⟩
    subst hl2
    by_cases hij : i = j
    · subst hij
      obtain ⟨cv, c1, c2, c3⟩ := e4 i (.row z) hj
      rw [List.getElem?_set_self (by
        rw [List.length_map]
        rcases Nat.lt_or_ge i l.length with h' | h'
        · exact h'
        · rw [List.getElem?_eq_none h'] at hj; cases hj)] at hx
      cases hx
      refine ⟨cv, c1, c2, hrr _ _ ?_⟩
      show cv = upd ι q (fun _ => ι z 0) q 0
      rw [upd_same]; exact c3
    · rw [List.getElem?_set_ne (fun e0 => hij e0.symm)] at hx
      obtain ⟨cv, c1, c2, c3⟩ := f4 i x hx
      exact ⟨cv, c1, c2, VR.mono hok (fun _ _ => rfl) _ _ _ _ hrr c3⟩⟩
theorem Run.holdBoxNil {k : List Item} (id j q e sz : Nat) (get : Nat → Nat → AV) {t : TypeId} {l l2 : List AV} (hb : h id = .box t l) (hj : l[j]? = some .nils) (hqi : Nat.beq id q = false) (hl2 : l2 = (l.map (scrub q)).set j (.row q))
    (hr : Run C k (scrubE q env) (upd (upd (upd (scrubH q h) q .dead) q (.row e sz 0 get)) id (.box t l2))) : Run C k env h :=
  ⟨fun ι a w b cs hbf hkd R => by
    have hiq : id ≠ q := fun e0 => by subst e0; simp at hqi
    obtain ⟨R', hok', hS'⟩ := R.make q q (.row e sz 0 get) (.slice none 0 0) w (Below.refl _ _) (fun _ _ => rfl) (fun _ _ _ _ _ _ => rfl) rfl (fun g hg => by cases hg)
      (fun g hg => by cases hg) (fun id _ _ _ g hg e' => by cases e')
      (fun ok r hok hS hrr => ⟨[], ownsX_nil w C.B e sz, by simp, fun i j hi => by omega⟩)
    have hbx : (upd (upd (scrubH q h) q .dead) q (.row e sz 0 get)) id = .box t (l.map (scrub q)) := by
      rw [upd_other _ _ hiq, upd_other _ _ hiq]
      show scrubM q (h id) = _
      rw [hb]; rfl
    have hbr := R.obj id
    rw [hb] at hbr
    have hbr2 := R'.obj id
    rw [hbx] at hbr2
    refine hr.run (upd ι q (fun _ => .slice none 0 0)) a w b cs hbf hkd (R'.set id (.box t l2) w (Below.refl _ _) (by rw [hbx]; simp) (fun _ _ _ => rfl) (by rw [hbx]; trivial) (fun r ok hrr hok _ => ?_))
    obtain ⟨g0, cs0, e1, e2, e3, e4⟩ := hbr
    obtain ⟨g1, cs1, f1, f2, f3, f4⟩ := hbr2
    have hio : upd ι q (fun _ => .slice none 0 0) id = ι id := upd_other _ _ hiq
    have hg : g1 = g0 := by rw [hio] at f1; rw [e1] at f1; cases f1; rfl
    subst hg
    have hcs : cs1 = cs0 := by rw [e2] at f2; cases f2; rfl
    subst hcs
    refine ⟨g1, cs1, f1, f2, by rw [f3, hl2]; simp, fun i x hx => ?_⟩
    subst hl2
    by_cases hij : i = j
    · subst hij
      obtain ⟨cv, c1, c2, c3⟩ := e4 i .nils hj
      rw [List.getElem?_set_self (by
        rw [List.length_map]
        rcases Nat.lt_or_ge i l.length with h' | h'
        · exact h'
        · rw [List.getElem?_eq_none h'] at hj; cases hj)] at hx
      cases hx
      refine ⟨cv, c1, c2, hrr _ _ ?_⟩
      show cv = upd ι q (fun _ => .slice none 0 0) q 0
      rw [upd_same]; exact c3
    · rw [List.getElem?_set_ne (fun e0 => hij e0.symm)] at hx
      obtain ⟨cv, c1, c2, c3⟩ := f4 i x hx
      exact ⟨cv, c1, c2, VR.mono hok (fun _ _ => rfl) _ _ _ _ hrr c3⟩⟩
end

/-! ### strings.Builder: what a call of WriteString leaves -/
theorem bt_app (a b : ByteArray) (i : Nat) : bt (a ++ b) i = if i < a.size then bt a i else bt b (i - a.size) := by
  unfold bt
  have h1 : (a ++ b).data.toList = a.data.toList ++ b.data.toList := by simp
  rw [h1]
  by_cases h : i < a.size
  · rw [if_pos h, List.getD, List.getD, List.getElem?_append_left (by simpa using h)]
  · rw [if_neg h, List.getD, List.getD, List.getElem?_append_right (by simpa using h)]
    simp
/-- A text's bytes, as a row. -/
def bytesG (t : ByteArray) : Nat → Nat → AV := fun i _ => .int .u8 (bt t i)
def scrW (q : Nat) (x : AV) : AV := scrub q (scrub 14 (scrub 901 (scrub 900 x)))
def scrWM (q : Nat) (m : MO) : MO := scrubM q (scrubM 14 (scrubM 901 (scrubM 900 m)))
def envW (q : Nat) (env : Env) : Env := fun i => scrW q (env i)
def heapW (q : Nat) (h : Heap) : Heap := upd (upd (upd (fun id => scrWM q (h id)) 14 .dead) 901 .dead) 900 .dead
/-- A builder: its box, its row (of element type e). -/
def bldr (B e id q : Nat) (h : Heap) (p : AV) (t : ByteArray) : Heap := upd (upd h q (.row e 1 t.size (bytesG t))) id (.box B [p, .row q])
theorem bytesG_join (e : Nat) (t s : ByteArray) : MOle (.row e 1 (t.size + s.size) (joinRow t.size (bytesG t) (fun i _ => .int .u8 (bt s i)))) (.row e 1 (t ++ s).size (bytesG (t ++ s))) := by
  refine ⟨rfl, rfl, by simp, fun i j hi hj => ?_⟩
  unfold joinRow bytesG
  rw [bt_app]
  by_cases hc : i < t.size
  · rw [if_pos hc, if_pos hc]; exact Le.refl _
  · rw [if_neg hc, if_neg hc]; exact Le.refl _
theorem mole_dead (m : MO) : MOle m .dead := by cases m <;> trivial
theorem Run.bldr {C : Ctx} {k : List Item} {env : Env} {h : Heap} (B e id q : Nat) (p : AV) (t : ByteArray) (h1 : MOle (h id) (.box B [p, .row q])) (h2 : MOle (h q) (.row e 1 t.size (bytesG t))) (next : Run C k env (bldr B e id q h p t)) : Run C k env h := by
  refine Run.weaken (fun _ => Le.refl _) (fun i => ?_) next
  unfold V.bldr
  by_cases hi : i = id
  · subst hi; rw [upd_same]; exact h1
  · rw [upd_other _ _ hi]
    by_cases hj : i = q
    · subst hj; rw [upd_same]; exact h2
    · rw [upd_other _ _ hj]; exact MOle.refl _

/-! ### slots and objects told anew, each looked at -/
def fvs : List AV → (List AV → Prop) → Prop
  | [], K => K []
  | x :: r, K => fv x fun x => fvs r fun l => K (x :: l)
theorem fvs_eq : ∀ (l : List AV) (K : List AV → Prop), fvs l K = K l
  | [], _ => rfl
  | x :: r, K => by unfold fvs; rw [fv_eq, fvs_eq r]
def fm (m : MO) (K : MO → Prop) : Prop := match m with
  | .dead => K .dead
  | .box t l => fvs l fun l => K (.box t l)
  | .row e sz n get => K (.row e sz n get)
  | .iter s p => K (.iter s p)
  | .mp m => K (.mp m)
  | .raw a b c => K (.raw a b c)
  | .frame vs E => K (.frame vs E)
  | .clo f l => fvs l fun l => K (.clo f l)
  | .mat e sz n get0 o ei szi len get hole => K (.mat e sz n get0 o ei szi len get hole)
theorem fm_eq (m : MO) (K : MO → Prop) : fm m K = K m := by
  cases m <;> first | rfl | exact fvs_eq _ _
def aforceH (h : Heap) : List Nat → (List (Nat × MO) → Prop) → Prop
  | [], K => K []
  | i :: r, K => fm (h i) fun x => aforceH h r fun l => K ((i, x) :: l)
theorem aforceH_ok {h : Heap} : ∀ (ks : List Nat) {K : List (Nat × MO) → Prop}, aforceH h ks K → ∃ l, fitsH h l ∧ K l
  | [], K, hk => ⟨[], trivial, hk⟩
  | i :: r, K, hk => by
    unfold aforceH at hk
    rw [fm_eq] at hk
    obtain ⟨l, h1, h2⟩ := aforceH_ok r hk
    exact ⟨(i, h i) :: l, ⟨MOle.refl _, h1⟩, h2⟩
theorem Run.tidy {C : Ctx} {k : List Item} {env : Env} {h : Heap} (ks hs : List Nat) (hr : aforce env ks fun l => aforceH h hs fun lh => Run C k (lst l) (lstH lh)) : Run C k env h := by
  obtain ⟨l, hl, hr⟩ := aforce_ok ks hr
  obtain ⟨lh, hlh, hr⟩ := aforceH_ok hs hr
  exact Run.to _ _ hl hlh hr

/-- string(b) of an own row of bytes: the text; the row stays. -/
theorem Run.rowStr {C : Ctx} {env : Env} {h : Heap} {o : Oper} {ops : Array Oper} {i : Nat} {rest : List Nat} {k : List Item} {src dst e : TypeId} {x : Operand} {q n : Nat} {get : Nat → Nat → AV} (s : ByteArray) (ho : ops.toList[i]? = some o) (hc : o.op = .convert src dst x)
    (hd : okD C o.dst = true) (hr : ready env ops o = true) (hx : ev env x = .row q) (hq : h q = .row e 1 n get) (hs : s.size = n) (hget : ∀ i, i < n → get i 0 = .int .u8 (bt s i))
    (hsrc : C.P.underlying src = some (.slice e)) (he : C.P.underlying e = some (.int .u8)) (hdst : C.P.underlying dst = some .string)
    (next : Run C (.inRegion ops rest :: k) (putE env o.dst (.str s)) h) : Run C (.inRegion ops (i :: rest) :: k) env h :=
  Run.opG (fun env' h' z => env' = env ∧ h' = h ∧ z = .str s) ho hd hr (fun ι a w R => by
    have hv := ev_ok R x
    rw [hx] at hv
    have hv' : a.eval x = ι q 0 := hv
    have hoq := R.obj q
    rw [hq] at hoq
    obtain ⟨xs, hown, hone, hcells⟩ := hoq
    have hs' : (⟨s.data.toList.toArray⟩ : ByteArray) = s := by simp
    have hlen : s.data.toList.length = n := by rw [← hs]; rfl
    have hmax : s.size ≤ maxLen := by
      rcases hown.2 with ⟨_, h0⟩ | ⟨g, cap, cur, _, _, _, hnc, hcm, _⟩
      · rw [hs, h0]; exact Nat.zero_le _
      · rw [hs]; omega
    refine OpOut.of (s := convert src dst (a.eval x)) (by simp [execOp, hc]) (Out.same R ⟨rfl, rfl, rfl⟩ (v := .string s) ?_ ⟨rfl, hmax⟩)
    rw [hv']
    rcases hown.2 with ⟨hv0, h0⟩ | ⟨g, cap, cur, hv0, hB, hg, hnc, hcm, hcs, htake⟩
    · rw [hv0]
      have hse : s = ⟨#[]⟩ := by
        have : s.size = 0 := by omega
        have : s = ByteArray.empty := by simpa using this
        rw [this]; rfl
      rw [hse]
      exact Lib.run_convert_nil_bytes w src dst e 0 hsrc he hdst
    · rw [hv0]
      have hcell : ∀ j u, xs[j]? = some u → w.cell? ((⟨g, 0, none⟩ : Addr).add j) = some u := fun j u hj => hown.cells (g := g) (by rw [hv0]; rfl) j u hj
      have := run_convert_bytes_back (P := C.P) w src dst e ⟨g, 0, none⟩ cap s.data.toList hsrc he hdst (fun j hj => by
        have hjn : j < n := by omega
        obtain ⟨cv, c1, c2⟩ := hcells j 0 hjn (by omega)
        rw [hget j hjn] at c2
        have c2' : cv = .int .u8 (bt s j) := c2
        rw [Nat.mul_one, Nat.add_zero] at c1
        rw [hcell j cv c1, c2']
        unfold bt
        rw [List.getD, List.getElem?_eq_getElem hj]; rfl)
      rw [hlen, hs'] at this
      exact this) (fun env' h' y ⟨e1, e2, e3⟩ => by subst e1; subst e2; subst e3; exact next)

/-! ### the model's own entries -/
section
variable {C : Ctx} {env : Env} {h : Heap} {o : Oper} {ops : Array Oper} {i : Nat} {rest : List Nat} {k : List Item} {f : FuncId} {fn : Func} {x y : Operand}
theorem Run.indexByteS (s : ByteArray) (c : Int) (ho : ops.toList[i]? = some o) (hc : calls? o = some (f, [x, y])) (hd : okD C o.dst = true) (hr : ready env ops o = true)
    (hf : C.P.funcs[f]? = some fn) (hname : (fn.name == "runtime.NumGoroutine") = false) (hb : fn.body.isNone = true) (hn : Extern.findNext fn = none) (he : Extern.find fn = some Extern.BytealgIndexByte.indexByte)
    (hx : ev env x = .str s) (hy : ev env y = .int .u8 c)
    (next : Run C (.inRegion ops rest :: k) (putE env o.dst (.int .i64 (Lib.indexByte s.data.toList c.toNat.toUInt8))) h) : Run C (.inRegion ops (i :: rest) :: k) env h :=
  Run.opG (fun env' h' z => env' = env ∧ h' = h ∧ z = .int .i64 (Lib.indexByte s.data.toList c.toNat.toUInt8)) ho hd hr (fun ι a w R => by
    have hvx := ev_ok R x
    have hvy := ev_ok R y
    rw [hx] at hvx
    rw [hy] at hvy
    obtain ⟨hvx, -⟩ := hvx
    have hvy' : a.eval y = .int .u8 c := hvy
    exact OpOut.same R ⟨rfl, rfl, rfl⟩ (exec_extern hc hf hname hb hn he a w (by simp only [List.map, hvx, hvy']; exact Lib.run_indexByteString s c w)) rfl) (fun env' h' y ⟨e1, e2, e3⟩ => by subst e1; subst e2; subst e3; exact next)
end

/-! ### an own row is given up while the walk goes on -/
/-! ### strings.Builder: what a call of WriteByte leaves -/
def scrB (q : Nat) (x : AV) : AV := scrub q (scrub 14 (scrub 13 (scrub 901 (scrub 900 x))))
def envB (q : Nat) (env : Env) : Env := fun i => scrB q (env i)
def heapB (q : Nat) (h : Heap) : Heap := upd (upd (upd (upd (fun id => scrubM q (scrubM 14 (scrubM 13 (scrubM 901 (scrubM 900 (h id)))))) 14 .dead) 13 .dead) 901 .dead) 900 .dead
theorem bt_one (u : UInt8) : bt ⟨#[u]⟩ 0 = (u.toNat : Int) := rfl
theorem bytesG_push (e : Nat) (t : ByteArray) (u : UInt8) (g : Nat → Nat → AV) (hg : g 0 0 = .int .u8 (u.toNat : Int)) : MOle (.row e 1 (t.size + 1) (joinRow t.size (bytesG t) g)) (.row e 1 (t ++ ⟨#[u]⟩).size (bytesG (t ++ ⟨#[u]⟩))) := by
  refine ⟨rfl, rfl, by rw [ByteArray.size_append]; rfl, fun i j hi hj => ?_⟩
  unfold joinRow bytesG
  rw [bt_app]
  by_cases hc : i < t.size
  · rw [if_pos hc, if_pos hc]; exact Le.refl _
  · rw [if_neg hc, if_neg hc]
    have h1 : i - t.size = 0 := by omega
    have h2 : j = 0 := by omega
    rw [h1, h2, hg, bt_one]
    exact Le.refl _

/-! ### arrays: an element whose place is not known as a number -/
section
variable {C : Ctx} {env : Env} {h : Heap} {o : Oper} {ops : Array Oper} {i : Nat} {rest : List Nat} {k : List Item} {x y : Operand}
end
end Go.Proofs.YtkdpmkjbfkjmdaaDoor.V

namespace Go.Proofs.YtkdpmkjbfkjmdaaDoor.V
set_option linter.unusedVariables false
set_option linter.unusedSimpArgs false
open Go Go.RowKit

/-- The edges lead down by some rank. -/
theorem go_schedR {ops : Array Oper} (r : Nat → Nat) (hlt : ∀ (i : Nat) o, ops[i]? = some o → ∀ e ∈ o.after, Region.binds .any e = true → e.on < ops.size ∧ r e.on < r i) :
    ∀ (fuel t : Nat) (listed : Array Bool) (acc : List Nat), listed.size = ops.size → listed.toList.countP (· == false) = fuel →
      ∃ rest, Region.linearise.go .any ops fuel t listed acc = acc.reverse ++ rest ∧ Sched ops listed rest := by
  intro fuel
  induction fuel with
  | zero =>
    intro t listed acc hs hc
    refine ⟨[], by simp [Region.linearise.go], fun j hj => ?_⟩
    have hj' : j < listed.size := by omega
    have hmem : listed[j] ∈ listed.toList := by simp
    have := List.countP_eq_zero.mp hc _ hmem
    rw [Array.getD_eq_getD_getElem?, Array.getElem?_eq_getElem hj']
    simpa using this
  | succ fuel ih =>
    intro t listed acc hs hc
    have hready : ∃ i, i ∈ (List.range ops.size).filter (fun i => !listed.getD i true && ((ops[i]?).map (·.after.all fun e => !Region.binds .any e || listed.getD e.on false)).getD false) := by
      have hex : ∃ j, j < ops.size ∧ listed.getD j true = false := by
        have hpos : 0 < listed.toList.countP (· == false) := by omega
        obtain ⟨b, hb, hbf⟩ := List.countP_pos_iff.mp hpos
        obtain ⟨j, hj, rfl⟩ := List.getElem_of_mem hb
        have hj' : j < listed.size := by simpa using hj
        refine ⟨j, by omega, ?_⟩
        rw [Array.getD_eq_getD_getElem?, Array.getElem?_eq_getElem hj']
        simpa using hbf
      have hmin : ∃ j, (j < ops.size ∧ listed.getD j true = false) ∧ ∀ m, r m < r j → ¬ (m < ops.size ∧ listed.getD m true = false) := by
        obtain ⟨j, hj⟩ := hex
        generalize hn : r j = n
        induction n using Nat.strongRecOn generalizing j with
        | _ n ihn =>
          by_cases hm : ∃ m, r m < r j ∧ (m < ops.size ∧ listed.getD m true = false)
          · obtain ⟨m, h1, h2⟩ := hm
            exact ihn (r m) (by omega) m h2 rfl
          · exact ⟨j, hj, fun m h1 h2 => hm ⟨m, h1, h2⟩⟩
      obtain ⟨j, ⟨h1, h2⟩, h3⟩ := hmin
      refine ⟨j, ?_⟩
      rw [List.mem_filter]
      refine ⟨List.mem_range.mpr h1, ?_⟩
      rw [h2, Array.getElem?_eq_getElem h1]
      simp only [Bool.not_false, Option.map_some, Option.getD_some, Bool.true_and, Array.all_eq_true', Bool.or_eq_true, Bool.not_eq_true']
      intro e he
      cases hb : Region.binds .any e with
      | false => exact .inl rfl
      | true =>
        obtain ⟨hsz0, hlt'⟩ := hlt j _ (Array.getElem?_eq_getElem h1) e he hb
        have := h3 e.on hlt'
        refine .inr ?_
        have hsz : e.on < listed.size := by omega
        rw [Array.getD_eq_getD_getElem?, Array.getElem?_eq_getElem hsz]
        cases hq : listed[e.on] with
        | true => rfl
        | false => exact absurd ⟨by omega, by rw [Array.getD_eq_getD_getElem?, Array.getElem?_eq_getElem hsz]; simpa using hq⟩ this
    generalize hrs : (List.range ops.size).filter (fun i => !listed.getD i true && ((ops[i]?).map (·.after.all fun e => !Region.binds .any e || listed.getD e.on false)).getD false) = rs at hready
    have hlen : 0 < rs.length := by
      obtain ⟨i, hi⟩ := hready
      exact List.length_pos_of_mem hi
    have hlt2 := Nat.mod_lt t hlen
    have hgo : Region.linearise.go .any ops (fuel + 1) t listed acc = Region.linearise.go .any ops fuel (t / rs.length) (listed.setIfInBounds rs[t % rs.length] true) (rs[t % rs.length] :: acc) := by
      simp only [Region.linearise.go]
      rw [hrs, List.getElem?_eq_getElem hlt2]
    have hin : rs[t % rs.length] ∈ rs := List.getElem_mem hlt2
    generalize rs[t % rs.length] = i at hgo hin
    rw [← hrs, List.mem_filter] at hin
    obtain ⟨hi1, hi2⟩ := hin
    have hi1 := List.mem_range.mp hi1
    rw [Bool.and_eq_true] at hi2
    have hif : listed.getD i true = false := by simpa using hi2.1
    have hil : i < listed.size := by omega
    have hif' : listed[i] = false := by
      rw [Array.getD_eq_getD_getElem?, Array.getElem?_eq_getElem hil] at hif
      simpa using hif
    obtain ⟨rest, hr1, hr2⟩ := ih (t / rs.length) (listed.setIfInBounds i true) (i :: acc) (by simpa using hs) (by
      rw [Array.toList_setIfInBounds]
      have hl : i < listed.toList.length := by simpa using hil
      have h7 := List.countP_set (p := (· == false)) (l := listed.toList) (i := i) (a := true) hl
      have e1 : listed.toList[i] = false := by simpa using hif'
      have e2 : ((true == false) = true) = False := by simp
      have e3 : ((listed.toList[i] == false) = true) = True := by rw [e1]; simp
      simp only [e2, e3, if_true, if_false] at h7
      rw [h7, hc]; rfl)
    refine ⟨i :: rest, by rw [hgo, hr1]; simp, hi1, hif, fun o ho e he hb => ?_, hr2⟩
    have h3 := hi2.2
    rw [ho] at h3
    simp only [Option.map_some, Option.getD_some, Array.all_eq_true', Bool.or_eq_true, Bool.not_eq_true'] at h3
    rcases h3 e he with h4 | h4
    · rw [hb] at h4; cases h4
    · exact h4
theorem sched_ofR {P : Program} {ops : Array Oper} (r : Nat → Nat) (hm : P.follows .mixedOrders = true) (hlt : ∀ (i : Nat) o, ops[i]? = some o → ∀ e ∈ o.after, Region.binds .any e = true → e.on < ops.size ∧ r e.on < r i) (t : Nat) :
    Sched ops (Array.replicate ops.size false) (Region.schedule (P.follows .mixedOrders) ops t) := by
  obtain ⟨rest, h1, h2⟩ := go_schedR r hlt ops.size t (Array.replicate ops.size false) [] (by simp) (by
    rw [Array.toList_replicate]
    exact (List.countP_eq_length.mpr (fun b hb => by rw [List.eq_of_mem_replicate hb]; rfl)).trans (by simp))
  rw [hm]
  simp only [Region.schedule, Bool.true_or, if_true, Region.linearise]
  rw [h1]; simpa using h2

/-- The orders that are left. -/
def readyL (ops : Array Oper) (listed : Array Bool) : List Nat := (List.range ops.size).filter fun i => !listed.getD i true && match ops.toList[i]? with
  | some o => o.after.toList.all fun e => !Region.binds .any e || listed.getD e.on false
  | none => false
def allS (ops : Array Oper) : Nat → Array Bool → List (List Nat)
  | 0, listed => cond ((List.range ops.size).all fun j => listed.getD j true) [[]] []
  | n + 1, listed => cond ((List.range ops.size).all fun j => listed.getD j true) [[]] ((readyL ops listed).flatMap fun i => (allS ops n (listed.setIfInBounds i true)).map (i :: ·))
theorem sched_len {ops : Array Oper} : ∀ (l : List Nat) (listed : Array Bool), listed.size = ops.size → Sched ops listed l → l.length ≤ listed.toList.countP (· == false)
  | [], _, _, _ => Nat.zero_le _
  | i :: rest, listed, hs, h => by
    obtain ⟨h1, h2, _, h4⟩ := h
    have ih := sched_len rest (listed.setIfInBounds i true) (by simpa using hs) h4
    have hil : i < listed.size := by omega
    have hl : i < listed.toList.length := by simpa using hil
    have h7 := List.countP_set (p := (· == false)) (l := listed.toList) (i := i) (a := true) hl
    have e1 : listed.toList[i] = false := by
      rw [Array.getD_eq_getD_getElem?, Array.getElem?_eq_getElem hil] at h2
      simpa using h2
    have e2 : ((true == false) = true) = False := by simp
    have e3 : ((listed.toList[i] == false) = true) = True := by rw [e1]; simp
    simp only [e2, e3, if_true, if_false] at h7
    rw [Array.toList_setIfInBounds, h7] at ih
    have hpos : 0 < listed.toList.countP (· == false) := List.countP_pos_iff.mpr ⟨listed.toList[i], List.getElem_mem hl, by rw [e1]; rfl⟩
    simp only [List.length_cons]; omega
theorem sched_all {ops : Array Oper} : ∀ (n : Nat) (listed : Array Bool) (l : List Nat), l.length ≤ n → Sched ops listed l → l ∈ allS ops n listed
  | n, listed, [], _, h => by
    have hall : ((List.range ops.size).all fun j => listed.getD j true) = true := List.all_eq_true.mpr fun j hj => h j (List.mem_range.mp hj)
    cases n <;> (unfold allS; rw [hall, cond_true]; simp)
  | 0, listed, i :: rest, hn, _ => by simp at hn
  | n + 1, listed, i :: rest, hn, h => by
    obtain ⟨h1, h2, h3, h4⟩ := h
    have hnot : ((List.range ops.size).all fun j => listed.getD j true) = false := by
      rw [List.all_eq_false]
      exact ⟨i, List.mem_range.mpr h1, by rw [h2]; simp⟩
    unfold allS
    rw [hnot, cond_false, List.mem_flatMap]
    refine ⟨i, ?_, List.mem_map.mpr ⟨rest, sched_all n _ rest (by simp at hn; omega) h4, rfl⟩⟩
    unfold readyL
    rw [List.mem_filter]
    refine ⟨List.mem_range.mpr h1, ?_⟩
    rw [h2, show ops.toList[i]? = some ops[i] by simp [h1]]
    simp only [Bool.not_false, Bool.true_and, List.all_eq_true, Bool.or_eq_true, Bool.not_eq_true']
    intro e he
    cases hb : Region.binds .any e with
    | false => exact .inl rfl
    | true => exact .inr (h3 _ (Array.getElem?_eq_getElem h1) e (by simpa using he) hb)

section
variable {C : Ctx} {h : Heap} {ops : Array Oper}
def unlP (ops : Array Oper) (P : Nat → Bool) (listed : Array Bool) (s : Nat) : Bool := (List.range ops.size).any fun j => P j && (!listed.getD j true && (dstOf ops j == some s))
def envP (ops : Array Oper) (P : Nat → Bool) (E : Env) (listed : Array Bool) : Env := fun s => cond (unlP ops P listed s) .u (E s)
theorem unlP_false {P : Nat → Bool} {listed : Array Bool} {s : Nat} (hs : ∀ j, P j = true → dstOf ops j = some s → listed.getD j true = true) : unlP ops P listed s = false := by
  unfold unlP
  rw [List.any_eq_false]
  intro j hj
  simp only [Bool.and_eq_true, Bool.not_eq_true', beq_iff_eq, not_and]
  intro h1 h2 h3
  rw [hs j h1 h3] at h2; cases h2
theorem unlP_true {P : Nat → Bool} {listed : Array Bool} {s : Nat} (hu : unlP ops P listed s = false) {j : Nat} (hP : P j = true) (hj : dstOf ops j = some s) : listed.getD j true = true := by
  unfold unlP at hu
  rw [List.any_eq_false] at hu
  have := hu j (List.mem_range.mpr (dstOf_lt hj))
  simp only [hP, hj, beq_self_eq_true, Bool.and_true, Bool.true_and, Bool.not_eq_true, Bool.not_eq_false'] at this
  exact this
structure StatP (ops : Array Oper) (P M : Nat → Bool) : Prop where
  look : ∀ (i : Nat) o, P i = true → ops[i]? = some o → ∀ s ∈ looks ops o, ∀ j, P j = true → dstOf ops j = some s → ∃ e ∈ o.after, Region.binds .any e = true ∧ e.on = j
  tail : ∀ (i : Nat), i < ops.size → P i = false → ∀ j, j < ops.size → M j = true → reachB ops 40 i j = true
/-- The statements of M stand ahead of all that are not in P; those that are in P only may stand anywhere, and none of P looks at the heap. -/
theorem any_okP {P M : Nat → Bool} (S : StatP ops P M) {k : List Item} {E : Env} (hall : ∀ j, j < ops.size → P j = true → OpSem C h ops E j)
    (next : ∀ l listed, listed.size = ops.size → (∀ j, j < ops.size → M j = true → listed.getD j true = true) → (∀ j, j < ops.size → P j = false → listed.getD j true = false) → Sched ops listed l → Run C (.inRegion ops l :: k) (envP ops P E listed) h) :
    ∀ (l : List Nat) (listed : Array Bool), listed.size = ops.size → (∀ j, j < ops.size → P j = false → listed.getD j true = false) → Closed ops listed → Sched ops listed l → Run C (.inRegion ops l :: k) (envP ops P E listed) h := by
  have fin : ∀ (l : List Nat) (listed : Array Bool), listed.size = ops.size → (∀ j, j < ops.size → P j = false → listed.getD j true = false) → (∀ j, j < ops.size → M j = true → listed.getD j true = true) → Sched ops listed l → Run C (.inRegion ops l :: k) (envP ops P E listed) h :=
    fun l listed hsz h2 h1 hs => next l listed hsz h1 h2 hs
  intro l
  induction l with
  | nil =>
    intro listed hsz h2 hcl hs
    exact fin [] listed hsz h2 (fun j hj _ => hs j hj) hs
  | cons i rest ih =>
    intro listed hsz h2 hcl hs
    cases hPi : P i with
    | false =>
      have hs0 := hs
      obtain ⟨hi, hil, hpre, hs'⟩ := hs
      exact fin (i :: rest) listed hsz h2 (fun j hj hPj => by
        have := reach_listed hcl 40 i hpre (S.tail i hi hPi j hj hPj)
        rw [getD_two (b := false) (by omega)]; exact this) hs0
    | true =>
    obtain ⟨hi, hil, hpre, hs'⟩ := hs
    obtain ⟨o, ho, hd, hsem⟩ := hall i hi hPi
    have hdsti : dstOf ops i = o.dst := by unfold dstOf; rw [show ops.toList[i]? = some o by simpa using ho]; rfl
    have hlk : ∀ s ∈ looks ops o, envP ops P E listed s = E s := by
      intro s hs2
      unfold envP
      rw [unlP_false (fun j hPj hj => ?_)]
      · rfl
      · obtain ⟨e, h1, h2, h3⟩ := S.look i o hPi ho s hs2 j hPj hj
        have := hpre o ho e h1 h2
        rw [h3] at this
        have hjl : j < listed.size := by rw [hsz]; exact dstOf_lt hj
        rw [getD_two (b := false) hjl]; exact this
    have hrec := ih (listed.setIfInBounds i true) (by simpa using hsz) (fun j h1 h3 => by
      rw [getD_set]
      split
      · rename_i e; rw [← e] at h3; rw [hPi] at h3; cases h3
      · exact h2 j h1 h3) (hcl.set hpre) hs'
    have hw : ∀ (want' : Bool), GuardSem ops E o want' → ∀ ι a w, Rel C (envP ops P E listed) h ι a w → Region.wanted o (yielded ops a.tmps) = want' := by
      intro want' hgs ι a w R
      unfold GuardSem at hgs
      split at hgs
      · rename_i hg; rw [hgs]; exact wanted_none hg _
      · rename_i j want hg
        obtain ⟨d, hj, hbb⟩ := hgs
        have hv := R.env d
        rw [hlk d (looks_guard hg hj)] at hv
        rcases hbb with ⟨b, hb, rfl⟩ | ⟨hb, rfl⟩
        · have hv := hb _ _ _ _ hv
          have hy : yielded ops a.tmps j = some b := by
            have hj' : (ops[j]?).bind (·.dst) = some d := by unfold dstOf at hj; simpa using hj
            unfold yielded
            rw [hj']
            rw [Array.getD_eq_getD_getElem?] at hv
            simp only [Option.bind_some]
            cases hq2 : a.tmps[d]? with
            | none => rw [hq2] at hv; cases hv
            | some u => rw [hq2] at hv; simp only [Option.getD_some] at hv; subst hv; rfl
          exact wanted_some hg hy
        · exact wanted_sk hg (yield_sk hj (hb _ _ _ _ hv))
    have hle : ∀ (x : AV), (∀ d, o.dst = some d → Le x (E d)) → ∀ s, Le (putE (envP ops P E listed) o.dst x s) (envP ops P E (listed.setIfInBounds i true) s) := by
      intro x hx s
      by_cases hsd : o.dst = some s
      · rw [hsd]
        simp only [putE, upd_same]
        unfold envP
        cases unlP ops P (listed.setIfInBounds i true) s with
        | true => exact Le.u _
        | false => exact hx s hsd
      · have e1 : putE (envP ops P E listed) o.dst x s = envP ops P E listed s := by
          cases hq : o.dst with
          | none => rfl
          | some d => exact upd_other _ _ (fun e => hsd (by rw [hq, e]))
        rw [e1]
        unfold envP
        cases hu : unlP ops P (listed.setIfInBounds i true) s with
        | true => exact Le.u _
        | false =>
          have : unlP ops P listed s = false := by
            refine unlP_false fun j hPj hj => ?_
            have := unlP_true hu hPj hj
            rw [getD_set] at this
            by_cases hij : i = j
            · subst hij; exact absurd (hdsti ▸ hj) hsd
            · rwa [if_neg hij] at this
          rw [this]; exact Le.refl _
    rcases hsem with ⟨hgs, x, hq, hx⟩ | ⟨hgs, hx⟩
    · refine Run.of_step fun ι a w b cs _ R => ?_
      obtain ⟨v, w', ι', hst, R', hv⟩ := hq _ ι a w R (fun y hy => by
        have := ev_ok R y
        cases y with
        | tmp s => have e : ev (envP ops P E listed) (.tmp s) = ev E (.tmp s) := hlk s (looks_tmp hy)
                   rw [e] at this; exact this
        | const v => exact this
        | global g => exact this
        | func f => exact this) b k cs ops i rest ho (hw true hgs ι a w R)
      exact ⟨_, h, ι', _, w', _, hst, (R'.put hv hd).weaken (hle x hx) (fun _ => MOle.refl _), hrec⟩
    · exact skip_ok ho hd (hw false hgs) (Run.weaken (hle .sk hx) (fun _ => MOle.refl _) hrec)

/-- What is asked of the region's form; all closed. -/
def drawStatP (ops : Array Oper) (P M : Nat → Bool) (r : Nat → Nat) : Bool := (List.range ops.size).all fun i => match ops.toList[i]? with
  | none => false
  | some o => (o.after.toList.all fun e => !Region.binds .any e || (Nat.blt e.on ops.size && Nat.blt (r e.on) (r i))) &&
    cond (P i) ((looks ops o).all fun s => (List.range ops.size).all fun j => !P j || match dstOf ops j with
      | some d => !(Nat.beq d s) || (o.after.toList.any fun e => Region.binds .any e && Nat.beq e.on j)
      | none => true) ((List.range ops.size).all fun j => !M j || reachB ops 40 i j)
theorem drawStatP_ok {P M : Nat → Bool} {r : Nat → Nat} (hs : drawStatP ops P M r = true) : StatP ops P M ∧ ∀ (i : Nat) o, ops[i]? = some o → ∀ e ∈ o.after, Region.binds .any e = true → e.on < ops.size ∧ r e.on < r i := by
  have key : ∀ (i : Nat) o, ops[i]? = some o → (o.after.toList.all fun e => !Region.binds .any e || (Nat.blt e.on ops.size && Nat.blt (r e.on) (r i))) = true ∧
    cond (P i) ((looks ops o).all fun s => (List.range ops.size).all fun j => !P j || match dstOf ops j with
      | some d => !(Nat.beq d s) || (o.after.toList.any fun e => Region.binds .any e && Nat.beq e.on j)
      | none => true) ((List.range ops.size).all fun j => !M j || reachB ops 40 i j) = true := by
    intro i o ho
    have hi : i < ops.size := (Array.getElem?_eq_some_iff.1 ho).1
    unfold drawStatP at hs
    have := List.all_eq_true.mp hs i (List.mem_range.mpr hi)
    have ho' : ops.toList[i]? = some o := by simpa using ho
    rw [ho'] at this
    simpa only [Bool.and_eq_true] using this
  refine ⟨⟨fun i o hP ho s hs' j hPj hj => ?_, fun i hi hP j hj hPj => ?_⟩, fun i o ho e he hb => ?_⟩
  · have h0 := (key i o ho).2
    rw [hP, cond_true] at h0
    have h2 := List.all_eq_true.mp (List.all_eq_true.mp h0 s hs') j (List.mem_range.mpr (dstOf_lt hj))
    rw [hj, hPj] at h2
    simp only [Nat.beq_refl, Bool.not_true, Bool.false_or] at h2
    obtain ⟨e, he, h3⟩ := List.any_eq_true.mp h2
    rw [Bool.and_eq_true] at h3
    exact ⟨e, by simpa using he, h3.1, Nat.eq_of_beq_eq_true h3.2⟩
  · have h0 := (key i _ (Array.getElem?_eq_getElem hi)).2
    rw [hP, cond_false] at h0
    have h2 := List.all_eq_true.mp h0 j (List.mem_range.mpr hj)
    rw [hPj] at h2
    simpa using h2
  · have := List.all_eq_true.mp (key i o ho).1 e (by simpa using he)
    rw [hb] at this
    simp only [Bool.not_true, Bool.false_or, Bool.and_eq_true, Nat.blt_eq] at this
    exact this

/-- The statements that may stand ahead, one by one; none of them is guarded, none is a call. -/
def aqI (C : Ctx) (h : Heap) (ops : Array Oper) : List Nat → Env → (Env → Prop) → Prop
  | [], env, K => K env
  | i :: r, env, K => match ops.toList[i]? with
    | some o => match o.guard, o.dst with
      | none, some d => cond (okD C (some d)) (qop C o (ev env) h (fun x => fv x fun x => aqI C h ops r (upd env d x) K) False) False
      | _, _ => False
    | none => False
/-- What is yielded later is not looked at earlier, and nothing is yielded twice. -/
def okI (ops : Array Oper) : List Nat → Bool
  | [] => true
  | i :: r => (match ops.toList[i]? with
    | some o => ((i :: r).all fun j => match dstOf ops j with
      | some d => (o.op.operands.toList.all fun y => match y with | .tmp s => !(Nat.beq s d) | _ => true) && (Nat.beq i j || !(o.dst == some d))
      | none => true)
    | none => false) && okI ops r
theorem aqI_ok : ∀ (idxs : List Nat), okI ops idxs = true → ∀ (env : Env) (ι : Loc) (a : Act) (w : World) (K : Env → Prop), Rel C env h ι a w → aqI C h ops idxs env K →
    ∃ E, K E ∧ (∀ s, (∀ j ∈ idxs, dstOf ops j ≠ some s) → E s = env s) ∧ ∀ j ∈ idxs, OpSem C h ops E j
  | [], _, env, ι, a, w, K, R, hk => ⟨env, hk, fun _ _ => rfl, fun j hj => by cases hj⟩
  | i :: r, hok, env, ι, a, w, K, R, hk => by
    unfold aqI at hk
    unfold okI at hok
    rw [Bool.and_eq_true] at hok
    cases ho : ops.toList[i]? with
    | none => rw [ho] at hk; exact hk.elim
    | some o =>
      rw [ho] at hk
      simp only [] at hk
      cases hg : o.guard with
      | some g => rw [hg] at hk; exact hk.elim
      | none =>
        rw [hg] at hk
        cases hd : o.dst with
        | none => rw [hd] at hk; exact hk.elim
        | some d =>
          rw [hd] at hk
          simp only [] at hk
          cases hb : okD C (some d) with
          | false => rw [hb] at hk; exact hk.elim
          | true =>
            rw [hb, cond_true] at hk
            have hok1 := hok.1
            rw [ho] at hok1
            simp only [] at hok1
            rcases qop_quietR R (fun y _ => ev_ok R y) hk with hf | ⟨x, hx, hq⟩
            · exact hf.elim
            · rw [fv_eq] at hx
              have hQ := hq h (fun _ _ _ _ => rfl)
              have hwant : Region.wanted o (yielded #[o] a.tmps) = true := wanted_none hg _
              obtain ⟨v, w', ι', _, R', hv⟩ := hQ env ι a w R (fun y _ => ev_ok R y) default [] [] #[o] 0 [] rfl hwant
              have hdo : okD C (some d) = true := hb
              have R2 := R'.put (d := some d) hv hdo
              obtain ⟨E, hK, hE, hS⟩ := aqI_ok r hok.2 (upd env d x) ι' _ w' K R2 hx
              have hdi : dstOf ops i = some d := by unfold dstOf; rw [ho]; exact hd
              have hlater : ∀ j ∈ r, ∀ d', dstOf ops j = some d' → (∀ s, Operand.tmp s ∈ o.op.operands → s ≠ d') ∧ (j ≠ i → d' ≠ d) := fun j hj d' hj' => by
                have h1 := List.all_eq_true.mp hok1 j (List.mem_cons_of_mem _ hj)
                rw [hj'] at h1
                simp only [Bool.and_eq_true] at h1
                refine ⟨fun s hs e => ?_, fun hne e => ?_⟩
                · have := List.all_eq_true.mp h1.1 (.tmp s) (by simpa using hs)
                  rw [e] at this
                  simp at this
                · have h2 := h1.2
                  rw [Bool.or_eq_true] at h2
                  rcases h2 with h2 | h2
                  · exact hne (Nat.eq_of_beq_eq_true h2).symm
                  · rw [hd, e] at h2; simp at h2
              have hself : ∀ s, Operand.tmp s ∈ o.op.operands → s ≠ d := fun s hs e => by
                have h1 := List.all_eq_true.mp hok1 i (List.mem_cons_self ..)
                rw [hdi] at h1
                simp only [Bool.and_eq_true] at h1
                have := List.all_eq_true.mp h1.1 (.tmp s) (by simpa using hs)
                rw [e] at this
                simp at this
              by_cases hir : i ∈ r
              · refine ⟨E, hK, fun s hs => ?_, fun j hj => ?_⟩
                · rw [hE s (fun j hj => hs j (List.mem_cons_of_mem _ hj)), upd_other _ _ (fun e => hs i (List.mem_cons_self ..) (by rw [e]; exact hdi))]
                · rcases List.mem_cons.mp hj with rfl | hj
                  · exact hS j hir
                  · exact hS j hj
              · have hEd : E d = x := by
                  rw [hE d (fun j hj e => (hlater j hj d e).2 (fun e2 => hir (e2 ▸ hj)) rfl), upd_same]
                have hEo : ∀ s, Operand.tmp s ∈ o.op.operands → E s = env s := fun s hs => by
                  rw [hE s (fun j hj e => (hlater j hj s e).1 s hs rfl), upd_other _ _ (hself s hs)]
                refine ⟨E, hK, fun s hs => ?_, fun j hj => ?_⟩
                · rw [hE s (fun j hj => hs j (List.mem_cons_of_mem _ hj)), upd_other _ _ (fun e => hs i (List.mem_cons_self ..) (by rw [e]; exact hdi))]
                · rcases List.mem_cons.mp hj with rfl | hj
                  · refine ⟨o, by simpa using ho, by rw [hd]; exact hb, .inl ⟨?_, x, hQ.congr (fun s hs => by rw [hEo s hs]; exact Le.refl _), fun d' hd' => ?_⟩⟩
                    · unfold GuardSem; rw [hg]
                    · rw [hd] at hd'; cases hd'; rw [hEd]; exact Le.refl _
                  · exact hS j hj
def memB (l : List Nat) (j : Nat) : Bool := l.any (Nat.beq j)
theorem memB_ok {l : List Nat} {j : Nat} (h : memB l j = true) : j ∈ l := by
  obtain ⟨x, hx, e⟩ := List.any_eq_true.mp h
  rw [Nat.eq_of_beq_eq_true e]; exact hx
theorem memB_of {l : List Nat} {j : Nat} (h : j ∈ l) : memB l j = true := List.any_eq_true.mpr ⟨j, h, Nat.beq_refl j⟩
theorem listed_eq {n : Nat} {P : Nat → Bool} {listed : Array Bool} (hsz : listed.size = n) (h : ∀ j, j < n → listed.getD j true = P j) : listed = ((List.range n).map P).toArray := by
  apply Array.ext
  · simp [hsz]
  · intro i h1 h2
    have := h i (by omega)
    rw [Array.getD_eq_getD_getElem?, Array.getElem?_eq_getElem h1] at this
    simpa using this
def subs {α : Type} : List α → List (List α)
  | [] => [[]]
  | a :: r => subs r ++ (subs r).map (a :: ·)
theorem filter_subs {α : Type} (p : α → Bool) : ∀ l : List α, l.filter p ∈ subs l
  | [] => List.mem_cons_self ..
  | a :: r => by
    unfold subs
    rw [List.mem_append, List.filter_cons]
    split
    · exact .inr (List.mem_map.mpr ⟨_, filter_subs p r, rfl⟩)
    · exact .inl (filter_subs p r)
/-- The free statements that did not run yet have yielded nothing. -/
def forget (ops : Array Oper) (S : List Nat) : List Nat → Env → Env
  | [], E => E
  | j :: r, E => cond (memB S j) (forget ops S r E) (match dstOf ops j with
    | some d => upd (forget ops S r E) d .u
    | none => forget ops S r E)
theorem forget_or (S : List Nat) (E : Env) (s : Nat) : ∀ l : List Nat, forget ops S l E s = .u ∨ (forget ops S l E s = E s ∧ ∀ j ∈ l, dstOf ops j = some s → memB S j = true)
  | [] => .inr ⟨rfl, fun j hj => by cases hj⟩
  | j :: r => by
    unfold forget
    have ih := forget_or S E s r
    cases hS : memB S j with
    | true =>
      rw [cond_true]
      rcases ih with h | ⟨h1, h2⟩
      · exact .inl h
      · exact .inr ⟨h1, fun m hm hd => by
          rcases List.mem_cons.mp hm with rfl | hm
          · exact hS
          · exact h2 m hm hd⟩
    | false =>
      rw [cond_false]
      cases hd : dstOf ops j with
      | none =>
        rcases ih with h | ⟨h1, h2⟩
        · exact .inl h
        · exact .inr ⟨h1, fun m hm hd2 => by
            rcases List.mem_cons.mp hm with rfl | hm
            · rw [hd] at hd2; cases hd2
            · exact h2 m hm hd2⟩
      | some d =>
        simp only []
        by_cases e : s = d
        · subst e; exact .inl (upd_same ..)
        · rw [upd_other _ _ e]
          rcases ih with h | ⟨h1, h2⟩
          · exact .inl h
          · exact .inr ⟨h1, fun m hm hd2 => by
              rcases List.mem_cons.mp hm with rfl | hm
              · rw [hd] at hd2; cases hd2; exact absurd rfl e
              · exact h2 m hm hd2⟩
/-- A region's statements in a given order. -/
def aord (C : Ctx) (ops : Array Oper) (k : List Item) : List Nat → Env → Heap → Prop
  | [], env, h => aexec C 400 (.inRegion ops [] :: k) env h
  | i :: rest, env, h => match ops.toList[i]? with
    | some o => match o.guard with
      | none => cond (okD C o.dst) (aop C o env h (fun env' h' x => fv x fun x => aord C ops k rest (putE env' o.dst x) h') (Run C (.inRegion ops (i :: rest) :: k) env h)) (Run C (.inRegion ops (i :: rest) :: k) env h)
      | some _ => Run C (.inRegion ops (i :: rest) :: k) env h
    | none => Run C (.inRegion ops (i :: rest) :: k) env h
theorem aord_ok {k : List Item} : ∀ (l : List Nat) (env : Env) (h : Heap), aord C ops k l env h → Run C (.inRegion ops l :: k) env h
  | [], env, h, hk => aexec_ok 400 hk
  | i :: rest, env, h, hk => by
    unfold aord at hk
    split at hk
    · rename_i o ho
      split at hk
      · rename_i hg
        cases hd : okD C o.dst with
        | true =>
          rw [hd, cond_true] at hk
          exact op_ok (by simpa using ho) hd (K := fun env' h' x => fv x fun x => aord C ops k rest (putE env' o.dst x) h') (fun env' h' x hx => aord_ok rest _ _ ((fv_eq _ _).mp hx)) (fun ι a w R => wanted_none hg _) hk
        | false => rw [hd, cond_false] at hk; exact hk
      · exact hk
    · exact hk
def eachL {α : Type} : List α → (α → Prop) → Prop
  | [], _ => True
  | [a], p => p a
  | a :: r, p => Both (p a) (eachL r p)
theorem eachL_ok {α : Type} {p : α → Prop} : ∀ {l : List α}, eachL l p → ∀ a ∈ l, p a
  | [], _, a, h => by cases h
  | [b], hk, a, h => by
    rcases List.mem_cons.mp h with rfl | h
    · exact hk
    · cases h
  | b :: c :: r, hk, a, h => by
    have hk : Both (p b) (eachL (c :: r) p) := hk
    rcases List.mem_cons.mp h with rfl | h
    · exact hk.1
    · exact eachL_ok hk.2 a h
/-- Draws: idxs stand ahead of all others but those of free; r is a rank along which the edges lead down; at most n statements come behind. -/
theorem Run.drawP {id : Nat} {k : List Item} {env : Env} (idxs free : List Nat) (r : Nat → Nat) (n : Nat) (hm : C.P.follows .mixedOrders = true) (hs : drawStatP ops (memB (idxs ++ free)) (memB idxs) r = true) (hok : okI ops (idxs ++ free) = true)
    (hcnt : Nat.ble (((List.range ops.size).map (memB idxs)).countP (· == false)) n = true)
    (hq : aqI C h ops (idxs ++ free) env (fun E => eachL (subs free) fun S => eachL (allS ops n ((List.range ops.size).map (memB (idxs ++ S))).toArray) fun l => aord C ops k l (forget ops S free E) h)) :
    Run C (.code (.region id ops true) :: k) env h := by
  obtain ⟨S, hedge⟩ := drawStatP_ok hs
  refine ⟨fun ι a w b cs hb hkd R => ?_⟩
  obtain ⟨E, next, henv, hall⟩ := aqI_ok (idxs ++ free) hok env ι a w _ R hq
  have hf : ∀ j, j < ops.size → (Array.replicate ops.size false).getD j true = false := fun j hj => by simp [hj]
  have hrun := any_okP S (E := E) (k := k) (C := C) (h := h) (fun j _ hj => hall j (memB_ok hj)) (fun l listed hsz hl1 hl2 hsc => by
    have hmemP : ∀ j, memB (idxs ++ free) j = true ↔ (memB idxs j = true ∨ memB free j = true) := fun j => by unfold memB; rw [List.any_append, Bool.or_eq_true]
    have e : listed = ((List.range ops.size).map (memB (idxs ++ free.filter fun j => listed.getD j true))).toArray := listed_eq hsz fun j hj => by
      cases hx : listed.getD j true with
      | true =>
        have hP : memB (idxs ++ free) j = true := by
          cases hP : memB (idxs ++ free) j with
          | true => rfl
          | false => rw [hl2 j hj hP] at hx; cases hx
        symm; refine memB_of ?_
        rcases List.mem_append.mp (memB_ok hP) with h | h
        · exact List.mem_append_left _ h
        · exact List.mem_append_right _ (List.mem_filter.mpr ⟨h, hx⟩)
      | false =>
        symm
        cases hP : memB (idxs ++ free.filter fun j => listed.getD j true) j with
        | false => rfl
        | true =>
          rcases List.mem_append.mp (memB_ok hP) with h | h
          · rw [hl1 j hj (memB_of h)] at hx; cases hx
          · rw [(List.mem_filter.mp h).2] at hx; cases hx
    have hlen := sched_len l listed hsz hsc
    have hle : listed.toList.countP (· == false) ≤ n := by
      refine Nat.le_trans ?_ (Nat.le_of_ble_eq_true hcnt)
      rw [e]
      simp only [List.countP_map]
      refine List.countP_mono_left fun j hj hx => ?_
      simp only [Function.comp, beq_iff_eq] at hx ⊢
      cases hP : memB idxs j with
      | false => rfl
      | true => rw [memB_of (List.mem_append_left _ (memB_ok hP))] at hx; cases hx
    have hn := eachL_ok (eachL_ok next _ (filter_subs (fun j => listed.getD j true) free)) l (by rw [← e]; exact sched_all n _ l (Nat.le_trans hlen hle) hsc)
    refine Run.weaken (fun s => ?_) (fun _ => MOle.refl _) (aord_ok l _ _ hn)
    rcases forget_or (ops := ops) (free.filter fun j => listed.getD j true) E s free with hu | ⟨h1, h2⟩
    · rw [hu]; exact Le.u _
    · rw [h1]
      unfold envP
      rw [unlP_false (fun j hPj hj => ?_)]
      · exact Le.refl _
      · rcases (hmemP j).mp hPj with h | h
        · exact hl1 j (dstOf_lt hj) h
        · exact (List.mem_filter.mp (memB_ok (h2 j (memB_ok h) hj))).2) (Region.schedule (C.P.follows .mixedOrders) ops (w.tape w.drawn (.order b.fn id))) (Array.replicate ops.size false) (by simp)
    (fun j hj _ => hf j hj) (fun i o ho hl => by rw [Array.getD_eq_getD_getElem?, Array.getElem?_replicate] at hl; split at hl <;> cases hl) (sched_ofR r hm hedge _)
  have Rd : Rel C env h ι a { w with drawn := w.drawn + 1 } := R.grow ((Below.refl _ _).drew)
  have R' : Rel C (envP ops (memB (idxs ++ free)) E (Array.replicate ops.size false)) h ι a { w with drawn := w.drawn + 1 } := Rd.weaken (fun s => by
    unfold envP
    cases hu : unlP ops (memB (idxs ++ free)) (Array.replicate ops.size false) s with
    | true => exact Le.u _
    | false =>
      rw [cond_false, henv s (fun j hj e => by
        have := unlP_true hu (memB_of hj) e
        rw [hf j (dstOf_lt e)] at this; cases this)]
      exact Le.refl _) (fun _ => MOle.refl _)
  obtain ⟨e, w2, fr, h1, h2, h3⟩ := hrun.run ι a _ b cs hb hkd R'
  exact ⟨e, w2, fr, h1, Comes.of_steps (.one step_region_draw) h2, h3⟩
end
/-- One statement of a region, by the engine. -/
theorem Run.one {C : Ctx} {env : Env} {h : Heap} {o : Oper} {ops : Array Oper} {i : Nat} {rest : List Nat} {k : List Item} (ho : ops.toList[i]? = some o) (hd : okD C o.dst = true) (hg : o.guard = none)
    (hk : aop C o env h (fun env' h' x => fv x fun x => Run C (.inRegion ops rest :: k) (putE env' o.dst x) h') (Run C (.inRegion ops (i :: rest) :: k) env h)) : Run C (.inRegion ops (i :: rest) :: k) env h :=
  op_ok (by simpa using ho) hd (fun env' h' x hx => (fv_eq _ _).mp hx) (fun ι a w R => wanted_none hg _) hk
end Go.Proofs.YtkdpmkjbfkjmdaaDoor.V

namespace Go.Proofs.YtkdpmkjbfkjmdaaDoor.V
set_option linter.unusedVariables false
set_option linter.unusedSimpArgs false
open Go Go.RowKit

section
variable {C : Ctx} {env : Env} {h : Heap}
/-- A closure is made. -/
theorem Run.makeFunc {ops : Array Oper} {i : Nat} {rest : List Nat} {k : List Item} {o : Oper} {f : FuncId} {xs : Array Operand} {d : Nat} (ho : ops.toList[i]? = some o) (hop : o.op = .makeFunc (.func f) #[] xs) (hdst : o.dst = some d) (hd : okD C o.dst = true) (hr : ready env ops o = true)
    (next : Run C (.inRegion ops rest :: k) (putE (scrubE d env) o.dst (.obj d)) (upd (upd (scrubH d h) d .dead) d (.clo f (xs.toList.map fun x => scrub d (ev env x))))) : Run C (.inRegion ops (i :: rest) :: k) env h :=
  Run.opG (fun env' h' z => env' = scrubE d env ∧ h' = upd (upd (scrubH d h) d .dead) d (.clo f (xs.toList.map fun x => scrub d (ev env x))) ∧ z = .obj d) ho hd hr (fun ι a w R => by
    have R' := (R.make d d (.clo f (xs.toList.map fun x => scrub d (ev env x))) (.func (.func f) #[] (xs.map a.eval)) w (Below.refl _ _) (fun _ _ => rfl) (fun _ _ _ _ _ _ => rfl) rfl (fun g hg => by cases hg) (fun g hg => by cases hg) (fun _ _ _ _ g _ e => by cases e)
      (fun ok r hok hS hrr => by
        subst hrr
        refine ⟨xs.map a.eval, rfl, by simp, fun j x hx => ?_⟩
        rw [List.getElem?_map] at hx
        cases hq : xs.toList[j]? with
        | none => rw [hq] at hx; cases hx
        | some y =>
          rw [hq] at hx; cases hx
          refine ⟨a.eval y, ?_, VR.scrub hS hok (fun _ _ => rfl) _ _ (ev_ok R y)⟩
          have hq' : xs[j]? = some y := by simpa using hq
          rw [Array.getElem?_map, hq']; rfl)).1
    refine ⟨.value (.func (.func f) #[] (xs.map a.eval)), .func (.func f) #[] (xs.map a.eval), w, _, _, _, .obj d, ?_, .inl rfl, R', ?_, rfl, rfl, rfl⟩
    · simp [execOp, hop, Instr.makeFunc]
    · show _ = upd ι d _ d 0
      rw [upd_same]) (fun env' h' y ⟨e1, e2, e3⟩ => by subst e1; subst e2; subst e3; exact next)

end
end Go.Proofs.YtkdpmkjbfkjmdaaDoor.V

namespace Go.Proofs.YtkdpmkjbfkjmdaaDoor.V
set_option linter.unusedVariables false
set_option linter.unusedSimpArgs false
open Go Go.RowKit

section
variable {C : Ctx} {env : Env} {h : Heap} {ι : Loc} {a : Act} {w : World}
end
end Go.Proofs.YtkdpmkjbfkjmdaaDoor.V


namespace Go.Proofs.YtkdpmkjbfkjmdaaDoor.V
set_option linter.unusedVariables false
set_option linter.unusedSimpArgs false
open Go Go.RowKit
set_option maxRecDepth 100000
set_option maxHeartbeats 4000000
def TB : TT := (.node 60 ⟨.struct #[⟨"addr", 57, 0, false, "", "strings", 0⟩, ⟨"buf", 58, 1, false, "", "strings", 8⟩], 2, 32, (some [.nilp, .nils]), false, true⟩ (.node 33 ⟨.struct #[⟨"Kind", 3, 0, false, "", "", 0⟩, ⟨"Texts", 32, 1, false, "", "", 8⟩, ⟨"N", 3, 2, false, "", "", 32⟩], 3, 40, (some [.int .i64 0, .nils, .int .i64 0]), false, true⟩ (.node 20 ⟨.interface #[], 1, 16, (some [.nilif]), true, false⟩ (.node 4 ⟨.bool, 1, 1, (some [.ff]), true, false⟩ (.node 3 ⟨.int .i64, 1, 8, (some [.int .i64 0]), true, false⟩ (.node 2 ⟨.int .i64, 1, 8, (some [.int .i64 0]), true, false⟩ .nil .nil) .nil) (.node 9 ⟨.string, 1, 16, (some [.str .empty]), true, false⟩ (.node 5 ⟨.int .u8, 1, 1, (some [.int .u8 0]), true, false⟩ .nil .nil) .nil)) (.node 24 ⟨.int .i64, 1, 8, (some [.int .i64 0]), true, false⟩ (.node 23 ⟨.slice 34, 1, 24, (some [.nils]), true, false⟩ (.node 21 ⟨.int .i32, 1, 4, (some [.int .i32 0]), true, false⟩ .nil .nil) .nil) (.node 32 ⟨.slice 9, 1, 24, (some [.nils]), true, false⟩ .nil .nil))) (.node 50 ⟨.struct #[⟨"s", 9, 0, false, "", "siglum/mark", 0⟩, ⟨"at", 3, 1, false, "", "siglum/mark", 16⟩], 2, 24, (some [.str .empty, .int .i64 0]), false, true⟩ (.node 47 ⟨.struct #[⟨"at", 3, 0, false, "", "siglum/mark", 0⟩], 1, 8, (some [.int .i64 0]), false, true⟩ (.node 46 ⟨.struct #[⟨"at", 3, 0, false, "", "siglum/mark", 0⟩], 1, 8, (some [.int .i64 0]), false, true⟩ (.node 34 ⟨.struct #[⟨"Kind", 3, 0, false, "", "", 0⟩, ⟨"Texts", 32, 1, false, "", "", 8⟩, ⟨"N", 3, 2, false, "", "", 32⟩], 3, 40, (some [.int .i64 0, .nils, .int .i64 0]), false, true⟩ .nil .nil) .nil) (.node 49 ⟨.pointer 51, 1, 8, (some [.nilp]), true, false⟩ .nil .nil)) (.node 58 ⟨.slice 5, 1, 24, (some [.nils]), true, false⟩ (.node 57 ⟨.pointer 60, 1, 8, (some [.nilp]), true, false⟩ (.node 51 ⟨.struct #[⟨"s", 9, 0, false, "", "siglum/mark", 0⟩, ⟨"at", 3, 1, false, "", "siglum/mark", 16⟩], 2, 24, (some [.str .empty, .int .i64 0]), false, true⟩ .nil .nil) .nil) (.node 59 ⟨.struct #[⟨"addr", 57, 0, false, "", "strings", 0⟩, ⟨"buf", 58, 1, false, "", "strings", 8⟩], 2, 32, (some [.nilp, .nils]), false, true⟩ .nil .nil)))) (.node 100 ⟨.struct #[⟨"Func", 9, 0, false, "", "", 0⟩, ⟨"Num", 9, 1, false, "", "", 16⟩, ⟨"Err", 63, 2, false, "", "", 32⟩], 3, 48, (some [.str .empty, .str .empty, .nilif]), false, false⟩ (.node 84 ⟨.int .i64, 1, 8, (some [.int .i64 0]), true, false⟩ (.node 77 ⟨.pointer 5, 1, 8, (some [.nilp]), true, false⟩ (.node 63 ⟨.interface #[("Error", 65)], 1, 16, (some [.nilif]), true, false⟩ (.node 62 ⟨.interface #[("Error", 65)], 1, 16, (some [.nilif]), true, false⟩ .nil .nil) .nil) (.node 81 ⟨.unsafePointer, 1, 8, (some [.nilp]), true, false⟩ .nil .nil)) (.node 92 ⟨.int .u64, 1, 8, (some [.int .u64 0]), true, false⟩ (.node 91 ⟨.array 24 5, 24, 24, (some [.int .u8 0, .int .u8 0, .int .u8 0, .int .u8 0, .int .u8 0, .int .u8 0, .int .u8 0, .int .u8 0, .int .u8 0, .int .u8 0, .int .u8 0, .int .u8 0, .int .u8 0, .int .u8 0, .int .u8 0, .int .u8 0, .int .u8 0, .int .u8 0, .int .u8 0, .int .u8 0, .int .u8 0, .int .u8 0, .int .u8 0, .int .u8 0]), false, false⟩ (.node 87 ⟨.pointer 101, 1, 8, (some [.nilp]), true, false⟩ .nil .nil) .nil) (.node 99 ⟨.int .u64, 1, 8, (some [.int .u64 0]), true, false⟩ .nil .nil))) (.node 111 ⟨.pointer 113, 1, 8, (some [.nilp]), true, false⟩ (.node 106 ⟨.int .u32, 1, 4, (some [.int .u32 0]), true, false⟩ (.node 105 ⟨.array 20 92, 20, 160, (some [.int .u64 0, .int .u64 0, .int .u64 0, .int .u64 0, .int .u64 0, .int .u64 0, .int .u64 0, .int .u64 0, .int .u64 0, .int .u64 0, .int .u64 0, .int .u64 0, .int .u64 0, .int .u64 0, .int .u64 0, .int .u64 0, .int .u64 0, .int .u64 0, .int .u64 0, .int .u64 0]), false, false⟩ (.node 101 ⟨.struct #[⟨"Func", 9, 0, false, "", "", 0⟩, ⟨"Num", 9, 1, false, "", "", 16⟩, ⟨"Err", 63, 2, false, "", "", 32⟩], 3, 48, (some [.str .empty, .str .empty, .nilif]), false, false⟩ .nil .nil) .nil) (.node 107 ⟨.array 65 5, 65, 65, (some [.int .u8 0, .int .u8 0, .int .u8 0, .int .u8 0, .int .u8 0, .int .u8 0, .int .u8 0, .int .u8 0, .int .u8 0, .int .u8 0, .int .u8 0, .int .u8 0, .int .u8 0, .int .u8 0, .int .u8 0, .int .u8 0, .int .u8 0, .int .u8 0, .int .u8 0, .int .u8 0, .int .u8 0, .int .u8 0, .int .u8 0, .int .u8 0, .int .u8 0, .int .u8 0, .int .u8 0, .int .u8 0, .int .u8 0, .int .u8 0, .int .u8 0, .int .u8 0, .int .u8 0, .int .u8 0, .int .u8 0, .int .u8 0, .int .u8 0, .int .u8 0, .int .u8 0, .int .u8 0, .int .u8 0, .int .u8 0, .int .u8 0, .int .u8 0, .int .u8 0, .int .u8 0, .int .u8 0, .int .u8 0, .int .u8 0, .int .u8 0, .int .u8 0, .int .u8 0, .int .u8 0, .int .u8 0, .int .u8 0, .int .u8 0, .int .u8 0, .int .u8 0, .int .u8 0, .int .u8 0, .int .u8 0, .int .u8 0, .int .u8 0, .int .u8 0, .int .u8 0]), false, false⟩ .nil .nil)) (.node 115 ⟨.array 32 5, 32, 32, (some [.int .u8 0, .int .u8 0, .int .u8 0, .int .u8 0, .int .u8 0, .int .u8 0, .int .u8 0, .int .u8 0, .int .u8 0, .int .u8 0, .int .u8 0, .int .u8 0, .int .u8 0, .int .u8 0, .int .u8 0, .int .u8 0, .int .u8 0, .int .u8 0, .int .u8 0, .int .u8 0, .int .u8 0, .int .u8 0, .int .u8 0, .int .u8 0, .int .u8 0, .int .u8 0, .int .u8 0, .int .u8 0, .int .u8 0, .int .u8 0, .int .u8 0, .int .u8 0]), false, false⟩ (.node 113 ⟨.struct #[⟨"s", 9, 0, false, "", "errors", 0⟩], 1, 16, (some [.str .empty]), false, true⟩ (.node 112 ⟨.struct #[⟨"s", 9, 0, false, "", "errors", 0⟩], 1, 16, (some [.str .empty]), false, true⟩ .nil .nil) .nil) (.node 116 ⟨.array 64 5, 64, 64, (some [.int .u8 0, .int .u8 0, .int .u8 0, .int .u8 0, .int .u8 0, .int .u8 0, .int .u8 0, .int .u8 0, .int .u8 0, .int .u8 0, .int .u8 0, .int .u8 0, .int .u8 0, .int .u8 0, .int .u8 0, .int .u8 0, .int .u8 0, .int .u8 0, .int .u8 0, .int .u8 0, .int .u8 0, .int .u8 0, .int .u8 0, .int .u8 0, .int .u8 0, .int .u8 0, .int .u8 0, .int .u8 0, .int .u8 0, .int .u8 0, .int .u8 0, .int .u8 0, .int .u8 0, .int .u8 0, .int .u8 0, .int .u8 0, .int .u8 0, .int .u8 0, .int .u8 0, .int .u8 0, .int .u8 0, .int .u8 0, .int .u8 0, .int .u8 0, .int .u8 0, .int .u8 0, .int .u8 0, .int .u8 0, .int .u8 0, .int .u8 0, .int .u8 0, .int .u8 0, .int .u8 0, .int .u8 0, .int .u8 0, .int .u8 0, .int .u8 0, .int .u8 0, .int .u8 0, .int .u8 0, .int .u8 0, .int .u8 0, .int .u8 0, .int .u8 0]), false, false⟩ .nil .nil)))))
theorem tbOk : TOk Tryd.prog TB := (TOk.node (by kernel_rfl) (by kernel_rfl) (TOk.node (by kernel_rfl) (by kernel_rfl) (TOk.node (by kernel_rfl) (by kernel_rfl) (TOk.node (by kernel_rfl) (by kernel_rfl) (TOk.node (by kernel_rfl) (by kernel_rfl) (TOk.node (by kernel_rfl) (by kernel_rfl) TOk.nil TOk.nil) TOk.nil) (TOk.node (by kernel_rfl) (by kernel_rfl) (TOk.node (by kernel_rfl) (by kernel_rfl) TOk.nil TOk.nil) TOk.nil)) (TOk.node (by kernel_rfl) (by kernel_rfl) (TOk.node (by kernel_rfl) (by kernel_rfl) (TOk.node (by kernel_rfl) (by kernel_rfl) TOk.nil TOk.nil) TOk.nil) (TOk.node (by kernel_rfl) (by kernel_rfl) TOk.nil TOk.nil))) (TOk.node (by kernel_rfl) (by kernel_rfl) (TOk.node (by kernel_rfl) (by kernel_rfl) (TOk.node (by kernel_rfl) (by kernel_rfl) (TOk.node (by kernel_rfl) (by kernel_rfl) TOk.nil TOk.nil) TOk.nil) (TOk.node (by kernel_rfl) (by kernel_rfl) TOk.nil TOk.nil)) (TOk.node (by kernel_rfl) (by kernel_rfl) (TOk.node (by kernel_rfl) (by kernel_rfl) (TOk.node (by kernel_rfl) (by kernel_rfl) TOk.nil TOk.nil) TOk.nil) (TOk.node (by kernel_rfl) (by kernel_rfl) TOk.nil TOk.nil)))) (TOk.node (by kernel_rfl) (by kernel_rfl) (TOk.node (by kernel_rfl) (by kernel_rfl) (TOk.node (by kernel_rfl) (by kernel_rfl) (TOk.node (by kernel_rfl) (by kernel_rfl) (TOk.node (by kernel_rfl) (by kernel_rfl) TOk.nil TOk.nil) TOk.nil) (TOk.node (by kernel_rfl) (by kernel_rfl) TOk.nil TOk.nil)) (TOk.node (by kernel_rfl) (by kernel_rfl) (TOk.node (by kernel_rfl) (by kernel_rfl) (TOk.node (by kernel_rfl) (by kernel_rfl) TOk.nil TOk.nil) TOk.nil) (TOk.node (by kernel_rfl) (by kernel_rfl) TOk.nil TOk.nil))) (TOk.node (by kernel_rfl) (by kernel_rfl) (TOk.node (by kernel_rfl) (by kernel_rfl) (TOk.node (by kernel_rfl) (by kernel_rfl) (TOk.node (by kernel_rfl) (by kernel_rfl) TOk.nil TOk.nil) TOk.nil) (TOk.node (by kernel_rfl) (by kernel_rfl) TOk.nil TOk.nil)) (TOk.node (by kernel_rfl) (by kernel_rfl) (TOk.node (by kernel_rfl) (by kernel_rfl) (TOk.node (by kernel_rfl) (by kernel_rfl) TOk.nil TOk.nil) TOk.nil) (TOk.node (by kernel_rfl) (by kernel_rfl) TOk.nil TOk.nil)))))
end Go.Proofs.YtkdpmkjbfkjmdaaDoor.V

namespace Go.Proofs.YtkdpmkjbfkjmdaaDoor.V
set_option linter.unusedVariables false
set_option linter.unusedSimpArgs false
open Go Go.Proofs Go.RowKit Go.Shelf
set_option maxRecDepth 100000
theorem cell_lt {w : World} {g i : Nat} {v : Value} (h : w.cell? ⟨g, i, none⟩ = some v) : g < w.heap.size := by
  rcases Nat.lt_or_ge g w.heap.size with h1 | h1
  · exact h1
  · unfold World.cell? at h
    simp [Array.getElem?_eq_none h1] at h
theorem add0 (g j : Nat) : (⟨g, 0, none⟩ : Addr).add j = ⟨g, j, none⟩ := by
  unfold Addr.add
  by_cases h : j = 0
  · simp [h]
  · simp [h]
/-- A variable that holds an error: its one cell. -/
theorem iface_cell {H : Type} {enc : TypeId × Value → H} {P : Program} {w : World} {base : Nat} {sp : Nat → Bool} {held : Bool} {fuel : Nat} {t : TypeId} {ms : Array (String × TypeId)} {cs : List Value} {nm : String} {d : DataW H} {p : List MemPlace}
    (ht : P.underlying t = some (.interface ms)) (h : DataW.trod enc P w base sp held fuel t cs = some (.iface nm d, p)) : ∃ u v, cs = [.iface u v] := by
  cases fuel with
  | zero => simp [DataW.trod] at h
  | succ fuel =>
    rcases cs with _ | ⟨x, _ | ⟨y, r⟩⟩
    · simp [DataW.trod, ht] at h
    · cases x <;> first | exact ⟨_, _, rfl⟩ | (exfalso; simp [DataW.trod, ht] at h)
    · cases x <;> (exfalso; simp [DataW.trod, ht] at h)
def ErrCell (W : World) : Prop := ∃ v, W.cell? ⟨0, 0, none⟩ = some v ∧ v.oneCell' = true
theorem globs {W : World} (h : ErrCell W) : GlobOk (fun b => b < W.heap.size) W := by
  obtain ⟨ev, hec, heo⟩ := h
  intro g
  unfold GL
  split
  · have h0 := cell_lt hec
    refine ⟨⟨0, 0, none⟩, rfl, ⟨h0, h0⟩, fun j hj => ⟨ev, ?_, heo, heo⟩⟩
    obtain rfl : j = 0 := by omega
    rw [add0]
    exact hec
  · trivial
/-- What the rows list. -/
def LD : List (String × DataW Unit) := [("math/bits.deBruijn32tab", Rows.laid_math_bits_deBruijn32tab), ("math/bits.deBruijn64tab", Rows.laid_math_bits_deBruijn64tab), ("internal/strconv.uint64pow10", Rows.laid_internal_strconv_uint64pow10), ("strconv.ErrRange", Rows.laid_strconv_ErrRange), ("strconv.ErrSyntax", Rows.laid_strconv_ErrSyntax)]
theorem tabs {W : World} (h : laidMet Tryd.prog LD W) : ErrCell W := by
  have h5 := Lib.laidMet.reads h (n := "strconv.ErrSyntax") (d := Rows.laid_strconv_ErrSyntax) (.tail _ (.tail _ (.tail _ (.tail _ (.head _)))))
  obtain ⟨g, t, cs, fuel, p, hg, hty, hvar, hd⟩ := h5
  obtain rfl := Option.some.inj ((show Tryd.prog.globalNamed "strconv.ErrSyntax" = some 0 by kernel_rfl).symm.trans hg)
  obtain rfl := Option.some.inj ((show (Tryd.prog.globals[0]?).map (·.type) = some 63 by kernel_rfl).symm.trans hty)
  obtain ⟨u, v, hcs⟩ := iface_cell (show Tryd.prog.underlying 63 = some (.interface (Tryd.prog.methodsAt 63)) by kernel_rfl) hd
  refine ⟨.iface u v, ?_, rfl⟩
  rw [World.var?_cell hg hvar 0, ← Array.getElem?_toList, hcs]; rfl
/-- A world for the witnesses: the settled one, the tables as the rows list them. -/
noncomputable def laidWorld (os : Os) : World := World.laidAll Tryd.prog os LD
theorem laidWorld_os (os : Os) : (laidWorld os).os = os := World.laidAll_os _ _ _
theorem laid_met (os : Os) (args : Array Value) : laidMet Tryd.prog LD ((laidWorld os).forCall (fun _ _ => 0) ⟨#[], args, []⟩).memory :=
  laidMet_laidAll args (by kernel_rfl) (by kernel_rfl)
theorem own : ownKnob Tryd.prog.godebug = none := by kernel_rfl
theorem laidOut : laidOutB Tryd.prog = true := by kernel_rfl
end Go.Proofs.YtkdpmkjbfkjmdaaDoor.V

namespace Go.Proofs.YtkdpmkjbfkjmdaaDoor.V
set_option linter.unusedVariables false
set_option linter.unusedSimpArgs false
open Go Go.RowKit

section
variable {C : Ctx} {k : List Item} {env : Env} {h : Heap}
end
/-! ### []byte(s): the call's own -/
theorem heap_drew {w : World} {o : Obj} {b : Nat} (h : b < w.heap.size) : (w.drew.alloc o).heap[b]? = w.heap[b]? := heap_alloc_old w.drew _ h
theorem Run.toBytesR {C : Ctx} {env : Env} {h : Heap} {o : Oper} {ops : Array Oper} {i : Nat} {rest : List Nat} {k : List Item} {src dst e d : TypeId} {x : Operand} (s : ByteArray) (ho : ops.toList[i]? = some o) (hc : o.op = .convert src dst x) (hdst' : o.dst = some d)
    (hd : okD C o.dst = true) (hr : ready env ops o = true) (hx : ev env x = .str s)
    (hsrc : C.P.underlying src = some .string) (hdst : C.P.underlying dst = some (.slice e)) (he : C.P.underlying e = some (.int .u8))
    (next : Run C (.inRegion ops rest :: k) (putE (scrubE d env) o.dst (.row d)) (upd (upd (scrubH d h) d .dead) d (.row e 1 s.size (bytesG s)))) : Run C (.inRegion ops (i :: rest) :: k) env h :=
  Run.opG (fun env' h' z => env' = scrubE d env ∧ h' = upd (upd (scrubH d h) d .dead) d (.row e 1 s.size (bytesG s)) ∧ z = .row d) ho hd hr (fun ι a w R => by
    have hv := ev_ok R x
    rw [hx] at hv
    obtain ⟨hv', hmax⟩ : a.eval x = .string s ∧ s.size ≤ maxLen := hv
    have hge := grownCap_ge w s.size 0 e
    have hmx := grownCap_le_maxLen w s.size 0 e hmax
    have hbl : Below C.B w (w.drew.alloc (.cells (bytesRow s (grownCap w s.size 0 e)) e ((bytesRow s (grownCap w s.size 0 e)).size, (bytesRow s (grownCap w s.size 0 e)).size + 1))) := (((Below.refl w.heap.size w).drew).alloc (Nat.le_refl _) _).mono R.below.size
    have hbs : (bytesRow s (grownCap w s.size 0 e)).size = grownCap w s.size 0 e := by
      unfold bytesRow
      have h9 : s.data.size = s.size := rfl
      simp only [Array.size_append, Array.size_map, Array.size_replicate]
      omega
    have R' := (R.make d d (.row e 1 s.size (bytesG s)) (.slice (some ⟨w.heap.size, 0, none⟩) s.size (grownCap w s.size 0 e)) _ hbl (fun b hb => heap_drew hb.1)
      (fun id _ _ hl g hg => heap_drew (R.base id hl g hg).2) rfl (fun g hg => by cases hg; exact ⟨R.below.size, by show _ < (w.heap.push _).size; simp⟩)
      (fun g hg hb => by cases hg; exact absurd hb.1 (Nat.lt_irrefl _)) (fun id _ _ hl g hg e => by cases e; exact absurd (R.base id hl _ hg).2 (Nat.lt_irrefl _))
      (fun ok r hok hS hr => by
        refine ⟨(bytesRow s (grownCap w s.size 0 e)).toList.take (s.size * 1), ⟨?_, .inr ⟨w.heap.size, grownCap w s.size 0 e, _, rfl, R.below.size, ⟨_, heap_alloc_new w.drew _, .inr (Nat.le_refl _)⟩, hge, hmx, by rw [hbs]; omega, rfl⟩⟩, ?_, ?_⟩
        · rw [List.length_take, Array.length_toList, hbs]; omega
        · intro u hu
          have hu := List.mem_of_mem_take hu
          unfold bytesRow at hu
          simp only [Array.toList_append, List.mem_append, Array.toList_map, List.mem_map, Array.toList_replicate, List.mem_replicate] at hu
          rcases hu with ⟨b, _, rfl⟩ | ⟨_, rfl⟩ <;> rfl
        · intro i j hi hj
          obtain rfl : j = 0 := by omega
          have hi' : i < s.data.size := hi
          refine ⟨.int .u8 (s.data[i].toNat : Int), ?_, ?_⟩
          · rw [List.getElem?_take_of_lt (by omega)]
            have := bytesRow_at s (grownCap w s.size 0 e) i hi'
            rw [← Array.getElem?_toList] at this
            simpa using this
          · show Value.int .u8 _ = .int .u8 (bt s i)
            unfold bt
            rw [List.getD, List.getElem?_eq_getElem (by simpa using hi')]; simp)).1
    refine ⟨.value (.slice (some ⟨w.heap.size, 0, none⟩) s.size (grownCap w s.size 0 e)), .slice (some ⟨w.heap.size, 0, none⟩) s.size (grownCap w s.size 0 e), _, _, _, _, .row d, ?_, .inl rfl, R', ?_, rfl, rfl, rfl⟩
    · rw [show (execOp a.eval o) = (do pure (.value (← convert src dst (a.eval x))) : Sem Next) by simp [execOp, hc]]
      rw [hv']
      simp [run_bytes_of_string w src dst e s hsrc hdst he]
    · show _ = upd ι d _ d 0
      rw [upd_same]) (fun env' h' y ⟨e1, e2, e3⟩ => by subst e1; subst e2; subst e3; exact next)
/-! ### small words on lists -/
theorem one0 {P : Nat → Prop} (h : P 0) : ∀ j, j < 1 → P j
  | 0, _ => h
  | j + 1, hj => absurd hj (by omega)
theorem drop_at {α : Type} (l : List α) (j : Nat) (z : α) (h : j < l.length) : l.drop j = l.getD j z :: l.drop (j + 1) := by
  rw [List.drop_eq_getElem_cons h, List.getD, List.getElem?_eq_getElem h]; rfl
theorem take_at {α : Type} (l : List α) (j : Nat) (z : α) (h : j < l.length) : l.take (j + 1) = l.take j ++ [l.getD j z] := by
  rw [List.take_succ_eq_append_getElem h, List.getD, List.getElem?_eq_getElem h]; rfl
theorem getD_mem' {α : Type} {l : List α} {z : α} (i : Nat) (h : i < l.length) : l.getD i z ∈ l := by
  rw [List.getD, List.getElem?_eq_getElem h]; exact List.getElem_mem h
end Go.Proofs.YtkdpmkjbfkjmdaaDoor.V

namespace Go.Proofs.YtkdpmkjbfkjmdaaDoor.V
set_option linter.unusedVariables false
set_option linter.unusedSimpArgs false
open Go Go.RowKit
section
variable {C : Ctx} {env : Env} {h : Heap} {ι : Loc} {a : Act} {w : World}
end
end Go.Proofs.YtkdpmkjbfkjmdaaDoor.V


namespace Go.Proofs.YtkdpmkjbfkjmdaaDoor.V
set_option linter.unusedVariables false
set_option linter.unusedSimpArgs false
open Go Go.Proofs Go.RowKit Go.Shelf
def lays156_ren : Go.Shelf.Ren := ⟨fun | 156 => 29 | 165 => 45 | 166 => 32 | 169 => 27 | 240 => 43 | 241 => 51 | 276 => 50 | 277 => 59 | n => n, fun | 31 => 32 | 9 => 9 | 3 => 3 | 4 => 4 | 0 => 0 | 20 => 20 | 72 => 60 | 76 => 70 | 70 => 57 | 37 => 58 | 75 => 63 | 127 => 77 | 164 => 81 | 5 => 5 | 80 => 65 | n => n, fun | n => n⟩
theorem lays156 : Go.Proofs.Lays.n156 Tryd.prog lays156_ren := {
  mixed := by kernel_rfl
  f156 := Tryd.func29.trans (congrArg some (by kernel_rfl))
  f165 := Tryd.func45.trans (congrArg some (by kernel_rfl))
  f166 := Tryd.func32.trans (congrArg some (by kernel_rfl))
  f169 := Tryd.func27.trans (congrArg some (by kernel_rfl))
  f240 := Tryd.func43.trans (congrArg some (by kernel_rfl))
  f241 := Tryd.func51.trans (congrArg some (by kernel_rfl))
  f276 := Tryd.func50.trans (congrArg some (by kernel_rfl))
  f277 := Tryd.func59.trans (congrArg some (by kernel_rfl))
  t0 := Tryd.underlying0
  a0 := Tryd.isAgg0
  z0 := Tryd.sizeOf0
  v0 := Tryd.zeroValue0
  t3 := Tryd.underlying3
  a3 := Tryd.isAgg3
  z3 := Tryd.sizeOf3
  v3 := Tryd.zeroValue3
  t4 := Tryd.underlying4
  a4 := Tryd.isAgg4
  z4 := Tryd.sizeOf4
  v4 := Tryd.zeroValue4
  t9 := Tryd.underlying9
  a9 := Tryd.isAgg9
  z9 := Tryd.sizeOf9
  v9 := Tryd.zeroValue9
  t20 := Tryd.underlying20
  a20 := Tryd.isAgg20
  z20 := Tryd.sizeOf20
  v20 := Tryd.zeroValue20
  t31 := Tryd.underlying32
  a31 := Tryd.isAgg32
  z31 := Tryd.sizeOf32
  v31 := Tryd.zeroValue32
  t37 := Tryd.underlying58
  a37 := Tryd.isAgg58
  z37 := Tryd.sizeOf58
  v37 := Tryd.zeroValue58
  t70 := Tryd.underlying57
  a70 := Tryd.isAgg57
  z70 := Tryd.sizeOf57
  v70 := Tryd.zeroValue57
  t72 := Tryd.underlying60
  a72 := Tryd.isAgg60
  z72 := Tryd.sizeOf60
  v72 := Tryd.zeroValue60
  t75 := Tryd.underlying63
  a75 := Tryd.isAgg63
  z75 := Tryd.sizeOf63
  v75 := Tryd.zeroValue63
  t76 := Tryd.underlying70
  a76 := Tryd.isAgg70
  z76 := Tryd.sizeOf70
  v76 := Tryd.zeroValue70
  t127 := Tryd.underlying77
  a127 := Tryd.isAgg77
  z127 := Tryd.sizeOf77
  v127 := Tryd.zeroValue77
  t164 := Tryd.underlying81
  a164 := Tryd.isAgg81
  z164 := Tryd.sizeOf81
  v164 := Tryd.zeroValue81 }
theorem Builder_Extra_156 : Builder.Extra Tryd.prog lays156_ren := {
  sizeBuilder := by kernel_rfl
  liesBuilder := by kernel_rfl
  t5 := Tryd.underlying5
  a5 := Tryd.isAgg5
  z5 := Tryd.sizeOf5
  v5 := Tryd.zeroValue5
  infoByte := by kernel_rfl
  cellsByte := by kernel_rfl
  sizeByte := by kernel_rfl
  neB5 := by decide }
theorem strings_Join_none (a : Option Addr) (c : Nat) (sep : ByteArray) (w : World) :
    Calls Tryd.prog 29 #[.slice a 0 c, .string sep] w fun e w' => e = .returned (.string ⟨#[]⟩) ∧ w' = w := Any.strings_Join_none lays156 Builder_Extra_156 a c sep w
theorem strings_Join (bk o c : Nat) (xs : List ByteArray) (sep : ByteArray) (w : World) (hcells : ∀ (j : Nat) x, xs[j]? = some x → w.cell? ⟨bk, o + j, none⟩ = some (.string x)) (hbk : bk < w.heap.size) (hN : xs.length ≤ 140737488355328) (hcap : xs.length ≤ c) (hlen : (Lib.join (xs.map (·.data.toList)) sep.data.toList).length ≤ 140737488355328) :
    Calls Tryd.prog 29 #[.slice (some ⟨bk, o, none⟩) xs.length c, .string sep] w fun e w' => e = .returned (.string ⟨(Lib.join (xs.map (·.data.toList)) sep.data.toList).toArray⟩) ∧ Below w.heap.size w w' := Any.strings_Join lays156 Builder_Extra_156 bk o c xs sep w hcells hbk hN hcap hlen
def lays171_ren : Go.Shelf.Ren := ⟨fun | 171 => 30 | 243 => 46 | 246 => 52 | 283 => 60 | 284 => 61 | 285 => 62 | 286 => 63 | 129 => 68 | 317 => 67 | 318 => 69 | 319 => 70 | 320 => 71 | 337 => 74 | 338 => 75 | n => n, fun | 3 => 3 | 9 => 9 | 2 => 2 | 4 => 4 | 171 => 91 | 0 => 0 | 53 => 92 | 37 => 58 | 5 => 5 | 173 => 95 | 212 => 105 | 51 => 106 | 20 => 20 | 213 => 107 | 46 => 99 | 232 => 115 | 233 => 116 | n => n, fun | 17 => 3 | 18 => 4 | 19 => 5 | n => n⟩
theorem lays171 : Go.Proofs.Lays.n171 Tryd.prog lays171_ren := {
  mixed := by kernel_rfl
  f129 := Tryd.func68.trans (congrArg some (by kernel_rfl))
  f171 := Tryd.func30.trans (congrArg some (by kernel_rfl))
  f243 := Tryd.func46.trans (congrArg some (by kernel_rfl))
  f246 := Tryd.func52.trans (congrArg some (by kernel_rfl))
  f283 := Tryd.func60.trans (congrArg some (by kernel_rfl))
  f284 := Tryd.func61.trans (congrArg some (by kernel_rfl))
  f285 := Tryd.func62.trans (congrArg some (by kernel_rfl))
  f286 := Tryd.func63.trans (congrArg some (by kernel_rfl))
  f317 := Tryd.func67.trans (congrArg some (by kernel_rfl))
  f318 := Tryd.func69.trans (congrArg some (by kernel_rfl))
  f319 := Tryd.func70.trans (congrArg some (by kernel_rfl))
  f320 := Tryd.func71.trans (congrArg some (by kernel_rfl))
  f337 := Tryd.func74.trans (congrArg some (by kernel_rfl))
  f338 := Tryd.func75.trans (congrArg some (by kernel_rfl))
  t0 := Tryd.underlying0
  a0 := Tryd.isAgg0
  z0 := Tryd.sizeOf0
  v0 := Tryd.zeroValue0
  t2 := Tryd.underlying2
  a2 := Tryd.isAgg2
  z2 := Tryd.sizeOf2
  v2 := Tryd.zeroValue2
  t3 := Tryd.underlying3
  a3 := Tryd.isAgg3
  z3 := Tryd.sizeOf3
  v3 := Tryd.zeroValue3
  t4 := Tryd.underlying4
  a4 := Tryd.isAgg4
  z4 := Tryd.sizeOf4
  v4 := Tryd.zeroValue4
  t5 := Tryd.underlying5
  a5 := Tryd.isAgg5
  z5 := Tryd.sizeOf5
  v5 := Tryd.zeroValue5
  t9 := Tryd.underlying9
  a9 := Tryd.isAgg9
  z9 := Tryd.sizeOf9
  v9 := Tryd.zeroValue9
  t20 := Tryd.underlying20
  a20 := Tryd.isAgg20
  z20 := Tryd.sizeOf20
  v20 := Tryd.zeroValue20
  t37 := Tryd.underlying58
  a37 := Tryd.isAgg58
  z37 := Tryd.sizeOf58
  v37 := Tryd.zeroValue58
  t46 := Tryd.underlying99
  a46 := Tryd.isAgg99
  z46 := Tryd.sizeOf99
  v46 := Tryd.zeroValue99
  t51 := Tryd.underlying106
  a51 := Tryd.isAgg106
  z51 := Tryd.sizeOf106
  v51 := Tryd.zeroValue106
  t53 := Tryd.underlying92
  a53 := Tryd.isAgg92
  z53 := Tryd.sizeOf92
  v53 := Tryd.zeroValue92
  t171 := Tryd.underlying91
  a171 := Tryd.isAgg91
  z171 := Tryd.sizeOf91
  v171 := Tryd.zeroValue91
  t173 := Tryd.underlying95
  a173 := Tryd.isAgg95
  z173 := Tryd.sizeOf95
  v173 := Tryd.zeroValue95
  t212 := Tryd.underlying105
  a212 := Tryd.isAgg105
  z212 := Tryd.sizeOf105
  v212 := Tryd.zeroValue105
  t213 := Tryd.underlying107
  a213 := Tryd.isAgg107
  z213 := Tryd.sizeOf107
  t232 := Tryd.underlying115
  a232 := Tryd.isAgg115
  z232 := Tryd.sizeOf115
  v232 := Tryd.zeroValue115
  t233 := Tryd.underlying116
  a233 := Tryd.isAgg116
  z233 := Tryd.sizeOf116
  v233 := Tryd.zeroValue116
  g17 := by kernel_rfl
  g18 := by kernel_rfl
  g19 := by kernel_rfl }
theorem strconv_Itoa_small (i : Nat) (hi : i < 100) (w : World) :
    Calls Tryd.prog 30 #[.int .i64 i] w fun e w' => e = .returned (.string ⟨(Lib.decDigits i).toArray⟩) ∧ w' = w := Any.strconv_Itoa_small lays171 i hi w
end Go.Proofs.YtkdpmkjbfkjmdaaDoor.V

namespace Go.Proofs.YtkdpmkjbfkjmdaaDoor.V
set_option linter.unusedVariables false
set_option linter.unusedSimpArgs false
open Go Go.Proofs Go.RowKit
/-- How a call ends. -/
inductive Res where
  | ret (r : AV)
  | pan (v : Value)
/-- The world has grown; of what was there one block alone may have changed. -/
structure BelowX (g : Nat) (w w' : World) : Prop where
  os : w'.os = w.os
  tape : w'.tape = w.tape
  output : w'.output = w.output
  size : w.heap.size ≤ w'.heap.size
  block : ∀ k, k < w.heap.size → k ≠ g → w'.heap[k]? = w.heap[k]?
def boxAt (w : World) (g : Nat) (t : TypeId) (l : List AV) : Prop :=
  ∃ cs, w.heap[g]? = some (.cells cs t (0, 0)) ∧ cs.size = l.length ∧ ∀ (j : Nat) (x : AV), l[j]? = some x → ∃ cv, cs[j]? = some cv ∧ cv.oneCell' = true ∧ VR w (fun _ => False) x noref cv
/-- A value that leads nowhere. -/
def dry (x : AV) : Bool := cond (flat x) (imm x) false
theorem dry_ok {w w' : World} {ok ok' : Nat → Prop} {x : AV} {r r' : Ref} {v : Value} (h : dry x = true) (hv : VR w ok x r v) : VR w' ok' x r' v := by
  unfold dry at h
  cases hf : flat x with
  | false => rw [hf] at h; cases h
  | true => rw [hf] at h; exact flat_ok _ _ _ hf (imm_ok _ _ _ _ h hv)
def panV (v : Value) : Ending := .panicked [{ v := v, recovered := false }]
def PostM (S : Nat → Prop) (w : World) (g : Nat) (t : TypeId) (l' : List AV) (res : Res) (e : Ending) (w' : World) : Prop :=
  BelowX g w w' ∧ boxAt w' g t l' ∧ match res with
    | .ret r => ∃ v, e = .returned v ∧ VR w' (fun b => b < w'.heap.size ∧ (S b ∨ w.heap.size ≤ b)) r noref v
    | .pan v => e = panV v
/-- The world below a block. -/
def cutW (w : World) (g : Nat) : World := { w with heap := w.heap.extract 0 g }
theorem cutW_size {w : World} {g : Nat} (hg : g ≤ w.heap.size) : (cutW w g).heap.size = g := by simp [cutW]; omega
theorem cutW_at {w : World} {g b : Nat} (hb : b < g) : (cutW w g).heap[b]? = w.heap[b]? := by
  simp [cutW, Array.getElem?_extract, hb]
  omega
/-- Called with the address of a box that reads as l, and what reads as args: the box then reads as l'; nothing else that was there has changed. -/
structure FnM (P : Program) (f : FuncId) (t : TypeId) (l args l' : List AV) (res : Res) : Prop where
  there : ∃ fn, P.funcs[f]? = some fn ∧ fn.name ≠ "runtime.NumGoroutine" ∧ fn.body.isNone = false
  calls : ∀ (S : Nat → Prop) (w : World) (g : Nat) (vs : Array Value), boxAt w g t l → (∀ b, S b → b < g) → GlobOk S (cutW w g) → args.length = vs.size →
    (∀ (i : Nat) x v, args[i]? = some x → vs[i]? = some v → VR w (fun _ => False) x noref v) → Calls P f (#[.pointer (some ⟨g, 0, none⟩)] ++ vs) w (PostM S w g t l' res)
theorem cons_zero (x : Value) (vs : Array Value) : (#[x] ++ vs)[0]? = some x := by rw [Array.getElem?_append_left (by simp)]; rfl
theorem envOf_okW {w : World} {ok : Nat → Prop} {r : Ref} {args : List AV} {vs : Array Value} {n : Nat} (hlen : args.length = vs.size) (hargs : ∀ (i : Nat) x v, args[i]? = some x → vs[i]? = some v → VR w ok x r v) (i : Nat) :
    VR w ok (envOf args i) r ((vs ++ Array.replicate n undef).getD i undef) := by
  unfold envOf
  cases hx : args[i]? with
  | none => simp only [List.getD, hx]; trivial
  | some x =>
    have hi : i < args.length := by
      rcases Nat.lt_or_ge i args.length with h' | h'
      · exact h'
      · rw [List.getElem?_eq_none h'] at hx; cases hx
    have hi2 : i < vs.size := by omega
    have := hargs i x vs[i] hx (by simp [hi2])
    simp only [List.getD, hx, Option.getD_some]
    rw [Array.getD_eq_getD_getElem?, Array.getElem?_append_left hi2]
    simpa [hi2] using this
theorem add_zero' (g : Nat) : (⟨g, 0, none⟩ : Addr).add 0 = ⟨g, 0, none⟩ := by simp [Addr.add]
def heapM (t : TypeId) (l : List AV) (w : World) (g : Nat) : Heap := upd (upd noObjs 301 (.raw w (g + 1) w.heap.size)) 300 (.box t l)
theorem heapM_at {t : TypeId} {l : List AV} {w : World} {g id : Nat} (h : heapM t l w g id ≠ .dead) : id = 300 ∨ id = 301 := by
  unfold heapM at h
  by_cases h1 : id = 300
  · exact .inl h1
  · by_cases h2 : id = 301
    · exact .inr h2
    · rw [upd_other _ _ h1, upd_other _ _ h2] at h; exact absurd rfl h
theorem FnM.of {P : Program} {f : FuncId} {t : TypeId} {l args l' : List AV} {res : Res} (fn : Func) (c : Code) (hf : P.funcs[f]? = some fn) (hb : fn.body = some c) (hname : fn.name ≠ "runtime.NumGoroutine") (hn : args.length + 1 ≤ fn.ntmps)
    {T : TT} (tok : TOk P T) (N : Nat) (hN : fn.ntmps = N)
    (hrun : ∀ S w g (gl : GlobOk S (cutW w g)) (hg : g < w.heap.size), Run { P := P, T := T, tok := tok, N := N, w0 := cutW w g, S := S, glob := gl, f := f, R := PostM S w g t l' res, kp := ⟨[], [(0, .pointer (some ⟨g, 0, none⟩))], .normal⟩ } [.code c] (envOf (.box 300 0 :: args)) (heapM t l w g)) : FnM P f t l args l' res := by
  subst hN
  refine ⟨⟨fn, hf, hname, by rw [hb]; rfl⟩, fun S w g vs hbox hS gl hlen hargs cs => ?_⟩
  let b : Frame := { (default : Frame) with fn := f, kind := .normal }
  have henter : Frame.enter P f (#[.pointer (some ⟨g, 0, none⟩)] ++ vs) .normal = b.at { tmps := (#[.pointer (some ⟨g, 0, none⟩)] ++ vs) ++ Array.replicate (fn.ntmps - (#[.pointer (some ⟨g, 0, none⟩)] ++ vs : Array Value).size) undef, defers := [] } [.code c] := by
    simp [Frame.enter, Frame.at, hf, hb, b]
  rw [henter]
  obtain ⟨ccs, hgc, hcs, hcells⟩ := hbox
  have hgs : g < w.heap.size := by
    rcases Nat.lt_or_ge g w.heap.size with h' | h'
    · exact h'
    · rw [Array.getElem?_eq_none h'] at hgc; cases hgc
  have hcut := cutW_size (Nat.le_of_lt hgs)
  let ι : Loc := upd (fun _ _ => .nilIface) 300 (fun _ => .pointer (some ⟨g, 0, none⟩))
  have h300 : ι 300 = fun _ => .pointer (some ⟨g, 0, none⟩) := upd_same _ _ _
  have h301 : ι 301 = fun _ => .nilIface := upd_other _ _ (by decide)
  have o300 : ∀ b, owns (heapM t l w g 300) (ι 300) b ↔ b = g := by
    intro b
    rw [show heapM t l w g 300 = .box t l from upd_same _ _ _, h300]
    exact ⟨fun h => (Option.some.inj h).symm, fun h => by rw [h]; rfl⟩
  have o301 : ∀ b, owns (heapM t l w g 301) (ι 301) b ↔ g + 1 ≤ b ∧ b < w.heap.size := by
    intro b
    rw [show heapM t l w g 301 = .raw w (g + 1) w.heap.size from (upd_other _ _ (by decide)).trans (upd_same _ _ _), h301]
    exact ⟨fun h => h.elim (fun h => by cases h) id, .inr⟩
  refine exK ((hrun S w g gl hgs).run ι _ w b cs rfl rfl ?_)
  constructor
  · exact ⟨rfl, rfl, rfl, by rw [hcut]; omega, fun k hk => by
      have hk : k < (cutW w g).heap.size := hk
      rw [hcut] at hk; exact (cutW_at hk).symm⟩
  · exact ⟨rfl, fun p hp => by
      obtain rfl := List.mem_singleton.mp hp
      rw [Array.getD_eq_getD_getElem?, Array.getElem?_append_left (by simp; omega), cons_zero]; rfl⟩
  · show ((#[Value.pointer (some ⟨g, 0, none⟩)] ++ vs) ++ Array.replicate (fn.ntmps - (#[Value.pointer (some ⟨g, 0, none⟩)] ++ vs : Array Value).size) undef).size = fn.ntmps
    simp; omega
  · intro i
    refine envOf_okW (by simp; omega) (fun i x v hx hv => ?_) i
    cases i with
    | zero =>
      cases hx
      rw [cons_zero] at hv
      cases hv
      exact ⟨g, by rw [h300], by rw [add_zero']⟩
    | succ i =>
      rw [List.getElem?_cons_succ] at hx
      rw [Array.getElem?_append_right (by simp)] at hv
      exact VR.mono (fun b hb => hb.elim) (fun b hb => hb.elim) _ _ _ _ (fun _ _ h => h.elim) (hargs i x v hx (by simpa using hv))
  · intro id
    by_cases hd : heapM t l w g id = .dead
    · rw [hd]; trivial
    · rcases heapM_at hd with rfl | rfl
      · rw [show heapM t l w g 300 = .box t l from upd_same _ _ _]
        refine ⟨g, ccs, by rw [h300], hgc, hcs, fun j x hx => ?_⟩
        obtain ⟨cv, c1, c2, c3⟩ := hcells j x hx
        exact ⟨cv, c1, c2, VR.mono (fun b hb => hb.elim) (fun b hb => hb.elim) _ _ _ _ (fun _ _ h => h.elim) c3⟩
      · rw [show heapM t l w g 301 = .raw w (g + 1) w.heap.size from (upd_other _ _ (by decide)).trans (upd_same _ _ _)]
        exact ⟨by rw [h301]; rfl, fun b _ _ => rfl⟩
  · intro id i
    by_cases h1 : id = 300
    · subst h1; rw [h300]; rfl
    · rw [show ι id = fun _ => .nilIface from upd_other _ _ h1]; rfl
  · intro id hl b hb
    rcases heapM_at hl with rfl | rfl
    · obtain rfl := (o300 b).mp hb
      exact ⟨Nat.le_of_eq hcut, hgs⟩
    · have := (o301 b).mp hb
      exact ⟨by show (cutW w g).heap.size ≤ b; rw [hcut]; omega, this.2⟩
  · intro id id' hl hl' hne b hb hb'
    rcases heapM_at hl with rfl | rfl <;> rcases heapM_at hl' with rfl | rfl
    · exact hne rfl
    · have := (o300 b).mp hb; have := (o301 b).mp hb'; omega
    · have := (o301 b).mp hb; have := (o300 b).mp hb'; omega
    · exact hne rfl

section
variable {C : Ctx} {env : Env} {h : Heap} {ι : Loc} {a : Act} {w : World}
/-- What the callee has done to what was there. -/
theorem Rel.lent (R : Rel C env h ι a w) {w0 : World} {g : Nat} {t : TypeId} {l' : List AV} (hw0 : C.w0 = cutW w0 g) (hg : g < w0.heap.size) (hkeep : (0, Value.pointer (some ⟨g, 0, none⟩)) ∈ C.kp.keep) (henv : env 0 = .box 300 0)
    (hbox : MOle (h 300) (.box t l')) (hfl : ∀ x ∈ l', dry x = true) (hraw : h 301 = .raw w0 (g + 1) w0.heap.size) :
    BelowX g w0 w ∧ boxAt w g t l' ∧ ι 300 0 = .pointer (some ⟨g, 0, none⟩) := by
  have h0 := R.defers.2 _ hkeep
  have he := R.env 0
  rw [henv] at he
  obtain ⟨g', e1, e2⟩ := he
  have e3 : a.tmps.getD 0 undef = .pointer (some ⟨g, 0, none⟩) := h0
  rw [add_zero', e3] at e2
  obtain rfl : g = g' := by injection e2 with e; injection e with e; injection e
  have hm := MOle.kept hbox (fun _ h => h) (fun _ _ h => h) (R.obj 300)
  obtain ⟨g2, cs, f1, f2, f3, f4⟩ := hm
  rw [e1] at f1
  obtain rfl : g = g2 := by injection f1 with e; injection e with e; injection e
  have hr := R.obj 301
  rw [hraw] at hr
  have hcut := cutW_size (Nat.le_of_lt hg)
  have hb := R.below
  rw [hw0] at hb
  have hB : C.B = g := by show C.w0.heap.size = g; rw [hw0, hcut]
  rw [hB] at hb
  have hsz : g < w.heap.size := by
    rcases Nat.lt_or_ge g w.heap.size with h' | h'
    · exact h'
    · rw [Array.getElem?_eq_none h'] at f2; cases f2
  refine ⟨⟨hb.os, hb.tape, hb.output, ?_, fun k hk hne => ?_⟩, ⟨cs, f2, f3, fun j x hx => ?_⟩, e1⟩
  · rcases Nat.lt_or_ge (g + 1) w0.heap.size with h' | h'
    · have := hr.2 (w0.heap.size - 1) (by omega) (by omega)
      rcases Nat.lt_or_ge (w0.heap.size - 1) w.heap.size with h2 | h2
      · omega
      · rw [Array.getElem?_eq_none h2, Array.getElem?_eq_getElem (by omega)] at this; cases this
    · omega
  · rcases Nat.lt_or_ge k g with h' | h'
    · exact (hb.block k h').trans (cutW_at h')
    · exact hr.2 k (by omega) hk
  · obtain ⟨cv, c1, c2, c3⟩ := f4 j x hx
    exact ⟨cv, c1, c2, dry_ok (hfl x (List.mem_of_getElem? hx)) c3⟩
/-- What is answered lies in new memory, or in what the arguments lead to. -/
theorem Rel.lentV (R : Rel C env h ι a w) {w0 : World} {g : Nat} {t : TypeId} (hw0 : C.w0 = cutW w0 g) (hg : g < w0.heap.size) (hι : ι 300 0 = .pointer (some ⟨g, 0, none⟩))
    {l' : List AV} (hbox : MOle (h 300) (.box t l')) (hraw : h 301 = .raw w0 (g + 1) w0.heap.size) {x : AV} {v : Value} (hv : VR w (okB C h ι w) x (rf h ι) v) :
    VR w (fun b => b < w.heap.size ∧ (C.S b ∨ w0.heap.size ≤ b)) (fz (upd (upd h 300 .dead) 301 .dead) x) noref v := by
  have hcut := cutW_size (Nat.le_of_lt hg)
  have hB : C.B = g := by show C.w0.heap.size = g; rw [hw0, hcut]
  have l300 : h 300 ≠ .dead := by
    intro e; rw [e] at hbox; exact hbox.elim
  have l301 : h 301 ≠ .dead := by rw [hraw]; simp
  have o300 : owns (h 300) (ι 300) g := owns_zero (by rw [hι]; rfl)
  have o301 : ∀ b, g + 1 ≤ b → b < w0.heap.size → owns (h 301) (ι 301) b := fun b h1 h2 => by rw [hraw]; exact .inr ⟨h1, h2⟩
  have hd : ∀ id, upd (upd h 300 .dead) 301 .dead id ≠ .dead → id ≠ 300 ∧ id ≠ 301 ∧ upd (upd h 300 .dead) 301 .dead id = h id := by
    intro id hl
    by_cases h1 : id = 301
    · subst h1; rw [upd_same] at hl; exact absurd rfl hl
    · rw [upd_other _ _ h1] at hl ⊢
      by_cases h2 : id = 300
      · subst h2; rw [upd_same] at hl; exact absurd rfl hl
      · rw [upd_other _ _ h2] at hl ⊢
        exact ⟨h2, h1, rfl⟩
  have hok : ∀ b, okB C h ι w b → b < w.heap.size ∧ (C.S b ∨ w0.heap.size ≤ b) := by
    intro b hb
    refine ⟨hb.1, ?_⟩
    rcases hb.2.1 with h1 | h1
    · exact .inl h1
    · rw [hB] at h1
      right
      rcases Nat.lt_or_ge b w0.heap.size with h2 | h2
      · rcases Nat.eq_or_lt_of_le h1 with h3 | h3
        · exact absurd (h3 ▸ o300) (hb.2.2 300 l300)
        · exact absurd (o301 b h3 h2) (hb.2.2 301 l301)
      · exact h2
  have hown : ∀ id, upd (upd h 300 .dead) 301 .dead id ≠ .dead → ∀ b, owns (h id) (ι id) b → b < w.heap.size ∧ (C.S b ∨ w0.heap.size ≤ b) := by
    intro id hl b hb
    obtain ⟨n1, n2, e⟩ := hd id hl
    rw [e] at hl
    have hba := R.base id hl b hb
    rw [hB] at hba
    refine ⟨hba.2, .inr ?_⟩
    rcases Nat.lt_or_ge b w0.heap.size with h2 | h2
    · rcases Nat.eq_or_lt_of_le hba.1 with h3 | h3
      · exact absurd (h3 ▸ o300) (R.apart id 300 hl l300 n1 b hb)
      · exact absurd (o301 b h3 h2) (R.apart id 301 hl l301 n2 b hb)
    · exact h2
  exact fz_ok2 R (fun id hl => (hd id hl).2.2) hok hown x v hv
theorem Run.leaveM {k : List Item} {fn : Func} {ts : List Nat} {r : AV} {w0 : World} {g : Nat} {t : TypeId} {l' : List AV} (hk : k = [] ∨ ∃ k', k = .code .ret :: k') (hR : C.R = PostM C.S w0 g t l' (.ret r)) (hw0 : C.w0 = cutW w0 g)
    (hkeep : C.kp = ⟨[], [(0, .pointer (some ⟨g, 0, none⟩))], .normal⟩) (henv : env 0 = .box 300 0) (hbox : MOle (h 300) (.box t l')) (hfl : l'.all dry = true) (hraw : h 301 = .raw w0 (g + 1) w0.heap.size) (hg : g < w0.heap.size)
    (hf : C.P.funcs[C.f]? = some fn) (hres : fn.results = (ts.map ResultVar.tmp).toArray) (hle : Le (fz (upd (upd h 300 .dead) 301 .dead) (resAV env ts)) r) : Run C k env h := by
  refine ⟨fun ι a w b cs hb hkd R => ?_⟩
  have hv : VR w (okB C h ι w) (resAV env ts) (rf h ι) (resV a.tmps ts) := by
    match ts, hle, hres with
    | [t], _, _ => exact R.env t
    | [], _, _ => exact ⟨#[], rfl, rfl, fun j hj => by cases hj⟩
    | t :: u :: ts, _, _ =>
      refine ⟨_, rfl, by simp, fun j hj => ?_⟩
      refine ⟨a.tmps.getD ((t :: u :: ts).getD j 0) undef, ?_, R.env _⟩
      rw [List.getElem?_toArray, List.getElem?_map, List.getElem?_eq_getElem hj, List.getD, List.getElem?_eq_getElem hj]
      rfl
  obtain ⟨hx, hbx, hι⟩ := R.lent hw0 hg (by rw [hkeep]; exact List.mem_singleton.mpr rfl) henv hbox (fun x hx => List.all_eq_true.mp hfl x hx) hraw
  refine ⟨.returned _, w, { b.at a k with mode := .returning }, ?_, ?_, hb, rfl, R.defers.1.trans (by rw [hkeep]), hkd, fn, by show C.P.funcs[b.fn]? = _; rw [hb]; exact hf, results_run hres a.tmps w⟩
  · rw [hR]
    exact ⟨hx, hbx, _, rfl, hle _ _ _ _ (R.lentV (t := t) hw0 hg hι hbox hraw hv)⟩
  · rcases hk with rfl | ⟨k', rfl⟩
    · exact Steps.one step_end
    · exact Steps.one step_ret
/-- The one answer is an aggregate that lies in a cell. -/
theorem Run.leaveMC {k : List Item} {fn : Func} {tt : Nat} {ty : TypeId} {m : Nat} {get : Nat → AV} {r : AV} {w0 : World} {g : Nat} {t : TypeId} {l' : List AV} (hk : k = [] ∨ ∃ k', k = .code .ret :: k') (hR : C.R = PostM C.S w0 g t l' (.ret r)) (hw0 : C.w0 = cutW w0 g)
    (hkeep : C.kp = ⟨[], [(0, .pointer (some ⟨g, 0, none⟩))], .normal⟩) (henv : env 0 = .box 300 0) (hbox : MOle (h 300) (.box t l')) (hfl : l'.all dry = true) (hraw : h 301 = .raw w0 (g + 1) w0.heap.size) (hg : g < w0.heap.size)
    (hf : C.P.funcs[C.f]? = some fn) (hres : fn.results = #[.cell tt ty]) (hp : placeAt h (env tt) = some (m, get)) (hag : isAggT C.T ty = some true) (hm : C.T.cellsOf ty ≤ m) (hle : Le (fz (upd (upd h 300 .dead) 301 .dead) (.agg (C.T.cellsOf ty) get)) r) : Run C k env h := by
  refine ⟨fun ι a w b cs hb hkd R => ?_⟩
  obtain ⟨ad, had, hc⟩ := placeAt_ok R hp (R.env tt)
  let v : Value := .agg ((List.range (C.T.cellsOf ty)).map fun j => (w.cell? (ad.add j)).getD undef).toArray
  have hv : VR w (okB C h ι w) (.agg (C.T.cellsOf ty) get) (rf h ι) v := by
    refine ⟨_, rfl, by simp, fun j hj => ?_⟩
    obtain ⟨cv, c1, c2, c3⟩ := hc j (by omega)
    exact ⟨cv, by simp [hj, c1], c2, c3⟩
  have hrun : (results fn a.tmps).run C.P w = .ok v w := by
    have hl : (loadVar ty ad).run C.P w = .ok v w := run_loadVar_agg hag _ (fun j hj => by obtain ⟨cv, c1, _⟩ := hc j (by omega); rw [c1]; rfl)
    have hm2 : (resM a.tmps (.cell tt ty)).run C.P w = .ok v w := by
      show (asAddr (a.tmps.getD tt undef) >>= fun ad => loadVar ty ad).run C.P w = _
      rw [had]
      simp only [asAddr, Sem.run_bind, Sem.run_pure, Result.andThen_ok]
      exact hl
    rw [results_eq, hres]
    have : (#[ResultVar.cell tt ty].mapM (resM a.tmps)).run C.P w = .ok #[v] w := by
      rw [show (#[ResultVar.cell tt ty] : Array ResultVar) = [ResultVar.cell tt ty].toArray from rfl, List.mapM_toArray, Sem.run_map]
      simp only [List.mapM_cons, List.mapM_nil, Sem.run_bind, Sem.run_pure, Result.andThen_ok, hm2]
    rw [Sem.run_bind, this]
    rfl
  obtain ⟨hx, hbx, hι⟩ := R.lent hw0 hg (by rw [hkeep]; exact List.mem_singleton.mpr rfl) henv hbox (fun x hx => List.all_eq_true.mp hfl x hx) hraw
  refine ⟨.returned _, w, { b.at a k with mode := .returning }, ?_, ?_, hb, rfl, R.defers.1.trans (by rw [hkeep]), hkd, fn, by show C.P.funcs[b.fn]? = _; rw [hb]; exact hf, hrun⟩
  · rw [hR]
    exact ⟨hx, hbx, _, rfl, hle _ _ _ _ (R.lentV (t := t) hw0 hg hι hbox hraw hv)⟩
  · rcases hk with rfl | ⟨k', rfl⟩
    · exact Steps.one step_end
    · exact Steps.one step_ret
/-! ### calling -/
theorem boxAt_of {q : Nat} (R : Rel C env h ι a w) {t : TypeId} {l : List AV} (hbox : MOle (h q) (.box t l)) (hfl : l.all dry = true) : ∃ g, ι q 0 = .pointer (some ⟨g, 0, none⟩) ∧ boxAt w g t l ∧ C.B ≤ g ∧ g < w.heap.size := by
  have hm := MOle.kept hbox (fun _ h => h) (fun _ _ h => h) (R.obj q)
  obtain ⟨g, cs, f1, f2, f3, f4⟩ := hm
  have hl : h q ≠ .dead := by intro e; rw [e] at hbox; exact hbox.elim
  refine ⟨g, f1, ⟨cs, f2, f3, fun j x hx => ?_⟩, R.base q hl g (owns_zero (by rw [f1]; rfl))⟩
  obtain ⟨cv, c1, c2, c3⟩ := f4 j x hx
  exact ⟨cv, c1, c2, dry_ok (List.all_eq_true.mp hfl x (List.mem_of_getElem? hx)) c3⟩
theorem glob_cut (R : Rel C env h ι a w) {g : Nat} (hB : C.B ≤ g) (hg : g < w.heap.size) : GlobOk (fun b => C.S b ∧ b < C.B) (cutW w g) := fun gid =>
  VR.mono (fun b hb => ⟨by rw [cutW_size (Nat.le_of_lt hg)]; exact Nat.lt_of_lt_of_le hb.1 hB, hb.2, hb.1⟩) (fun b hb => (cutW_at (Nat.lt_of_lt_of_le hb.1 hB)).trans (R.below.block b hb.1)) _ _ _ _ (fun _ _ h => h) (C.glob gid)
/-- The box after the call. -/
theorem Rel.lentBack (R : Rel C env h ι a w) {q g : Nat} {t : TypeId} {l l' : List AV} {w' : World} (hbox : MOle (h q) (.box t l)) (hι : ι q 0 = .pointer (some ⟨g, 0, none⟩)) (hB : C.B ≤ g) (hx : BelowX g w w') (hb : boxAt w' g t l') :
    Rel C env (upd h q (.box t l')) ι a w' := by
  have hl : h q ≠ .dead := by intro e; rw [e] at hbox; exact hbox.elim
  refine R.set q (.box t l') w' ⟨hx.os, hx.tape, hx.output, hx.size, fun k hk => hx.block k (Nat.lt_of_lt_of_le hk R.below.size) (by omega)⟩ hl (fun b hb hbs => hx.block b hbs (hb g (by rw [hι]; rfl))) (by trivial) (fun r ok hr hok hsame => ?_)
  obtain ⟨cs, h1, h2, h3⟩ := hb
  refine ⟨g, cs, hι, h1, h2, fun j x hj => ?_⟩
  obtain ⟨cv, c1, c2, c3⟩ := h3 j x hj
  exact ⟨cv, c1, c2, VR.mono (fun b hb => hb.elim) (fun b hb => hb.elim) _ _ _ _ (fun _ _ h => h.elim) c3⟩
theorem argsM (R : Rel C env h ι a w) {xs : List Operand} {args : List AV} (hargs : ArgsLe (xs.map (ev env)) args) (hfa : args.all dry = true) (i : Nat) (x : AV) (v : Value) (hx : args[i]? = some x) (hv : (xs.map a.eval).toArray[i]? = some v) : VR w (fun _ => False) x noref v := by
  have hdr := List.all_eq_true.mp hfa x (List.mem_of_getElem? hx)
  obtain ⟨x0, hx0, hle0⟩ := hargs.at.2 i x hx
  rw [List.getElem?_map] at hx0
  rw [List.getElem?_toArray, List.getElem?_map] at hv
  cases hq : xs[i]? with
  | none => rw [hq] at hx0; cases hx0
  | some y =>
    rw [hq] at hx0 hv
    cases hx0; cases hv
    exact dry_ok hdr (hle0 _ _ _ _ (ev_ok R y))
theorem callsM {q : Nat} {f : FuncId} {xs : List Operand} {x0 : Operand} {t : TypeId} {l args l' : List AV} {res : Res} (hfn : FnM C.P f t l args l' res) (R : Rel C env h ι a w) (hx0 : ev env x0 = .box q 0) (hbox : MOle (h q) (.box t l)) (hfl : l.all dry = true)
    (hargs : ArgsLe (xs.map (ev env)) args) (hfa : args.all dry = true) : ∃ g, ι q 0 = .pointer (some ⟨g, 0, none⟩) ∧ C.B ≤ g ∧ g < w.heap.size ∧ Calls C.P f ((x0 :: xs).map a.eval).toArray w (PostM (fun b => C.S b ∧ b < C.B) w g t l' res) := by
  obtain ⟨g, hι, hbx, hB, hg⟩ := boxAt_of R hbox hfl
  refine ⟨g, hι, hB, hg, ?_⟩
  have h0 := ev_ok R x0
  rw [hx0] at h0
  obtain ⟨g', e1, e2⟩ := h0
  rw [hι] at e1
  obtain rfl : g = g' := by injection e1 with e; injection e with e; injection e
  rw [add_zero'] at e2
  have := hfn.calls (fun b => C.S b ∧ b < C.B) w g (xs.map a.eval).toArray hbx (fun b hb => Nat.lt_of_lt_of_le hb.2 hB) (glob_cut R hB hg) (by rw [hargs.at.1]; simp) (argsM R hargs hfa)
  rw [show ((x0 :: xs).map a.eval).toArray = #[.pointer (some ⟨g, 0, none⟩)] ++ (xs.map a.eval).toArray by rw [List.map_cons, e2]; simp]
  exact this
theorem backM (R : Rel C env h ι a w) {q g : Nat} {t : TypeId} {l' : List AV} {w' : World} (hg : g < w.heap.size) (hB : C.B ≤ g) (hι : ι q 0 = .pointer (some ⟨g, 0, none⟩)) (hl : h q ≠ .dead) (hw : w.heap.size ≤ w'.heap.size) (b : Nat) (hb : b < w'.heap.size ∧ ((C.S b ∧ b < C.B) ∨ w.heap.size ≤ b)) : okB C (upd h q (.box t l')) ι w' b := by
  have hown : ∀ id, upd h q (.box t l') id ≠ .dead → owns (upd h q (.box t l') id) (ι id) b → C.B ≤ b ∧ b < w.heap.size := by
    intro id hid ho
    by_cases e : id = q
    · subst e
      rw [upd_same] at ho
      have : blk (ι id 0) = some b := ho
      rw [hι] at this
      obtain rfl := Option.some.inj this
      exact ⟨hB, hg⟩
    · rw [upd_other _ _ e] at hid ho
      exact R.base id hid b ho
  refine ⟨hb.1, ?_, fun id hid ho => ?_⟩
  · rcases hb.2 with h1 | h1
    · exact .inl h1.1
    · exact .inr (by have := R.below.size; have h2 : C.B ≤ w.heap.size := this; omega)
  · have := hown id hid ho
    rcases hb.2 with h1 | h1
    · omega
    · omega
theorem Run.callM {ops : Array Oper} {i : Nat} {rest : List Nat} {k : List Item} {o : Oper} {f : FuncId} {x0 : Operand} {xs : List Operand} {t : TypeId} {l args l' : List AV} {r : AV} (q : Nat) (hfn : FnM C.P f t l args l' (.ret r)) (ho : ops.toList[i]? = some o) (hc : calls? o = some (f, x0 :: xs))
    (hx0 : ev env x0 = .box q 0) (hbox : MOle (h q) (.box t l)) (hfl : l.all dry = true) (hargs : ArgsLe (xs.map (ev env)) args) (hfa : args.all dry = true) (hd : okD C o.dst = true) (hr : ready env ops o = true)
    (next : Run C (.inRegion ops rest :: k) (putE env o.dst r) (upd h q (.box t l'))) : Run C (.inRegion ops (i :: rest) :: k) env h :=
  Run.of_step fun ι a w b cs _ R => by
    have ho' : ops[i]? = some o := by simpa using ho
    have hl : h q ≠ .dead := by intro e; rw [e] at hbox; exact hbox.elim
    obtain ⟨g, hι, hB, hg, hcalls⟩ := callsM hfn R hx0 hbox hfl hargs hfa
    obtain ⟨v, w', ⟨hx, hbx, v', e, hv⟩, hst⟩ := step_call (b := b) (k := k) (cs := cs) (rest := rest) ho' (ready_ok hr R) (exec_call hc hfn.there a w) hcalls (fun e w' ⟨_, _, v, h, _⟩ => ⟨v, h⟩)
    cases e
    have R' := R.lentBack hbox hι hB hx hbx
    refine ⟨_, _, ι, _, w', _, hst, R'.put (VR.mono (fun b hb => backM R hg hB hι hl hx.size b hb) (fun _ _ => rfl) _ _ _ _ (fun _ _ h => False.elim h) hv) hd, next⟩
/-- The frame has been made to panic with v: what is left is done. -/
structure Raises (C : Ctx) (v : Value) (env : Env) (h : Heap) : Prop where
  run : ∀ ι a w (b : Frame) cs k, b.fn = C.f → b.kind = C.kp.kd → Rel C env h ι a w → ∃ e w' fr, C.R e w' ∧ Comes C.P (lone { b.at a k with mode := .panicking [{ v := v, recovered := false }] } cs w) (lone fr cs w') e ∧ fr.fn = C.f ∧ leaveK C.P C.kp.kd fr w' e
theorem Raises.of {v : Value} {fn : Func} (hds : C.kp.ds = []) (hf : C.P.funcs[C.f]? = some fn) (fin : ∀ ι a w, Rel C env h ι a w → C.R (panV v) w) : Raises C v env h :=
  ⟨fun ι a w b cs k hb hkd R => ⟨panV v, w, _, fin ι a w R, Steps.refl _ _, hb, rfl, R.defers.1.trans hds, fn, by show C.P.funcs[b.fn]? = _; rw [hb]; exact hf⟩⟩
theorem Raises.lent {v : Value} {fn : Func} {w0 : World} {g : Nat} {t : TypeId} {l' : List AV} (hR : C.R = PostM C.S w0 g t l' (.pan v)) (hw0 : C.w0 = cutW w0 g)
    (hkeep : C.kp = ⟨[], [(0, .pointer (some ⟨g, 0, none⟩))], .normal⟩) (henv : env 0 = .box 300 0) (hbox : MOle (h 300) (.box t l')) (hfl : l'.all dry = true) (hraw : h 301 = .raw w0 (g + 1) w0.heap.size) (hg : g < w0.heap.size)
    (hf : C.P.funcs[C.f]? = some fn) : Raises C v env h :=
  Raises.of (by rw [hkeep]) hf fun ι a w R => by
    obtain ⟨hx, hbx, hι⟩ := R.lent hw0 hg (by rw [hkeep]; exact List.mem_singleton.mpr rfl) henv hbox (fun x hx => List.all_eq_true.mp hfl x hx) hraw
    rw [hR]
    exact ⟨hx, hbx, rfl⟩
theorem Run.callMP {ops : Array Oper} {i : Nat} {rest : List Nat} {k : List Item} {o : Oper} {f : FuncId} {x0 : Operand} {xs : List Operand} {t : TypeId} {l args l' : List AV} {v : Value} (q : Nat) (hfn : FnM C.P f t l args l' (.pan v)) (ho : ops.toList[i]? = some o) (hc : calls? o = some (f, x0 :: xs))
    (hx0 : ev env x0 = .box q 0) (hbox : MOle (h q) (.box t l)) (hfl : l.all dry = true) (hargs : ArgsLe (xs.map (ev env)) args) (hfa : args.all dry = true) (hr : ready env ops o = true)
    (next : Raises C v env (upd h q (.box t l'))) : Run C (.inRegion ops (i :: rest) :: k) env h :=
  ⟨fun ι a w b cs hb hkd R => by
    have ho' : ops[i]? = some o := by simpa using ho
    obtain ⟨g, hι, hB, hg, hcalls⟩ := callsM hfn R hx0 hbox hfl hargs hfa
    have hg2 := stepG_op (P := C.P) (b := b) (k := k) (cs := cs) (w := w) (rest := rest) ho' (ready_ok hr R)
    obtain ⟨e, w', fr, hRe, hcomes, _, hleave⟩ := hcalls (b.at a (.inRegion ops (i :: rest) :: k) :: cs)
    obtain ⟨hx, hbx, rfl⟩ := hRe
    have henter : step C.P (lone (b.at a (.inRegion ops (i :: rest) :: k)) cs w) = .next (lone (Frame.enter C.P f ((x0 :: xs).map a.eval).toArray .normal) (b.at a (.inRegion ops (i :: rest) :: k) :: cs) w) :=
      step_lone_go (by rw [hg2]; simp [stepG.apply, exec_call hc hfn.there a w, Frame.at])
    have hst : Steps C.P (lone (b.at a (.inRegion ops (i :: rest) :: k)) cs w) (lone { b.at a (.inRegion ops (i :: rest) :: k) with mode := .panicking [{ v := v, recovered := false }] } cs w') :=
      .head henter (Steps.trans hcomes (.one (by rw [← Frame.raise_at]; exact step_leave_panicked hleave)))
    obtain ⟨e2, w2, fr2, h1, h2, h3⟩ := next.run ι a w' b cs (.inRegion ops (i :: rest) :: k) hb hkd (R.lentBack hbox hι hB hx hbx)
    exact ⟨e2, w2, fr2, h1, Comes.of_steps hst h2, h3⟩⟩
/-- panic(x) with an interface's value that is known. -/
theorem Run.panic {ops : Array Oper} {i : Nat} {rest : List Nat} {k : List Item} {o : Oper} {x : Operand} {u : TypeId} {c : Value} (ho : ops.toList[i]? = some o) (hop : o.op = .panic x) (hx : ev env x = .val (.iface u c)) (hr : ready env ops o = true)
    (next : Raises C (.iface u c) env h) : Run C (.inRegion ops (i :: rest) :: k) env h :=
  ⟨fun ι a w b cs hb hkd R => by
    have ho' : ops[i]? = some o := by simpa using ho
    have hv := ev_ok R x
    rw [hx] at hv
    have hrun : (execOp a.eval o).run C.P w = .halt (.panic (.iface u c)) w := by
      simp only [execOp, hop, hv.1]
      rfl
    have hg2 := stepG_op (P := C.P) (b := b) (k := k) (cs := cs) (w := w) (rest := rest) ho' (ready_ok hr R)
    have hst : step C.P (lone (b.at a (.inRegion ops (i :: rest) :: k)) cs w) = .next (lone { b.at a (.inRegion ops (i :: rest) :: k) with mode := .panicking [{ v := .iface u c, recovered := false }] } cs w) :=
      step_lone_go (by rw [hg2, ← Frame.raise_at]; simp [stepG.apply, hrun])
    obtain ⟨e2, w2, fr2, h1, h2, h3⟩ := next.run ι a w b cs (.inRegion ops (i :: rest) :: k) hb hkd R
    exact ⟨e2, w2, fr2, h1, Comes.of_steps (.one hst) h2, h3⟩⟩
def isStr (P : Program) (t : TypeId) : Bool := match P.underlying t with
  | some (.struct _) => true
  | _ => false
theorem isStr_und {P : Program} {t : TypeId} (h : isStr P t = true) : ∃ fs, P.underlying t = some (.struct fs) := by
  unfold isStr at h
  split at h
  · exact ⟨_, by assumption⟩
  · cases h
/-- A struct of one number becomes an interface's value. -/
theorem Run.mkIf1 {ops : Array Oper} {i : Nat} {rest : List Nat} {k : List Item} {o : Oper} {t : TypeId} {x : Operand} {kd : IntKind} {n : Int} {get : Nat → AV} (ho : ops.toList[i]? = some o) (hop : o.op = .makeInterface t x) (hx : ev env x = .agg 1 get) (hget : get 0 = .int kd n) (hts : isStr C.P t = true) (hd : okD C o.dst = true) (hr : ready env ops o = true)
    (next : Run C (.inRegion ops rest :: k) (putE env o.dst (.val (.iface t (.agg #[.int kd n])))) h) : Run C (.inRegion ops (i :: rest) :: k) env h :=
  Run.opG (fun env' h' z => env' = env ∧ h' = h ∧ z = .val (.iface t (.agg #[.int kd n]))) ho hd hr (fun ι a w R => by
    obtain ⟨fs, ht⟩ := isStr_und hts
    have hv := ev_ok R x
    rw [hx] at hv
    obtain ⟨cs, e1, e2, e3⟩ := hv
    obtain ⟨cv, c1, c2, c3⟩ := e3 0 (by decide)
    rw [hget] at c3
    have e4 : cs = #[.int kd n] := by
      apply Array.ext
      · rw [e2]; rfl
      · intro j h1 h2
        have : j = 0 := by omega
        subst this
        rw [Array.getElem?_eq_getElem h1] at c1
        have c3' : cv = .int kd n := c3
        rw [c3'] at c1
        exact Option.some.inj c1
    have hv' : a.eval x = .agg #[.int kd n] := by rw [e1, e4]
    refine OpOut.of (s := Instr.makeInterface t (a.eval x)) (by simp [execOp, hop]) (Out.same R ⟨rfl, rfl, rfl⟩ (v := .iface t (.agg #[.int kd n])) ?_ ⟨rfl, rfl⟩)
    rw [hv']
    simp [Instr.makeInterface, run_underlying ht]) (fun env' h' y ⟨e1, e2, e3⟩ => by subst e1; subst e2; subst e3; exact next)
end
end Go.Proofs.YtkdpmkjbfkjmdaaDoor.V

namespace Go.Proofs.YtkdpmkjbfkjmdaaDoor.V
set_option linter.unusedVariables false
set_option linter.unusedSimpArgs false
open Go Go.Proofs Go.RowKit
def keepOf (p : Nat → Value) : Nat → List Nat → List (Nat × Value)
  | _, [] => []
  | j, s :: sl => (s, p j) :: keepOf p (j + 1) sl
def capOf (p : Nat → Value) : Nat → List Nat → List Value
  | _, [] => []
  | j, _ :: sl => p j :: capOf p (j + 1) sl
theorem capOf_at (p : Nat → Value) : ∀ (sl : List Nat) (j i : Nat), (capOf p j sl)[i]? = if i < sl.length then some (p (j + i)) else none
  | [], j, i => by simp [capOf]
  | s :: sl, j, 0 => by simp [capOf]
  | s :: sl, j, i + 1 => by
    rw [capOf, List.getElem?_cons_succ, capOf_at p sl (j + 1) i]
    simp only [List.length_cons, Nat.add_lt_add_iff_right]
    rw [show j + 1 + i = j + (i + 1) by omega]
theorem capOf_len (p : Nat → Value) : ∀ (sl : List Nat) (j : Nat), (capOf p j sl).length = sl.length
  | [], _ => rfl
  | _ :: sl, j => by simp [capOf, capOf_len p sl (j + 1)]
theorem keepOf_mem (p : Nat → Value) : ∀ (sl : List Nat) (j : Nat) (q : Nat × Value), q ∈ keepOf p j sl → ∃ i s, sl[i]? = some s ∧ q = (s, p (j + i))
  | [], _, _, h => by cases h
  | s :: sl, j, q, h => by
    rcases List.mem_cons.mp h with rfl | h
    · exact ⟨0, s, rfl, rfl⟩
    · obtain ⟨i, s', h1, rfl⟩ := keepOf_mem p sl (j + 1) q h
      exact ⟨i + 1, s', h1, by rw [show j + 1 + i = j + (i + 1) by omega]⟩
theorem keepOf_of (p : Nat → Value) : ∀ (sl : List Nat) (j i : Nat) (s : Nat), sl[i]? = some s → (s, p (j + i)) ∈ keepOf p j sl
  | s :: sl, j, 0, s', h => by cases h; exact List.mem_cons_self
  | s :: sl, j, i + 1, s', h => by
    have := keepOf_of p sl (j + 1) i s' h
    rw [show j + 1 + i = j + (i + 1) by omega] at this
    exact List.mem_cons_of_mem _ this
/-- A closure over boxes waits. -/
def Ctx.defs (C : Ctx) (f : FuncId) (sl : List Nat) (p : Nat → Value) : Ctx := { C with kp := ⟨[{ target := .fn (.func f) (capOf p 0 sl).toArray, args := #[] }], keepOf p 0 sl, C.kp.kd⟩ }
section
variable {C : Ctx} {env : Env} {h : Heap}
theorem Run.defer {ops : Array Oper} {i : Nat} {rest : List Nat} {k : List Item} {o : Oper} {f : FuncId} {cl : Call} {y : Operand} {idc : Nat} (sl ids : List Nat) (ho : ops.toList[i]? = some o) (hop : o.op = .defer cl) (hcal : cl.callee = .value y) (hargs : cl.args = #[]) (hdst : o.dst = none)
    (hy : ev env y = .obj idc) (hc : h idc = .clo f (ids.map fun d => .box d 0)) (hsl : sl.map env = ids.map fun d => .box d 0) (hds : C.kp.ds = []) (hr : ready env ops o = true)
    (next : ∀ p, Run (C.defs f sl p) (.inRegion ops rest :: k) env h) : Run C (.inRegion ops (i :: rest) :: k) env h :=
  ⟨fun ι a w b cs hb hkd R => by
    have ho' : ops[i]? = some o := by simpa using ho
    have hv := ev_ok R y
    rw [hy] at hv
    have hv' : a.eval y = ι idc 0 := hv
    have hobj := R.obj idc
    rw [hc] at hobj
    obtain ⟨cv, hcv, hcs, hcells⟩ := hobj
    rw [hcv] at hv'
    have hlen : sl.length = ids.length := by
      have := congrArg List.length hsl
      simpa using this
    rw [List.length_map] at hcs
    let p : Nat → Value := fun j => cv.getD j undef
    have hcap : (capOf p 0 sl).toArray = cv := by
      apply Array.ext'
      apply List.ext_getElem?
      intro j
      show (capOf p 0 sl)[j]? = cv.toList[j]?
      rw [capOf_at, Array.getElem?_toList]
      by_cases hj : j < sl.length
      · rw [if_pos hj, Nat.zero_add, Array.getElem?_eq_getElem (by omega)]
        show some (cv.getD j undef) = _
        rw [Array.getD_eq_getD_getElem?, Array.getElem?_eq_getElem (by omega)]; rfl
      · rw [if_neg hj, Array.getElem?_eq_none (by omega)]
    have hrun : (execOp a.eval o).run C.P w = .ok (.defer { target := .fn (.func f) cv, args := #[] }) w := by
      simp only [execOp, hop, resolve, hcal, hv', hargs, Deferred.ofValue, Sem.run_bind, Sem.run_pure, Result.andThen_ok]
      simp
    have hg2 := stepG_op (P := C.P) (b := b) (k := k) (cs := cs) (w := w) (rest := rest) ho' (ready_ok hr R)
    let a' : Act := { a with defers := { target := .fn (.func f) cv, args := #[] } :: a.defers }
    have hfin : ({ b.at a (.inRegion ops (i :: rest) :: k) with defers := { target := .fn (.func f) cv, args := #[] } :: a.defers } : Frame).finish undef = b.at a' (.inRegion ops rest :: k) := by
      have := Frame.finish_at b a' ops i rest k undef
      rw [ho'] at this
      simp only [Option.bind_some, hdst, Act.put] at this
      exact this
    have hst : step C.P (lone (b.at a (.inRegion ops (i :: rest) :: k)) cs w) = .next (lone (b.at a' (.inRegion ops rest :: k)) cs w) := by
      refine step_lone_go ?_
      rw [hg2]
      simp only [stepG.apply, Sem.runT_eq, hrun, GStep.bare_after]
      exact congrArg (fun fr => GStep.go { frame := fr, callers := cs, status := .running, dying := none } w) hfin
    have R' : Rel (C.defs f sl p) env h ι a' w := by
      refine ⟨R.below, ⟨?_, ?_⟩, R.size, R.env, R.obj, R.one, R.base, R.apart⟩
      · show _ :: a.defers = [_]
        rw [R.defers.1, hds, hcap]
      · intro q hq
        obtain ⟨j, s, h1, rfl⟩ := keepOf_mem p sl 0 q hq
        rw [Nat.zero_add]
        have hj : j < sl.length := by
          rcases Nat.lt_or_ge j sl.length with h' | h'
          · exact h'
          · rw [List.getElem?_eq_none h'] at h1; cases h1
        have e1 : env s = .box (ids[j]'(by omega)) 0 := by
          have := congrArg (fun l : List AV => l[j]?) hsl
          simp only [List.getElem?_map, h1, List.getElem?_eq_getElem (show j < ids.length by omega), Option.map_some] at this
          exact Option.some.inj this
        obtain ⟨u, u1, u2⟩ := hcells j (.box (ids[j]'(by omega)) 0) (by rw [List.getElem?_map, List.getElem?_eq_getElem (show j < ids.length by omega)]; rfl)
        have e2 := R.env s
        rw [e1] at e2
        obtain ⟨g, g1, g2⟩ := e2
        obtain ⟨g', g1', g2'⟩ := u2
        rw [g1] at g1'
        obtain rfl : g = g' := by injection g1' with e; injection e with e; injection e
        show a.tmps.getD s undef = cv.getD j undef
        rw [g2, Array.getD_eq_getD_getElem?, u1, g2']; rfl
    obtain ⟨e2, w2, fr2, h1, h2, h3⟩ := (next p).run ι a' w b cs hb hkd R'
    exact ⟨e2, w2, fr2, h1, Comes.of_steps (.one hst) h2, h3⟩⟩
/-! ### objects under other names -/
def sw (p q : Nat) (id : Nat) : Nat := cond (Nat.beq id p) q (cond (Nat.beq id q) p id)
theorem sw_sw (p q id : Nat) : sw p q (sw p q id) = id := by
  unfold sw
  by_cases h1 : id = p
  · subst h1
    rw [Nat.beq_refl, cond_true]
    by_cases h2 : q = id
    · subst h2; rw [Nat.beq_refl, cond_true]
    · rw [beq_ne h2, cond_false, Nat.beq_refl, cond_true]
  · rw [beq_ne h1, cond_false]
    by_cases h2 : id = q
    · subst h2; rw [Nat.beq_refl, cond_true, Nat.beq_refl, cond_true]
    · rw [beq_ne h2, cond_false, beq_ne h1, cond_false, beq_ne h2, cond_false]
theorem sw_ne {p q i j : Nat} (h : i ≠ j) : sw p q i ≠ sw p q j := fun e => h (by rw [← sw_sw p q i, e, sw_sw])
def swA (p q : Nat) : AV → AV := mapRef (fun _ => true) (sw p q)
def swE (p q : Nat) (env : Env) : Env := fun i => swA p q (env i)
def swH (p q : Nat) (h : Heap) : Heap := fun id => scrM (swA p q) (h (sw p q id))
theorem Rel.swap {ι : Loc} {a : Act} {w : World} (R : Rel C env h ι a w) (p q : Nat) : Rel C (swE p q env) (swH p q h) (fun id => ι (sw p q id)) a w := by
  have S := mapRef_scr (fun _ => true) (sw p q)
  have dead : ∀ {σ : AV → AV} {m : MO}, scrM σ m ≠ .dead → m ≠ .dead := fun hl e => hl (scrM_dead.mpr e)
  have hσ : ∀ ok x v, rf h ι x v → VR w ok (swA p q x) (rf (swH p q h) (fun id => ι (sw p q id))) v := fun ok x v hr =>
    rf_mapRef (σ := swA p q) (fun id _ => ⟨by show ι (sw p q (sw p q id)) = _; rw [sw_sw], .inr (by show scrM (swA p q) (h (sw p q (sw p q id))) = _; rw [sw_sw])⟩) hr
  have how : ∀ id g, owns (swH p q h id) (ι (sw p q id)) g ↔ owns (h (sw p q id)) (ι (sw p q id)) g := fun id g => owns_scrM
  have hok : ∀ b, okB C h ι w b → okB C (swH p q h) (fun id => ι (sw p q id)) w b := fun b hb => ⟨hb.1, hb.2.1, fun id hl hg => hb.2.2 _ (dead hl) ((how id b).mp hg)⟩
  refine ⟨R.below, R.defers, R.size, fun i => VR.scr S (hσ _) hok (fun _ _ => rfl) _ _ (R.env i), fun id => MR.scr S (hσ _) hok (fun _ _ => rfl) (fun _ _ => rfl) (R.obj (sw p q id)), fun id i => R.one _ i, fun id hl g hg => R.base _ (dead hl) g ((how id g).mp hg), fun id id' hl hl' hne g hg hg' => R.apart _ _ (dead hl) (dead hl') (sw_ne hne) g ((how id g).mp hg) ((how id' g).mp hg')⟩
theorem Run.swap {k : List Item} (p q : Nat) (hr : Run C k (swE p q env) (swH p q h)) : Run C k env h :=
  ⟨fun ι a w b cs hb hkd R => hr.run _ a w b cs hb hkd (R.swap p q)⟩
/-- The frame is being left, in this mode. -/
structure Unw (C : Ctx) (u : FrameMode) (env : Env) (h : Heap) : Prop where
  run : ∀ ι a w (b : Frame) cs k, b.fn = C.f → b.kind = C.kp.kd → Rel C env h ι a w → ∃ e w' fr, C.R e w' ∧ Comes C.P (lone { b.at a k with mode := u } cs w) (lone fr cs w') e ∧ fr.fn = C.f ∧ leaveK C.P C.kp.kd fr w' e
theorem Unw.raises {v : Value} (hu : Unw C (.panicking [{ v := v, recovered := false }]) env h) : Raises C v env h := ⟨hu.run⟩
theorem Unw.ret {k : List Item} (hk : k = [] ∨ ∃ k', k = .code .ret :: k') (hu : Unw C .returning env h) : Run C k env h :=
  ⟨fun ι a w b cs hb hkd R => by
    obtain ⟨e2, w2, fr2, h1, h2, h3⟩ := hu.run ι a w b cs k hb hkd R
    refine ⟨e2, w2, fr2, h1, Comes.of_steps (.one ?_) h2, h3⟩
    rcases hk with rfl | ⟨k', rfl⟩
    · exact step_end
    · exact step_ret⟩
theorem Unw.to {u : FrameMode} (l : List (Nat × AV)) (lh : List (Nat × MO)) (he : fits env l) (hh : fitsH h lh) (hu : Unw C u (lst l) (lstH lh)) : Unw C u env h :=
  ⟨fun ι a w b cs k hb hkd R => hu.run ι a w b cs k hb hkd (R.weaken (fits_le he) (fitsH_le hh))⟩
/-- What the frame answers. -/
def Fini (C : Ctx) (env : Env) (h : Heap) : Prop := ∀ ι a w, Rel C env h ι a w → ∃ fn v, C.P.funcs[C.f]? = some fn ∧ (results fn a.tmps).run C.P w = .ok v w ∧ C.R (.returned v) w
def Ctx.subD (C : Ctx) (f : FuncId) (N : Nat) (a : Act) : Ctx := { C with N := N, f := f, R := RetQ C a (fun env' h' _ => Fini C env' h'), kp := ⟨[], [], .deferred⟩ }
theorem Unw.deferred {u u' : FrameMode} {f : FuncId} {sl : List Nat} {p : Nat → Value} (F : Nat) (fn : Func) (c : Code) (N : Nat) {k0 : List Item} {x : Value} (X : AV) {d0 : Nat}
    (hds : C.kp.ds = [{ target := .fn (.func f) (capOf p 0 sl).toArray, args := #[] }]) (hkeep : C.kp.keep = keepOf p 0 sl) (hu : u ≠ .run) (hset : settle u' = .returning)
    (hf : C.P.funcs[f]? = some fn) (hb : fn.body = some c) (hname : fn.name ≠ "runtime.NumGoroutine") (hN : fn.ntmps = N) (hn : sl.length ≤ N) (hd0 : d0 < N)
    (pre : ∀ (b : Frame) (a : Act) (cl : Frame) (cs : List Frame) (w : World), b.kind = .deferred → cl.mode = u → Steps C.P (lone (b.at a [.code c]) (cl :: cs) w) (lone (b.at (a.put (some d0) x) k0) ({ cl with mode := u' } :: cs) w))
    (hX : ∀ w ok r, VR w ok X r x)
    (sub : ∀ a : Act, a.tmps.size = C.N → DK C.kp a → Run (C.subD f N a) k0 (upd (envOf (sl.map (scrubE F env))) d0 X) (upd (upd (scrubH F h) F .dead) F (.frame a.tmps (scrubE F env)))) : Unw C u env h := by
  subst hN
  refine ⟨fun ι a w b cs k hbf hkd R => ?_⟩
  obtain ⟨R2, hok2, S2⟩ := R.make F F (.frame a.tmps (scrubE F env)) .nilIface w (Below.refl _ _) (fun _ _ => rfl) (fun _ _ _ _ _ _ => rfl) rfl (fun g hg => by cases hg) (fun g hg => by cases hg) (fun _ _ _ _ g _ e => by cases e)
    (fun ok r hok hS hrr => by
      subst hrr
      exact fun j => VR.scrub hS hok (fun _ _ => rfl) _ _ (R.env j))
  let fr0 : Frame := { b.at a k with mode := u }
  have hinv : (invoke (.fn (.func f) (capOf p 0 sl).toArray) #[]).run C.P w = .ok (.enter f (capOf p 0 sl).toArray) w := by
    have h2' : (fn.name == "runtime.NumGoroutine") = false := by simpa using hname
    have h3 : fn.body.isNone = false := by rw [hb]; rfl
    simp only [invoke, callFunc, program, Sem.run_bind, Sem.run_pure, Result.andThen_ok, Sem.run, hf, h2', h3, Bool.false_eq_true, if_false]
    simp
  have h1 := step_defer (P := C.P) (fr := fr0) (cs := cs) (w := w) (ds := []) (f := f) (args := (capOf p 0 sl).toArray) hu (show a.defers = _ from R.defers.1.trans hds) rfl hinv
  let b2 : Frame := { (default : Frame) with fn := f, kind := .deferred }
  let a2 : Act := { tmps := (capOf p 0 sl).toArray ++ Array.replicate (fn.ntmps - (capOf p 0 sl).toArray.size) undef, defers := [] }
  have henter : Frame.enter C.P f (capOf p 0 sl).toArray .deferred = b2.at a2 [.code c] := by
    simp [Frame.enter, Frame.at, hf, hb, b2, a2]
  rw [henter] at h1
  let cl : Frame := { fr0 with defers := [] }
  have h2 := pre b2 a2 cl cs w rfl rfl
  have hsz : (capOf p 0 sl).toArray.size = sl.length := by simp [capOf_len]
  have Rs : Rel (C.subD f fn.ntmps a) (upd (envOf (sl.map (scrubE F env))) d0 X) (upd (upd (scrubH F h) F .dead) F (.frame a.tmps (scrubE F env))) (upd ι F (fun _ => .nilIface)) (a2.put (some d0) x) w := by
    have Rs0 : Rel (C.subD f fn.ntmps a) (envOf (sl.map (scrubE F env))) (upd (upd (scrubH F h) F .dead) F (.frame a.tmps (scrubE F env))) (upd ι F (fun _ => .nilIface)) a2 w := by
      refine ⟨R.below, ⟨rfl, fun _ h => nomatch h⟩, ?_, fun j => ?_, R2.obj, R2.one, R2.base, R2.apart⟩
      · show ((capOf p 0 sl).toArray ++ Array.replicate (fn.ntmps - (capOf p 0 sl).toArray.size) undef).size = fn.ntmps
        rw [Array.size_append, Array.size_replicate, hsz]; omega
      · show VR w _ (envOf (sl.map (scrubE F env)) j) _ (((capOf p 0 sl).toArray ++ Array.replicate (fn.ntmps - (capOf p 0 sl).toArray.size) undef).getD j undef)
        unfold envOf
        cases hx : sl[j]? with
        | none =>
          have : (sl.map (scrubE F env)).getD j .u = .u := by simp [List.getD, hx]
          rw [this]; trivial
        | some s =>
          have hj : j < sl.length := by
            rcases Nat.lt_or_ge j sl.length with h' | h'
            · exact h'
            · rw [List.getElem?_eq_none h'] at hx; cases hx
          have e1 : (sl.map (scrubE F env)).getD j .u = scrubE F env s := by simp [List.getD, hx]
          have e2 : ((capOf p 0 sl).toArray ++ Array.replicate (fn.ntmps - (capOf p 0 sl).toArray.size) undef).getD j undef = a.tmps.getD s undef := by
            rw [Array.getD_eq_getD_getElem?, Array.getElem?_append_left (by rw [hsz]; exact hj), List.getElem?_toArray, capOf_at, if_pos hj, Nat.zero_add]
            exact (R.defers.2 (s, p j) (by rw [hkeep]; have := keepOf_of p sl 0 j s hx; rwa [Nat.zero_add] at this)).symm
          rw [e1, e2]
          exact R2.env s
    exact Rs0.put (d := some d0) (hX _ _ _) (by show cond (Nat.blt d0 fn.ntmps) _ _ = true; rw [show Nat.blt d0 fn.ntmps = true by rw [Nat.blt_eq]; exact hd0]; rfl)
  obtain ⟨e, w', fr, hq, hcomes, hfn, hlv⟩ := (sub a R.size R.defers).run _ _ w b2 ({ cl with mode := u' } :: cs) rfl rfl Rs
  obtain ⟨v, ι', env', h', y, rfl, R', hy, hfin⟩ := hq
  obtain ⟨fnC, v2, hfC, hres, hRv⟩ := hfin ι' a w' R'
  obtain ⟨g1, g2, g3, g4⟩ := hlv
  have h3 := step_going_returned (P := C.P) (fr := fr) (c := { cl with mode := u' }) (cs := cs) (w := w') (v := v) g3 ⟨g1, g2, g4⟩
  refine ⟨.returned v2, w', { { cl with mode := u' } with mode := settle u' }, hRv, ?_, hbf, hset, rfl, hkd, fnC, ?_, hres⟩
  · exact Steps.trans (.head h1 (Steps.trans h2 hcomes)) (.one h3)
  · show C.P.funcs[b.fn]? = _
    rw [hbf]; exact hfC
/-- Back from the closure. -/
theorem Run.backD {a : Act} {f : FuncId} {N : Nat} {k : List Item} (F : Nat) {E : Env} {fn : Func} (hsz : a.tmps.size = C.N) (hdf : DK C.kp a) (hk : k = [] ∨ ∃ k', k = .code .ret :: k')
    (hfr : h F = .frame a.tmps E) (hf : C.P.funcs[f]? = some fn) (hres : fn.results = #[]) (hK : Fini C E (upd h F .dead)) : Run (C.subD f N a) k env h := by
  refine ⟨fun ι a2 w b cs hb hkd R => ?_⟩
  obtain ⟨R2, hok, hrf⟩ := R.kill F
  have hfo : ∀ i, VR w (okB (C.subD f N a) h ι w) (E i) (rf h ι) (a.tmps.getD i undef) := by
    have := R.obj F
    rw [hfr] at this
    exact this
  have Rc : Rel C E (upd h F .dead) ι a w := by
    constructor
    · exact R2.below
    · exact hdf
    · exact hsz
    · exact fun i => VR.mono hok (fun _ _ => rfl) _ _ _ _ hrf (hfo i)
    · exact R2.obj
    · exact R2.one
    · exact R2.base
    · exact R2.apart
  refine ⟨.returned (resV a2.tmps []), w, { b.at a2 k with mode := .returning }, ⟨_, ι, E, upd h F .dead, .u, rfl, Rc, trivial, hK⟩, ?_, hb, rfl, R.defers.1, hkd, fn, by show C.P.funcs[b.fn]? = _; rw [hb]; exact hf, results_run (ts := []) hres a2.tmps w⟩
  rcases hk with rfl | ⟨k', rfl⟩
  · exact Steps.one step_end
  · exact Steps.one step_ret
end
/-! ### recover stands first -/
theorem pre_rec {P : Program} {id : Nat} {ops : Array Oper} {c2 : Code} {o : Oper} {d0 : Nat} {rest : List Nat} {cl : Call} (ho : ops[0]? = some o) (hg : o.guard = none) (hop : o.op = .call cl) (hcb : cl.callee = .builtin .recover) (hca : cl.args = #[]) (hct : cl.argTypes = #[]) (hdst : o.dst = some d0) (hrg : List.range ops.size = 0 :: rest)
    (v : Value) (b : Frame) (a : Act) (c : Frame) (cs : List Frame) (w : World) (hb : b.kind = .deferred) (hc : c.mode = .panicking [{ v := v, recovered := false }]) :
    Steps P (lone (b.at a [.code (.seq (.region id ops false) c2)]) (c :: cs) w) (lone (b.at (a.put (some d0) v) [.inRegion ops rest, .code c2]) ({ c with mode := .panicking [{ v := v, recovered := true }] } :: cs) w) := by
  refine .head step_seq (.head step_region (.one (step_lone_go ?_)))
  rw [hrg]
  have hgo := stepG_op (P := P) (b := b) (a := a) (k := [.code c2]) (cs := c :: cs) (w := w) (rest := rest) ho (wanted_none hg _)
  have hrun : (execOp a.eval o).run P w = .ok .recover w := by
    simp only [execOp, hop, resolve, hcb, hca, hct, invoke, builtin]
    simp
  have hfin : (b.at a (.inRegion ops (0 :: rest) :: [.code c2])).finish v = b.at (a.put (some d0) v) [.inRegion ops rest, .code c2] := by
    rw [Frame.finish_at, ho]
    simp only [Option.bind_some, hdst]
  have hk : (b.at a (.inRegion ops (0 :: rest) :: [.code c2])).kind = .deferred := hb
  have htr := tryRecover_deferred hk (c :: cs)
  have hrec : recoverD (c :: cs) = some (v, { c with mode := .panicking [{ v := v, recovered := true }] } :: cs) := by
    simp only [recoverD, hc]
  rw [hgo, ← hfin]
  simp only [Frame.at] at htr ⊢
  simp [stepG.apply, hrun, htr, hrec]
theorem pre_rec0 {P : Program} {id : Nat} {ops : Array Oper} {c2 : Code} {o : Oper} {d0 : Nat} {rest : List Nat} {cl : Call} (ho : ops[0]? = some o) (hg : o.guard = none) (hop : o.op = .call cl) (hcb : cl.callee = .builtin .recover) (hca : cl.args = #[]) (hct : cl.argTypes = #[]) (hdst : o.dst = some d0) (hrg : List.range ops.size = 0 :: rest)
    (b : Frame) (a : Act) (c : Frame) (cs : List Frame) (w : World) (hb : b.kind = .deferred) (hc : c.mode = .returning) :
    Steps P (lone (b.at a [.code (.seq (.region id ops false) c2)]) (c :: cs) w) (lone (b.at (a.put (some d0) .nilIface) [.inRegion ops rest, .code c2]) ({ c with mode := .returning } :: cs) w) := by
  refine .head step_seq (.head step_region (.one (step_lone_go ?_)))
  rw [hrg]
  have hgo := stepG_op (P := P) (b := b) (a := a) (k := [.code c2]) (cs := c :: cs) (w := w) (rest := rest) ho (wanted_none hg _)
  have hrun : (execOp a.eval o).run P w = .ok .recover w := by
    simp only [execOp, hop, resolve, hcb, hca, hct, invoke, builtin]
    simp
  have hfin : (b.at a (.inRegion ops (0 :: rest) :: [.code c2])).finish .nilIface = b.at (a.put (some d0) .nilIface) [.inRegion ops rest, .code c2] := by
    rw [Frame.finish_at, ho]
    simp only [Option.bind_some, hdst]
  have hk : (b.at a (.inRegion ops (0 :: rest) :: [.code c2])).kind = .deferred := hb
  have htr := tryRecover_deferred hk (c :: cs)
  have hrec : recoverD (c :: cs) = none := by
    simp only [recoverD, hc]
  have hcc : ({ c with mode := .returning } : Frame) = c := by rw [← hc]
  rw [hgo, ← hfin, hcc]
  simp only [Frame.at] at htr ⊢
  simp [stepG.apply, hrun, htr, hrec]
section
variable {C : Ctx} {env : Env} {h : Heap}
/-! ### x.(T), with ok -/
theorem Run.assertOk {ops : Array Oper} {i : Nat} {rest : List Nat} {k : List Item} {o : Oper} {x : Operand} {xt t : TypeId} {kd : IntKind} {n : Int} (ho : ops.toList[i]? = some o) (hop : o.op = .typeAssert x xt t true) (hx : ev env x = .val (.iface t (.agg #[.int kd n]))) (hts : isStr C.P t = true) (hd : okD C o.dst = true) (hr : ready env ops o = true)
    (next : Run C (.inRegion ops rest :: k) (putE env o.dst (.tup 2 (fun j => cond (Nat.beq j 0) (.agg 1 (fun _ => .int kd n)) .tt))) h) : Run C (.inRegion ops (i :: rest) :: k) env h :=
  Run.opG (fun env' h' z => env' = env ∧ h' = h ∧ z = .tup 2 (fun j => cond (Nat.beq j 0) (.agg 1 (fun _ => .int kd n)) .tt)) ho hd hr (fun ι a w R => by
    obtain ⟨fs, ht⟩ := isStr_und hts
    have hv := ev_ok R x
    rw [hx] at hv
    refine OpOut.of (s := Instr.typeAssert (a.eval x) xt t true) (by simp [execOp, hop]) (Out.same R ⟨rfl, rfl, rfl⟩ (v := .tuple #[.agg #[.int kd n], .bool true]) ?_ ?_)
    · rw [hv.1]
      simp [Instr.typeAssert, run_underlying ht]
    · refine ⟨_, rfl, rfl, fun j hj => ?_⟩
      match j, hj with
      | 0, _ => exact ⟨_, rfl, ⟨_, rfl, rfl, fun q hq => by
          obtain rfl : q = 0 := by omega
          exact ⟨_, rfl, rfl, rfl⟩⟩⟩
      | 1, _ => exact ⟨_, rfl, rfl⟩) (fun env' h' y ⟨e1, e2, e3⟩ => by subst e1; subst e2; subst e3; exact next)
theorem Run.assertNil {ops : Array Oper} {i : Nat} {rest : List Nat} {k : List Item} {o : Oper} {x : Operand} {xt t : TypeId} {kd : IntKind} (ho : ops.toList[i]? = some o) (hop : o.op = .typeAssert x xt t true) (hx : ev env x = .nilif) (hts : isStr C.P t = true) (hzz : (C.P.info? t).bind (·.zero) = some (.agg #[.int kd 0])) (hd : okD C o.dst = true) (hr : ready env ops o = true)
    (next : Run C (.inRegion ops rest :: k) (putE env o.dst (.tup 2 (fun j => cond (Nat.beq j 0) (.agg 1 (fun _ => .int kd 0)) .ff))) h) : Run C (.inRegion ops (i :: rest) :: k) env h :=
  Run.opG (fun env' h' z => env' = env ∧ h' = h ∧ z = .tup 2 (fun j => cond (Nat.beq j 0) (.agg 1 (fun _ => .int kd 0)) .ff)) ho hd hr (fun ι a w R => by
    have hv := ev_ok R x
    rw [hx] at hv
    have hv' : a.eval x = .nilIface := hv
    obtain ⟨fs, ht⟩ := isStr_und hts
    obtain ⟨info, hi, hz⟩ := Option.bind_eq_some_iff.mp hzz
    refine OpOut.of (s := Instr.typeAssert (a.eval x) xt t true) (by simp [execOp, hop]) (Out.same R ⟨rfl, rfl, rfl⟩ (v := .tuple #[.agg #[.int kd 0], .bool false]) ?_ ?_)
    · rw [hv']
      simp [Instr.typeAssert, run_underlying ht, zeroValue, typeInfo, hi, hz]
    · refine ⟨_, rfl, rfl, fun j hj => ?_⟩
      match j, hj with
      | 0, _ => exact ⟨_, rfl, ⟨_, rfl, rfl, fun q hq => by
          obtain rfl : q = 0 := by omega
          exact ⟨_, rfl, rfl, rfl⟩⟩⟩
      | 1, _ => exact ⟨_, rfl, rfl⟩) (fun env' h' y ⟨e1, e2, e3⟩ => by subst e1; subst e2; subst e3; exact next)
/-- Three answers, each in a cell of its own. -/
theorem fin_cells3 {fn : Func} {t1 t2 t3 : Nat} {ty1 ty2 ty3 : TypeId} {m1 m2 m3 : Nat} {get1 get2 get3 : Nat → AV} {y1 y2 y3 : AV} (hR : C.R = Post C.S C.w0 (tupL [y1, y2, y3])) (hf : C.P.funcs[C.f]? = some fn) (hres : fn.results = #[.cell t1 ty1, .cell t2 ty2, .cell t3 ty3])
    (hp1 : placeAt h (env t1) = some (m1, get1)) (hp2 : placeAt h (env t2) = some (m2, get2)) (hp3 : placeAt h (env t3) = some (m3, get3)) (h1 : 0 < m1) (h2 : 0 < m2) (h3 : 0 < m3)
    (hg1 : isAggT C.T ty1 = some false) (hg2 : isAggT C.T ty2 = some false) (hg3 : isAggT C.T ty3 = some false) (hle1 : Le (fz h (get1 0)) y1) (hle2 : Le (fz h (get2 0)) y2) (hle3 : Le (fz h (get3 0)) y3) : Fini C env h := by
  intro ι a w R
  have one : ∀ {t : Nat} {ty : TypeId} {m : Nat} {get : Nat → AV}, placeAt h (env t) = some (m, get) → 0 < m → isAggT C.T ty = some false → ∃ v, (resM a.tmps (.cell t ty)).run C.P w = .ok v w ∧ VR w (okB C h ι w) (get 0) (rf h ι) v := by
    intro t ty m get hp hm hg
    obtain ⟨ad, had, hc⟩ := placeAt_ok R hp (R.env t)
    obtain ⟨cv, c1, c2, c3⟩ := hc 0 hm
    refine ⟨cv, ?_, c3⟩
    show (asAddr (a.tmps.getD t undef) >>= fun ad => loadVar ty ad).run C.P w = _
    rw [had]
    simp only [asAddr, Sem.run_bind, Sem.run_pure, Result.andThen_ok]
    exact run_loadVar_one hg (by simpa [Addr.add] using c1)
  obtain ⟨v1, r1, x1⟩ := one hp1 h1 hg1
  obtain ⟨v2, r2, x2⟩ := one hp2 h2 hg2
  obtain ⟨v3, r3, x3⟩ := one hp3 h3 hg3
  refine ⟨fn, .tuple #[v1, v2, v3], hf, ?_, ?_⟩
  · rw [results_eq, hres]
    have : (#[ResultVar.cell t1 ty1, .cell t2 ty2, .cell t3 ty3].mapM (resM a.tmps)).run C.P w = .ok #[v1, v2, v3] w := by
      rw [show (#[ResultVar.cell t1 ty1, .cell t2 ty2, .cell t3 ty3] : Array ResultVar) = [ResultVar.cell t1 ty1, .cell t2 ty2, .cell t3 ty3].toArray from rfl, List.mapM_toArray, Sem.run_map]
      simp only [List.mapM_cons, List.mapM_nil, Sem.run_bind, Sem.run_pure, Result.andThen_ok, r1, r2, r3]
    rw [Sem.run_bind, this]
    rfl
  · rw [hR]
    refine ⟨_, rfl, R.below, ?_⟩
    have hfz : ∀ x v, VR w (okB C h ι w) x (rf h ι) v → VR w (fun b => (C.S b ∨ C.w0.heap.size ≤ b) ∧ b < w.heap.size) (fz h x) noref v := fun x v hx =>
      fz_ok R (fun b hb' => ⟨hb'.2.1, hb'.1⟩) (fun id hl g hg => by
        have := R.base id hl g hg
        exact ⟨.inr this.1, this.2⟩) x v hx
    refine ⟨_, rfl, rfl, fun j hj => ?_⟩
    match j, hj with
    | 0, _ => exact ⟨_, rfl, hle1 _ _ _ _ (hfz _ _ x1)⟩
    | 1, _ => exact ⟨_, rfl, hle2 _ _ _ _ (hfz _ _ x2)⟩
    | 2, _ => exact ⟨_, rfl, hle3 _ _ _ _ (hfz _ _ x3)⟩
/-- Left with the closure's call done. -/
theorem Unw.done {fn : Func} (hds : C.kp.ds = []) (hfin : Fini C env h) : Unw C .returning env h :=
  ⟨fun ι a w b cs k hb hkd R => by
    obtain ⟨fn, v, h1, h2, h3⟩ := hfin ι a w R
    exact ⟨.returned v, w, _, h3, Steps.refl _ _, hb, rfl, R.defers.1.trans hds, hkd, fn, by show C.P.funcs[b.fn]? = _; rw [hb]; exact h1, h2⟩⟩
/-- Among draws: a call that is lent a box and leaves it as it is. -/
theorem CallQ.lent {o : Oper} {K : AV → Prop} {f : FuncId} {x0 : Operand} {xs : List Operand} {t : TypeId} {l args : List AV} {r : AV} (q : Nat) (hfn : FnM C.P f t l args l (.ret r)) (hc : calls? o = some (f, x0 :: xs)) (hx0 : ev env x0 = .box q 0) (hbox : h q = .box t l) (hfl : l.all dry = true)
    (hargs : ArgsLe (xs.map (ev env)) args) (hfa : args.all dry = true) (hdr : dry r = true) (next : K r) : CallQ C h o env K := by
  refine ⟨r, next, fun env' ι a w R hρ b k cs ops i rest ho hw => ?_⟩
  have hmem : ∀ y ∈ x0 :: xs, y ∈ o.op.operands := by
    intro y hy
    unfold calls? at hc
    split at hc
    · rename_i fx args1 atx heq
      injection hc with hc
      injection hc with hc1 hc2
      rw [heq]; simp only [Op.operands, Call.operands, Array.mem_append]
      refine .inr ?_
      rw [← Array.mem_toList_iff, hc2]; exact hy
    · cases hc
  obtain ⟨g, hι, hbx, hB, hg⟩ := boxAt_of R (q := q) (by rw [hbox]; exact MOle.refl _) hfl
  have h0 := hρ x0 (hmem x0 List.mem_cons_self)
  rw [hx0] at h0
  obtain ⟨g', e1, e2⟩ := h0
  rw [hι] at e1
  obtain rfl : g = g' := by injection e1 with e; injection e with e; injection e
  rw [add_zero'] at e2
  have hcalls : Calls C.P f ((x0 :: xs).map a.eval).toArray w (PostM (fun b => C.S b ∧ b < C.B) w g t l (.ret r)) := by
    rw [show ((x0 :: xs).map a.eval).toArray = #[.pointer (some ⟨g, 0, none⟩)] ++ (xs.map a.eval).toArray by rw [List.map_cons, e2]; simp]
    refine hfn.calls _ w g (xs.map a.eval).toArray hbx (fun b hb => Nat.lt_of_lt_of_le hb.2 hB) (glob_cut R hB hg) (by rw [hargs.at.1]; simp) (fun i x v hx hv => ?_)
    have hdx := List.all_eq_true.mp hfa x (List.mem_of_getElem? hx)
    obtain ⟨y0, hy0, hle0⟩ := hargs.at.2 i x hx
    rw [List.getElem?_map] at hy0
    rw [List.getElem?_toArray, List.getElem?_map] at hv
    cases hq : xs[i]? with
    | none => rw [hq] at hy0; cases hy0
    | some y =>
      rw [hq] at hy0 hv
      cases hy0; cases hv
      exact dry_ok hdx (hle0 _ _ _ _ (hρ y (hmem y (List.mem_cons_of_mem _ (List.mem_of_getElem? hq)))))
  obtain ⟨v, w', ⟨hx, hbx', v', e, hv⟩, hst⟩ := step_call (b := b) (k := k) (cs := cs) (rest := rest) ho hw (exec_call hc hfn.there a w) hcalls (fun e w' ⟨_, _, v, h, _⟩ => ⟨v, h⟩)
  cases e
  have R' := R.lentBack (q := q) (t := t) (l := l) (by rw [hbox]; exact MOle.refl _) hι hB hx hbx'
  have R'' : Rel C env' h ι a w' := R'.weaken (fun _ => Le.refl _) (fun id => by
    by_cases e : id = q
    · subst e; rw [upd_same, hbox]; exact MOle.refl _
    · rw [upd_other _ _ e]; exact MOle.refl _)
  exact ⟨_, w', ι, hst, R'', dry_ok hdr hv⟩
end
end Go.Proofs.YtkdpmkjbfkjmdaaDoor.V

namespace Go.Proofs.YtkdpmkjbfkjmdaaDoor.V
set_option linter.unusedVariables false
set_option linter.unusedSimpArgs false
open Go Go.Proofs Go.RowKit
section
variable {C : Ctx} {env : Env} {h : Heap} {ops : Array Oper} {i : Nat} {rest : List Nat} {k : List Item} {o : Oper}
theorem Run.mkIf {t : TypeId} {x : Operand} {kd kd' : IntKind} {n : Int} (ho : ops.toList[i]? = some o) (hop : o.op = .makeInterface t x) (hx : ev env x = .int kd n) (ht : C.P.underlying t = some (.int kd')) (hd : okD C o.dst = true) (hr : ready env ops o = true)
    (next : Run C (.inRegion ops rest :: k) (putE env o.dst (.val (.iface t (.int kd n)))) h) : Run C (.inRegion ops (i :: rest) :: k) env h :=
  Run.opG (fun env' h' z => env' = env ∧ h' = h ∧ z = .val (.iface t (.int kd n))) ho hd hr (fun ι a w R => by
    have hv := ev_ok R x
    rw [hx] at hv
    have hv' : a.eval x = .int kd n := hv
    refine OpOut.of (s := Instr.makeInterface t (a.eval x)) (by simp [execOp, hop]) (Out.same R ⟨rfl, rfl, rfl⟩ (v := .iface t (.int kd n)) ?_ ⟨rfl, rfl⟩)
    rw [hv']
    simp [Instr.makeInterface, run_underlying ht]) (fun env' h' y ⟨e1, e2, e3⟩ => by subst e1; subst e2; subst e3; exact next)
/-- A pointer becomes one: nothing is known of it. -/
theorem Run.mkIfU {t e : TypeId} {x : Operand} (ho : ops.toList[i]? = some o) (hop : o.op = .makeInterface t x) (ht : C.P.underlying t = some (.pointer e)) (hd : okD C o.dst = true) (hr : ready env ops o = true)
    (next : Run C (.inRegion ops rest :: k) (putE env o.dst .u) h) : Run C (.inRegion ops (i :: rest) :: k) env h :=
  Run.opG (fun env' h' z => env' = env ∧ h' = h ∧ z = .u) ho hd hr (fun ι a w R => by
    refine OpOut.of (s := Instr.makeInterface t (a.eval x)) (by simp [execOp, hop]) (Out.same R ⟨rfl, rfl, rfl⟩ (v := .iface t (a.eval x)) ?_ trivial)
    simp [Instr.makeInterface, run_underlying ht]) (fun env' h' y ⟨e1, e2, e3⟩ => by subst e1; subst e2; subst e3; exact next)
/-- The value itself, where it is told. -/
def exV : AV → Option Value
  | .val c => some c
  | .nilif => some .nilIface
  | _ => none
theorem exV_ok {w : World} {ok : Nat → Prop} {r : Ref} {x : AV} {v c : Value} (h : exV x = some c) (hv : VR w ok x r v) : v = c := by
  cases x <;> simp [exV] at h <;> subst h <;> first | exact hv.1 | exact hv
theorem Run.binIf {op : BinOp} {t t2 : TypeId} {x y : Operand} {vx vy : Value} {b : Bool} (ho : ops.toList[i]? = some o) (hop : o.op = .binOp op t x y t2) (hx : exV (ev env x) = some vx) (hy : exV (ev env y) = some vy)
    (hrun : ∀ w, (do eqGuard op t x y vx vy; binOp op t vx vy : Sem Value).run C.P w = .ok (.bool b) w) (hd : okD C o.dst = true) (hr : ready env ops o = true)
    (next : Run C (.inRegion ops rest :: k) (putE env o.dst (.bool b)) h) : Run C (.inRegion ops (i :: rest) :: k) env h :=
  Run.opG (fun env' h' z => env' = env ∧ h' = h ∧ z = .bool b) ho hd hr (fun ι a w R => by
    have hvx := exV_ok hx (ev_ok R x)
    have hvy := exV_ok hy (ev_ok R y)
    refine OpOut.of (s := (do eqGuard op t x y (a.eval x) (a.eval y); binOp op t (a.eval x) (a.eval y))) (by simp [execOp, hop]) (Out.same R ⟨rfl, rfl, rfl⟩ (v := .bool b) ?_ rfl)
    rw [hvx, hvy]
    exact hrun w) (fun env' h' y ⟨e1, e2, e3⟩ => by subst e1; subst e2; subst e3; exact next)
end
theorem if_nil {P : Program} {t u : TypeId} {v : Value} {x y : Operand} (ht : P.underlying t = some (.interface (P.methodsAt t))) (w : World) : (do eqGuard .neq t x y (.iface u v) .nilIface; binOp .neq t (.iface u v) .nilIface : Sem Value).run P w = .ok (.bool true) w := by
  simp only [Sem.run_bind, eqGuard]
  simp [run_neq_held_nil w t u v ht]
theorem if_eqIn {P : Program} {t u : TypeId} {info : TypeInfo} {k kd : IntKind} {a b : Int} (ht : P.underlying t = some (.interface (P.methodsAt t))) (hu : P.underlying u = some (.int kd)) (hi : P.info? u = some info) (hc : info.comparable = true) (d : Nat) (w : World) :
    (Op.equalIn (d + 1 + 1) t (.iface u (.int k a)) (.iface u (.int k b))).run P w = .ok (a == b) w := by
  unfold Op.equalIn
  simp [run_underlying ht, typeInfo, hi, hc, run_equalIn_int w d u k kd a b hu]
theorem if_eq {P : Program} {t u : TypeId} {info : TypeInfo} {k kd : IntKind} {a b : Int} {x y : Operand} (ht : P.underlying t = some (.interface (P.methodsAt t))) (hu : P.underlying u = some (.int kd)) (hi : P.info? u = some info) (hc : info.comparable = true) (w : World) :
    (do eqGuard .eql t x y (.iface u (.int k a)) (.iface u (.int k b)); binOp .eql t (.iface u (.int k a)) (.iface u (.int k b)) : Sem Value).run P w = .ok (.bool (a == b)) w := by
  have h : (Op.equal t (.iface u (.int k a)) (.iface u (.int k b))).run P w = .ok (a == b) w := if_eqIn ht hu hi hc 9998 w
  simp only [Sem.run_bind, eqGuard, binOp]
  simp [h]
/-! ### a text copied into an own row -/
end Go.Proofs.YtkdpmkjbfkjmdaaDoor.V

namespace Go.Proofs.YtkdpmkjbfkjmdaaDoor.V
set_option linter.unusedVariables false
set_option linter.unusedSimpArgs false
open Go
def bs (l : List UInt8) : ByteArray := ⟨l.toArray⟩
theorem bs_size (l : List UInt8) : (bs l).size = l.length := by simp [bs, ByteArray.size]
theorem bs_data (l : List UInt8) : (bs l).data.toList = l := by simp [bs]
theorem bs_extract (l : List UInt8) (a b : Nat) : (bs l).extract a b = bs ((l.drop a).take (b - a)) := by
  apply ByteArray.ext
  apply Array.ext'
  simp [bs]
theorem bs_of (s : ByteArray) : bs s.data.toList = s := by simp [bs]
end Go.Proofs.YtkdpmkjbfkjmdaaDoor.V

namespace Go.Proofs.YtkdpmkjbfkjmdaaDoor.V
set_option linter.unusedVariables false
set_option linter.unusedSimpArgs false
open Go Go.Proofs Go.RowKit
def marksL : List UInt8 := [91, 93, 123, 125, 124, 60, 62, 92]
def isMk (c : UInt8) : Bool := marksL.contains c
theorem isMk_index : ∀ c : Fin 256, decide (0 ≤ Lib.indexByte marksL (UInt8.ofNat c.val)) = isMk (UInt8.ofNat c.val) := by decide +kernel
theorem u8_ofNat (c : UInt8) : UInt8.ofNat c.toNat = c := UInt8.ofNat_toNat
theorem isMk_ge (c : UInt8) : decide (0 ≤ Lib.indexByte marksL c) = isMk c := by
  have := isMk_index ⟨c.toNat, c.toNat_lt⟩
  rwa [u8_ofNat] at this
/-- What a content is, and what is left; or how much is left at the fault. -/
inductive CR where
  | bad (k : Nat)
  | ok (t r : List UInt8)
def CR.push (c : UInt8) : CR → CR
  | .bad k => .bad k
  | .ok t r => .ok (c :: t) r
def CR.app (b : List UInt8) : CR → CR
  | .bad k => .bad k
  | .ok t r => .ok (b ++ t) r
theorem CR.app_nil (x : CR) : x.app [] = x := by cases x <;> rfl
theorem CR.app_push (b : List UInt8) (c : UInt8) (x : CR) : (x.push c).app b = x.app (b ++ [c]) := by
  cases x with
  | bad k => rfl
  | ok t r => simp [CR.push, CR.app]
def cont : List UInt8 → CR
  | [] => .ok [] []
  | [c] => if c = 92 then .bad 0 else if isMk c = true then .ok [] [c] else .ok [c] []
  | c :: d :: r => if c = 92 then (if isMk d = true then (cont r).push d else .bad (r.length + 1)) else if isMk c = true then .ok [] (c :: d :: r) else (cont (d :: r)).push c
theorem cont_stop {c : UInt8} (r : List UInt8) (h1 : c ≠ 92) (h2 : isMk c = true) : cont (c :: r) = .ok [] (c :: r) := by
  cases r with
  | nil => rw [cont, if_neg h1, if_pos h2]
  | cons d r => rw [cont, if_neg h1, if_pos h2]
theorem isMk_92 : isMk 92 = true := by decide
theorem cont_plain {c : UInt8} (r : List UInt8) (h2 : ¬ isMk c = true) : cont (c :: r) = (cont r).push c := by
  have h1 : c ≠ 92 := fun e => h2 (by rw [e]; exact isMk_92)
  cases r with
  | nil => simp [cont, h1, h2, CR.push]
  | cons d r => rw [cont, if_neg h1, if_neg h2]
theorem cont_end : cont [92] = .bad 0 := by rw [cont, if_pos rfl]
theorem cont_esc {d : UInt8} (r : List UInt8) (h : isMk d = true) : cont (92 :: d :: r) = (cont r).push d := by rw [cont, if_pos rfl, if_pos h]
theorem cont_bad {d : UInt8} (r : List UInt8) (h : ¬ isMk d = true) : cont (92 :: d :: r) = .bad (r.length + 1) := by rw [cont, if_pos rfl, if_neg h]
/-- How much is left behind a content: a mark stands there, or nothing. -/
theorem cont_ok : ∀ (n : Nat) (l : List UInt8), l.length ≤ n → ∀ {t r}, cont l = .ok t r → r.length + t.length ≤ l.length ∧ ∀ c r', r = c :: r' → isMk c = true ∧ c ≠ 92
  | n, [], _, t, r, h => by cases h; exact ⟨Nat.le_refl _, fun c r' e => by cases e⟩
  | 0, c :: l, hn, _, _, _ => absurd hn (by simp)
  | n + 1, c :: l, hn, t, r, h => by
    have hpush : ∀ (x : CR) (d : UInt8), x.push d = .ok t r → ∃ t', x = .ok t' r ∧ t = d :: t' := by
      intro x d hx
      cases x with
      | bad k => cases hx
      | ok t' r' => cases hx; exact ⟨t', rfl, rfl⟩
    simp only [List.length_cons] at hn
    by_cases h2 : isMk c = true
    · by_cases h1 : c = 92
      · subst h1
        cases l with
        | nil => rw [cont_end] at h; cases h
        | cons d l =>
          simp only [List.length_cons] at hn ⊢
          by_cases hd : isMk d = true
          · rw [cont_esc l hd] at h
            obtain ⟨t', h', rfl⟩ := hpush _ _ h
            have := cont_ok n l (by omega) h'
            exact ⟨by simp only [List.length_cons]; omega, this.2⟩
          · rw [cont_bad l hd] at h; cases h
      · rw [cont_stop l h1 h2] at h
        cases h
        exact ⟨by simp, fun c' r' e => by cases e; exact ⟨h2, h1⟩⟩
    · rw [cont_plain l h2] at h
      obtain ⟨t', h', rfl⟩ := hpush _ _ h
      have := cont_ok n l (by omega) h'
      exact ⟨by simp only [List.length_cons]; omega, this.2⟩
theorem cont_badle : ∀ (n : Nat) (l : List UInt8), l.length ≤ n → ∀ {k}, cont l = .bad k → k ≤ l.length
  | n, [], _, k, h => by cases h
  | 0, c :: l, hn, _, _ => absurd hn (by simp)
  | n + 1, c :: l, hn, k, h => by
    have hpush : ∀ (x : CR) (d : UInt8), x.push d = .bad k → x = .bad k := by
      intro x d hx
      cases x with
      | bad k => cases hx; rfl
      | ok t' r' => cases hx
    simp only [List.length_cons] at hn ⊢
    by_cases h2 : isMk c = true
    · by_cases h1 : c = 92
      · subst h1
        cases l with
        | nil => rw [cont_end] at h; cases h; omega
        | cons d l =>
          simp only [List.length_cons] at hn ⊢
          by_cases hd : isMk d = true
          · rw [cont_esc l hd] at h
            have := cont_badle n l (by omega) (hpush _ _ h)
            omega
          · rw [cont_bad l hd] at h; cases h; omega
      · rw [cont_stop l h1 h2] at h; cases h
    · rw [cont_plain l h2] at h
      have := cont_badle n l (by omega) (hpush _ _ h)
      omega
structure Pc where
  kind : Int
  texts : List ByteArray
  n : Int
  deriving DecidableEq
inductive PR where
  | bad (k : Nat)
  | ok (p : Pc) (r : List UInt8)
def wantR (c : UInt8) (p : Pc) : List UInt8 → PR
  | [] => .bad 0
  | d :: r => if d = c then .ok p r else .bad (r.length + 1)
def dig (c : UInt8) : Bool := decide (48 ≤ c.toNat ∧ c.toNat ≤ 57)
/-- A number of one or two digits, the first one no 0; what is left. -/
def gapN : List UInt8 → Nat × List UInt8
  | [] => (0, [])
  | [d] => if dig d = true ∧ d ≠ 48 then (d.toNat - 48, []) else (0, [d])
  | d :: e :: r => if dig d = true ∧ d ≠ 48 then (if dig e = true then (10 * (d.toNat - 48) + (e.toNat - 48), r) else (d.toNat - 48, e :: r)) else (0, d :: e :: r)
def gapR (r : List UInt8) : PR := if (gapN r).1 = 0 then .bad (gapN r).2.length else wantR 93 ⟨2, [], ((gapN r).1 : Int)⟩ (gapN r).2
def dimR (r : List UInt8) : PR := match cont r with
  | .bad k => .bad k
  | .ok t r' => if t = [] then .bad r'.length else wantR 62 ⟨4, [bs t], 0⟩ r'
def fixEnd (ts : List ByteArray) (r : List UInt8) : PR := if ts.length < 2 then .bad r.length else wantR 125 ⟨3, ts, 0⟩ r
def fixR : Nat → List ByteArray → List UInt8 → PR
  | 0, ts, r => match cont r with
    | .bad k => .bad k
    | .ok t r' => fixEnd (ts ++ [bs t]) r'
  | f + 1, ts, r => match cont r with
    | .bad k => .bad k
    | .ok t r' => match r' with
      | [] => fixEnd (ts ++ [bs t]) []
      | c :: r2 => if c = 124 then fixR f (ts ++ [bs t]) r2 else fixEnd (ts ++ [bs t]) (c :: r2)
def plainR (r : List UInt8) : PR := match cont r with
  | .bad k => .bad k
  | .ok t r' => if t = [] then .bad r'.length else .ok ⟨1, [bs t], 0⟩ r'
def pieceR : List UInt8 → PR
  | [] => plainR []
  | c :: r => if c = 91 then gapR r else if c = 60 then dimR r else if c = 123 then fixR 3 [] r else plainR (c :: r)
theorem pieceR_cons (c : UInt8) (r : List UInt8) : pieceR (c :: r) = if c = 91 then gapR r else if c = 60 then dimR r else if c = 123 then fixR 3 [] r else plainR (c :: r) := rfl
inductive QR where
  | bad (k : Nat)
  | ok (ps : List Pc)
def QR.push (p : Pc) : QR → QR
  | .bad k => .bad k
  | .ok ps => .ok (p :: ps)
def QR.app (l : List Pc) : QR → QR
  | .bad k => .bad k
  | .ok ps => .ok (l ++ ps)
theorem QR.app_nil (x : QR) : x.app [] = x := by cases x <;> rfl
theorem QR.app_push (l : List Pc) (p : Pc) (x : QR) : (x.push p).app l = x.app (l ++ [p]) := by
  cases x with
  | bad k => rfl
  | ok ps => simp [QR.push, QR.app]
def parseF : Nat → List UInt8 → QR
  | 0, _ => .ok []
  | f + 1, [] => .ok []
  | f + 1, c :: l => match pieceR (c :: l) with
    | .bad k => .bad k
    | .ok p r => (parseF f r).push p
def parseL (l : List UInt8) : QR := parseF l.length l
theorem wantR_le {c : UInt8} {p : Pc} {r : List UInt8} : (∀ {k}, wantR c p r = .bad k → k ≤ r.length) ∧ (∀ {q r'}, wantR c p r = .ok q r' → r'.length < r.length ∧ q = p ∧ r = c :: r') := by
  unfold wantR
  constructor
  · intro k h
    split at h
    · cases h; exact Nat.zero_le _
    · split at h <;> cases h
      simp
  · intro q r' h
    split at h
    · cases h
    · split at h <;> cases h
      rename_i he
      exact ⟨by simp, rfl, by rw [he]⟩
theorem gapN_le (r : List UInt8) : (gapN r).2.length ≤ r.length ∧ ((gapN r).1 ≤ 99) := by
  have hd : ∀ c : UInt8, dig c = true → 48 ≤ c.toNat ∧ c.toNat ≤ 57 := fun c h => of_decide_eq_true h
  unfold gapN
  split
  · simp
  · split
    · rename_i h; have := hd _ h.1; simp only [List.length_nil, List.length_cons]; omega
    · simp
  · split
    · rename_i h
      have := hd _ h.1
      split
      · rename_i h2
        have := hd _ h2
        simp only [List.length_cons]; omega
      · simp only [List.length_cons]; omega
    · simp
theorem fixEnd_le {ts : List ByteArray} {r : List UInt8} : (∀ {k}, fixEnd ts r = .bad k → k ≤ r.length) ∧ (∀ {q r'}, fixEnd ts r = .ok q r' → r'.length < r.length) := by
  unfold fixEnd
  constructor
  · intro k h
    split at h
    · cases h; exact Nat.le_refl _
    · exact wantR_le.1 h
  · intro q r' h
    split at h
    · cases h
    · exact (wantR_le.2 h).1
theorem fixR_le : ∀ (f : Nat) (ts : List ByteArray) (r : List UInt8), (∀ {k}, fixR f ts r = .bad k → k ≤ r.length) ∧ (∀ {q r'}, fixR f ts r = .ok q r' → r'.length < r.length)
  | 0, ts, r => by
    unfold fixR
    cases hc : cont r with
    | bad k =>
      have := cont_badle _ r (Nat.le_refl _) hc
      exact ⟨fun h => by cases h; exact this, fun h => by cases h⟩
    | ok t r1 =>
      have := (cont_ok _ r (Nat.le_refl _) hc).1
      refine ⟨fun h => ?_, fun h => ?_⟩
      · have := fixEnd_le.1 h; omega
      · have := fixEnd_le.2 h; omega
  | f + 1, ts, r => by
    unfold fixR
    cases hc : cont r with
    | bad k =>
      have := cont_badle _ r (Nat.le_refl _) hc
      exact ⟨fun h => by cases h; exact this, fun h => by cases h⟩
    | ok t r1 =>
      have hl := (cont_ok _ r (Nat.le_refl _) hc).1
      cases r1 with
      | nil =>
        refine ⟨fun h => ?_, fun h => ?_⟩
        · have := fixEnd_le.1 h; simp at this; omega
        · have := fixEnd_le.2 h; simp at this
      | cons c r2 =>
        simp only [List.length_cons] at hl
        have ih := fixR_le f (ts ++ [bs t]) r2
        refine ⟨fun h => ?_, fun h => ?_⟩
        · dsimp only at h
          split at h
          · have := ih.1 h; omega
          · have := fixEnd_le.1 h; simp at this; omega
        · dsimp only at h
          split at h
          · have := ih.2 h; omega
          · have := fixEnd_le.2 h; simp at this; omega
theorem pieceR_le (l : List UInt8) : (∀ {k}, pieceR l = .bad k → k ≤ l.length) ∧ (∀ {q r'}, pieceR l = .ok q r' → r'.length < l.length) := by
  have hplain : ∀ r, (∀ {k}, plainR r = .bad k → k ≤ r.length) ∧ (∀ {q r'}, plainR r = .ok q r' → r'.length < r.length) := by
    intro r
    unfold plainR
    cases hc : cont r with
    | bad k =>
      have := cont_badle _ r (Nat.le_refl _) hc
      exact ⟨fun h => by cases h; exact this, fun h => by cases h⟩
    | ok t r1 =>
      have := (cont_ok _ r (Nat.le_refl _) hc).1
      dsimp only
      split
      · exact ⟨fun h => by cases h; omega, fun h => by cases h⟩
      · rename_i ht
        have : 0 < t.length := by cases t with | nil => exact absurd rfl ht | cons _ _ => simp
        exact ⟨fun h => (by cases h), fun h => by cases h; omega⟩
  cases l with
  | nil => exact hplain []
  | cons c r =>
    rw [pieceR_cons]
    split
    · unfold gapR
      have hg := gapN_le r
      simp only [List.length_cons]
      split
      · exact ⟨fun h => by cases h; omega, fun h => by cases h⟩
      · refine ⟨fun h => ?_, fun h => ?_⟩
        · have := wantR_le.1 h; omega
        · have := (wantR_le.2 h).1; omega
    · split
      · unfold dimR
        simp only [List.length_cons]
        cases hc : cont r with
        | bad k =>
          have := cont_badle _ r (Nat.le_refl _) hc
          exact ⟨fun h => by cases h; omega, fun h => by cases h⟩
        | ok t r1 =>
          have := (cont_ok _ r (Nat.le_refl _) hc).1
          dsimp only
          split
          · exact ⟨fun h => by cases h; omega, fun h => by cases h⟩
          · refine ⟨fun h => ?_, fun h => ?_⟩
            · have := wantR_le.1 h; omega
            · have := (wantR_le.2 h).1; omega
      · split
        · have := fixR_le 3 [] r
          simp only [List.length_cons]
          exact ⟨fun h => by have := this.1 h; omega, fun h => by have := this.2 h; omega⟩
        · exact hplain (c :: r)
theorem parseF_more : ∀ (f g : Nat) (l : List UInt8), l.length ≤ f → l.length ≤ g → parseF f l = parseF g l
  | 0, 0, _, _, _ => rfl
  | 0, g + 1, [], _, _ => rfl
  | f + 1, 0, [], _, _ => rfl
  | f + 1, g + 1, [], _, _ => rfl
  | 0, g + 1, c :: l, h, _ => absurd h (by simp)
  | f + 1, 0, c :: l, _, h => absurd h (by simp)
  | f + 1, g + 1, c :: l, h1, h2 => by
    unfold parseF
    cases hp : pieceR (c :: l) with
    | bad k => rfl
    | ok p r =>
      have := (pieceR_le (c :: l)).2 hp
      simp only [List.length_cons] at this h1 h2
      dsimp only
      rw [parseF_more f g r (by omega) (by omega)]
theorem parseL_bad {l : List UInt8} {k : Nat} (hl : l ≠ []) (h : pieceR l = .bad k) : parseL l = .bad k := by
  cases l with
  | nil => exact absurd rfl hl
  | cons c l => unfold parseL; rw [List.length_cons, parseF, h]
theorem parseL_ok {l r : List UInt8} {p : Pc} (hl : l ≠ []) (h : pieceR l = .ok p r) : parseL l = (parseL r).push p := by
  cases l with
  | nil => exact absurd rfl hl
  | cons c l =>
    have := (pieceR_le (c :: l)).2 h
    simp only [List.length_cons] at this
    unfold parseL
    rw [List.length_cons, parseF, h]
    dsimp only
    rw [parseF_more l.length r.length r (by omega) (Nat.le_refl _)]
/-- The pieces, the place, the number that says what is wrong. -/
def parseT (l : List UInt8) : List Pc × Nat × Int := if 65536 < l.length then ([], 0, 1) else match parseL l with
  | .bad k => ([], l.length - k, 50)
  | .ok ps => (ps, 0, 0)
end Go.Proofs.YtkdpmkjbfkjmdaaDoor.V

namespace Go.Proofs.YtkdpmkjbfkjmdaaDoor.V
set_option linter.unusedVariables false
set_option linter.unusedSimpArgs false
open Go Go.Proofs Go.RowKit
set_option maxRecDepth 100000
set_option maxHeartbeats 2000000
open Go Go.Proofs Go.Proofs.YtkdpmkjbfkjmdaaDoor.V
def tRow : Ty (List Int) := ⟨1, fun l _ => tI.L l, []⟩
def RowOk (m : List (List Int)) (i : Nat) : Prop := (m.getD i tRow.z).length = (m.getD 0 tRow.z).length ∧ (m.getD i tRow.z).length ≤ 4096 ∧ ∀ j, j < (m.getD i tRow.z).length → -1 ≤ (m.getD i tRow.z).getD j tI.z ∧ (m.getD i tRow.z).getD j tI.z < 12
def OkM (m : List (List Int)) : Prop := 0 < m.length ∧ m.length ≤ 12 ∧ ∀ i, i < m.length → RowOk m i
open Classical in
noncomputable def codeM (m : List (List Int)) : Int := if OkM m then 0 else 190
end Go.Proofs.YtkdpmkjbfkjmdaaDoor.V

namespace Go.Proofs.YtkdpmkjbfkjmdaaDoor.V
set_option linter.unusedVariables false
set_option linter.unusedSimpArgs false
open Go Go.Proofs Go.RowKit
set_option maxRecDepth 100000
set_option maxHeartbeats 2000000
open Go Go.Proofs Go.Proofs.YtkdpmkjbfkjmdaaDoor.V
theorem ib60_fn (l : List UInt8) (c : Int) : Fn Tryd.prog 49 [.str (bs l), .int .u8 c] (.int .i64 (Lib.indexByte l c.toNat.toUInt8)) := by
  refine Fn.of Tryd.f49 _ Tryd.func49 rfl (by decide) (by show 2 ≤ _; decide) tbOk 8 rfl fun S w0 gl => ?_
  refine Run.go ?_; (conv => whnf); repeat' (first | ((with_reducible refine Know.mk fun _ => ?_); conv => whnf) | ((with_reducible refine Need.mk ?_ ?_); exact nd; conv => whnf) | ((with_reducible first | refine Both.mk ?_ ?_ | refine Any.mk fun b hb => ?_ | refine AskB.dec (fun hb => ?_) (fun hb => ?_) | refine AskB.ndec (fun hb => ?_) (fun hb => ?_) | refine AskB.mk (fun hb => ?_) (fun hb => ?_)) <;> conv => whnf) | ((with_reducible first | refine Run.drawX rfl (by decide +kernel) ?_ | refine Run.drawT rfl (by decide +kernel) ?_ | refine Run.drawW rfl (by decide +kernel) ?_); conv => whnf) | fail)
  refine Run.indexByteS (f := 58) (x := .tmp 5) (y := .tmp 6) (bs l) c rfl rfl rfl rfl Tryd.func58 (by kernel_rfl) (by kernel_rfl) (by kernel_rfl) (by kernel_rfl) rfl rfl ?_
  rw [bs_data]
  refine Run.go ?_; (conv => whnf); repeat' (first | ((with_reducible refine Know.mk fun _ => ?_); conv => whnf) | ((with_reducible refine Need.mk ?_ ?_); exact nd; conv => whnf) | ((with_reducible first | refine Both.mk ?_ ?_ | refine Any.mk fun b hb => ?_ | refine AskB.dec (fun hb => ?_) (fun hb => ?_) | refine AskB.ndec (fun hb => ?_) (fun hb => ?_) | refine AskB.mk (fun hb => ?_) (fun hb => ?_)) <;> conv => whnf) | ((with_reducible first | refine Run.drawX rfl (by decide +kernel) ?_ | refine Run.drawT rfl (by decide +kernel) ?_ | refine Run.drawW rfl (by decide +kernel) ?_); conv => whnf) | fail)
  exact Run.leave (ts := [4]) (.inr ⟨_, rfl⟩) rfl Tryd.func49 rfl (Le.refl _)
theorem ib47_fn (l : List UInt8) (c : Int) : Fn Tryd.prog 42 [.str (bs l), .int .u8 c] (.int .i64 (Lib.indexByte l c.toNat.toUInt8)) := by
  refine Fn.of Tryd.f42 _ Tryd.func42 rfl (by decide) (by show 2 ≤ _; decide) tbOk 8 rfl fun S w0 gl => ?_
  refine Run.go ?_; (conv => whnf); repeat' (first | ((with_reducible refine Know.mk fun _ => ?_); conv => whnf) | ((with_reducible refine Need.mk ?_ ?_); exact nd; conv => whnf) | ((with_reducible first | refine Both.mk ?_ ?_ | refine Any.mk fun b hb => ?_ | refine AskB.dec (fun hb => ?_) (fun hb => ?_) | refine AskB.ndec (fun hb => ?_) (fun hb => ?_) | refine AskB.mk (fun hb => ?_) (fun hb => ?_)) <;> conv => whnf) | ((with_reducible first | refine Run.drawX rfl (by decide +kernel) ?_ | refine Run.drawT rfl (by decide +kernel) ?_ | refine Run.drawW rfl (by decide +kernel) ?_); conv => whnf) | fail)
  refine Run.callBX (ib60_fn l c) rfl rfl ⟨Le.refl _, Le.refl _, trivial⟩ rfl rfl rfl ?_
  (conv => whnf); repeat' (first | ((with_reducible refine Know.mk fun _ => ?_); conv => whnf) | ((with_reducible refine Need.mk ?_ ?_); exact nd; conv => whnf) | ((with_reducible first | refine Both.mk ?_ ?_ | refine Any.mk fun b hb => ?_ | refine AskB.dec (fun hb => ?_) (fun hb => ?_) | refine AskB.ndec (fun hb => ?_) (fun hb => ?_) | refine AskB.mk (fun hb => ?_) (fun hb => ?_)) <;> conv => whnf) | ((with_reducible first | refine Run.drawX rfl (by decide +kernel) ?_ | refine Run.drawT rfl (by decide +kernel) ?_ | refine Run.drawW rfl (by decide +kernel) ?_); conv => whnf) | fail)
  exact Run.leave (ts := [4]) (.inr ⟨_, rfl⟩) rfl Tryd.func42 rfl (Le.refl _)
theorem bs_inj {a b : List UInt8} (h : bs a = bs b) : a = b := by
  have := congrArg (fun x : ByteArray => x.data.toList) h
  simpa [bs] using this
end Go.Proofs.YtkdpmkjbfkjmdaaDoor.V

namespace Go.Proofs.YtkdpmkjbfkjmdaaDoor.V
set_option linter.unusedVariables false
set_option linter.unusedSimpArgs false
open Go Go.Proofs Go.RowKit
set_option maxRecDepth 100000
set_option maxHeartbeats 1000000
/-- A reader: the text, the place. -/
def stA (l : List UInt8) (n : Nat) : List AV := [.str (bs l), .int .i64 (n : Int)]
/-- The fault at a place. -/
def flt (n : Nat) : Value := .iface 47 (.agg #[.int .i64 (n : Int)])
theorem fail_fn (l : List UInt8) (n : Nat) : FnM Tryd.prog 38 51 (stA l n) [] (stA l n) (.pan (flt n)) := by
  refine FnM.of Tryd.f38 _ Tryd.func38 rfl (by decide) (by show 1 ≤ _; decide) tbOk 8 rfl fun S w g gl hg => ?_
  refine Run.go ?_; (conv => whnf); repeat' (first | ((with_reducible refine Know.mk fun _ => ?_); conv => whnf) | ((with_reducible refine Need.mk ?_ ?_); exact nd; conv => whnf) | ((with_reducible first | refine Both.mk ?_ ?_ | refine Any.mk fun b hb => ?_ | refine AskB.dec (fun hb => ?_) (fun hb => ?_) | refine AskB.ndec (fun hb => ?_) (fun hb => ?_) | refine AskB.mk (fun hb => ?_) (fun hb => ?_)) <;> conv => whnf) | ((with_reducible first | refine Run.drawX rfl (by decide +kernel) ?_ | refine Run.drawT rfl (by decide +kernel) ?_ | refine Run.drawW rfl (by decide +kernel) ?_); conv => whnf) | fail)
  refine Run.mkIf1 (kd := .i64) (n := (n : Int)) rfl rfl rfl rfl (by kernel_rfl) rfl rfl ?_
  refine Run.panic rfl rfl rfl rfl ?_
  apply Raises.lent (hw0 := by rfl) (hkeep := by rfl) (henv := by rfl) (hraw := by rfl) (hg := hg) (hf := Tryd.func38)
  · rfl
  · exact MOle.refl _
  · rfl
/-- The byte at a place, 0 behind the end. -/
def pk (l : List UInt8) (n : Nat) : UInt8 := l.getD n 0
theorem bt_at (l : List UInt8) (i : Nat) : bt (bs l) i = ((l.getD i 0).toNat : Int) := by
  unfold bt bs
  simp [List.getD, Array.getD_eq_getD_getElem?]
theorem peek_fn (l : List UInt8) (n : Nat) (hn : n ≤ l.length) (hl : l.length ≤ 65536) : FnM Tryd.prog 36 51 (stA l n) [] (stA l n) (.ret (.int .u8 ((pk l n).toNat : Int))) := by
  refine FnM.of Tryd.f36 _ Tryd.func36 rfl (by decide) (by show 1 ≤ _; decide) tbOk 22 rfl fun S w g gl hg => ?_
  have hs := bs_size l
  refine Run.go ?_; (conv => whnf); repeat' (first | ((with_reducible refine Know.mk fun _ => ?_); conv => whnf) | ((with_reducible refine Need.mk ?_ ?_); exact nd; conv => whnf) | ((with_reducible first | refine Both.mk ?_ ?_ | refine Any.mk fun b hb => ?_ | refine AskB.dec (fun hb => ?_) (fun hb => ?_) | refine AskB.ndec (fun hb => ?_) (fun hb => ?_) | refine AskB.mk (fun hb => ?_) (fun hb => ?_)) <;> conv => whnf) | ((with_reducible first | refine Run.drawX rfl (by decide +kernel) ?_ | refine Run.drawT rfl (by decide +kernel) ?_ | refine Run.drawW rfl (by decide +kernel) ?_); conv => whnf) | fail)
  · apply Run.leaveM (ts := [2]) (hk := by first | exact .inr ⟨_, rfl⟩ | exact .inl rfl) (hw0 := by rfl) (hkeep := by rfl) (henv := by rfl) (hraw := by rfl) (hg := hg) (hf := Tryd.func36) (hres := by rfl)
    · rfl
    · exact MOle.refl _
    · rfl
    · refine Le.int ?_
      unfold pk
      rw [List.getD, List.getElem?_eq_none (by omega)]; rfl
  · apply Run.leaveM (ts := [2]) (hk := by first | exact .inr ⟨_, rfl⟩ | exact .inl rfl) (hw0 := by rfl) (hkeep := by rfl) (henv := by rfl) (hraw := by rfl) (hg := hg) (hf := Tryd.func36) (hres := by rfl)
    · rfl
    · exact MOle.refl _
    · rfl
    · exact Le.int (bt_at l n)
theorem st_le {t : TypeId} {l : List UInt8} {x : Int} {n : Nat} (h : x = (n : Int)) : MOle (.box t [.str (bs l), .int .i64 x]) (.box t (stA l n)) := by
  subst h; exact MOle.refl _
/-- A byte is asked for. -/
theorem want_no (l : List UInt8) (n : Nat) (c : UInt8) (hn : n ≤ l.length) (hl : l.length ≤ 65536) (h : n = l.length ∨ l.getD n 0 ≠ c) : FnM Tryd.prog 39 51 (stA l n) [.int .u8 (c.toNat : Int)] (stA l n) (.pan (flt n)) := by
  refine FnM.of Tryd.f39 _ Tryd.func39 rfl (by decide) (by show 2 ≤ _; decide) tbOk 36 rfl fun S w g gl hg => ?_
  have hs := bs_size l
  refine Run.go ?_; (conv => whnf); repeat' (first | ((with_reducible refine Know.mk fun _ => ?_); conv => whnf) | ((with_reducible refine Need.mk ?_ ?_); exact nd; conv => whnf) | ((with_reducible first | refine Both.mk ?_ ?_ | refine Any.mk fun b hb => ?_ | refine AskB.dec (fun hb => ?_) (fun hb => ?_) | refine AskB.ndec (fun hb => ?_) (fun hb => ?_) | refine AskB.mk (fun hb => ?_) (fun hb => ?_)) <;> conv => whnf) | ((with_reducible first | refine Run.drawX rfl (by decide +kernel) ?_ | refine Run.drawT rfl (by decide +kernel) ?_ | refine Run.drawW rfl (by decide +kernel) ?_); conv => whnf) | fail)
  · refine Run.callMP 300 (fail_fn l n) rfl rfl rfl (MOle.refl _) rfl (by trivial) rfl rfl ?_
    apply Raises.lent (hw0 := by rfl) (hkeep := by rfl) (henv := by rfl) (hraw := by rfl) (hg := hg) (hf := Tryd.func39)
    · rfl
    · exact MOle.refl _
    · rfl
  · exfalso
    rcases h with h | h
    · omega
    · rw [bt_at] at hb
      exact h (UInt8.toNat.inj (by have := Int.ofNat.inj hb; rwa [Int.toNat_natCast] at this))
  · refine Run.callMP 300 (fail_fn l n) rfl rfl rfl (MOle.refl _) rfl (by trivial) rfl rfl ?_
    apply Raises.lent (hw0 := by rfl) (hkeep := by rfl) (henv := by rfl) (hraw := by rfl) (hg := hg) (hf := Tryd.func39)
    · rfl
    · exact MOle.refl _
    · rfl
theorem want_yes (l : List UInt8) (n : Nat) (c : UInt8) (hn : n < l.length) (hl : l.length ≤ 65536) (h : l.getD n 0 = c) : FnM Tryd.prog 39 51 (stA l n) [.int .u8 (c.toNat : Int)] (stA l (n + 1)) (.ret (.tup 0 fun _ => .u)) := by
  refine FnM.of Tryd.f39 _ Tryd.func39 rfl (by decide) (by show 2 ≤ _; decide) tbOk 36 rfl fun S w g gl hg => ?_
  have hs := bs_size l
  refine Run.go ?_; (conv => whnf); repeat' (first | ((with_reducible refine Know.mk fun _ => ?_); conv => whnf) | ((with_reducible refine Need.mk ?_ ?_); exact nd; conv => whnf) | ((with_reducible first | refine Both.mk ?_ ?_ | refine Any.mk fun b hb => ?_ | refine AskB.dec (fun hb => ?_) (fun hb => ?_) | refine AskB.ndec (fun hb => ?_) (fun hb => ?_) | refine AskB.mk (fun hb => ?_) (fun hb => ?_)) <;> conv => whnf) | ((with_reducible first | refine Run.drawX rfl (by decide +kernel) ?_ | refine Run.drawT rfl (by decide +kernel) ?_ | refine Run.drawW rfl (by decide +kernel) ?_); conv => whnf) | fail)
  · exfalso; omega
  · apply Run.leaveM (ts := []) (hk := by first | exact .inr ⟨_, rfl⟩ | exact .inl rfl) (hw0 := by rfl) (hkeep := by rfl) (henv := by rfl) (hraw := by rfl) (hg := hg) (hf := Tryd.func39) (hres := by rfl)
    · rfl
    · exact st_le (by rw [wrap64 (by omega) (by omega)]; omega)
    · rfl
    · refine Le.tup (fun j hj => absurd hj (Nat.not_lt_zero _))
  · exfalso
    rw [bt_at, Int.toNat_natCast, h] at hb
    exact hb rfl
end Go.Proofs.YtkdpmkjbfkjmdaaDoor.V

namespace Go.Proofs.YtkdpmkjbfkjmdaaDoor.V
set_option linter.unusedVariables false
set_option linter.unusedSimpArgs false
open Go Go.Proofs Go.RowKit
set_option maxRecDepth 100000
set_option maxHeartbeats 2000000
open Go Go.Proofs Go.Proofs.YtkdpmkjbfkjmdaaDoor.V
theorem bs5 {N : Nat} {w0 : World} {S : Nat → Prop} {gl : GlobOk S w0} {f : FuncId} {R : Ending → World → Prop} {kp : Kept} {ops : Array Oper} {i : Nat} {rest : List Nat} {k : List Item} {env : Env} {h : Heap} {o : Oper} {x : Operand}
    (p : AV) (t : ByteArray) (ho : ops.toList[i]? = some o) (hc : calls? o = some (27, [x])) (hd : okD ⟨Tryd.prog, TB, tbOk, N, w0, S, gl, f, R, kp⟩ o.dst = true) (hr : ready env ops o = true) (hx : ev (scrubE 900 env) x = .box 5 0)
    (next : Run ⟨Tryd.prog, TB, tbOk, N, w0, S, gl, f, R, kp⟩ (.inRegion ops rest :: k) (putE (scrubE 900 env) o.dst (.str t)) (upd (upd (upd (scrubH 900 h) 900 .dead) 5 .dead) 90 .dead)) :
    Run ⟨Tryd.prog, TB, tbOk, N, w0, S, gl, f, R, kp⟩ (.inRegion ops (i :: rest) :: k) env (bldr 60 5 5 90 h p t) := by
  refine Run.inline 900 Tryd.f27 _ 14 ho hc Tryd.func27 rfl (by decide) rfl (by show 1 ≤ 14; decide) hd hr (fun a hsz hdf => ?_)
  simp only [List.map, hx]
  have fin : ∀ (H : Heap), (∀ id, Nat.beq id 5 = false → Nat.beq id 90 = false → Nat.beq id 900 = false → H id = scrubM 900 (h id)) →
      Run ⟨Tryd.prog, TB, tbOk, N, w0, S, gl, f, R, kp⟩ (.inRegion ops rest :: k) (putE (scrubE 900 env) o.dst (.str t)) H := by
    intro H hH
    refine Run.weaken (fun i => Le.refl _) (fun id => ?_) next
    cases e5 : Nat.beq id 5 with
    | true => simp only [upd, e5, cond_true, cond_false]; cases Nat.beq id 90 <;> exact mole_dead _
    | false =>
    cases e90 : Nat.beq id 90 with
    | true => simp only [upd, e5, e90, cond_true, cond_false]; exact mole_dead _
    | false =>
    cases e900 : Nat.beq id 900 with
    | true => simp only [upd, e5, e90, e900, cond_true, cond_false]; exact mole_dead _
    | false =>
      rw [hH id e5 e90 e900]
      simp only [upd, e5, e90, e900, cond_true, cond_false]
      exact MOle.refl _
  refine Run.go ?_; (conv => whnf); repeat' (first | ((with_reducible refine Know.mk fun _ => ?_); conv => whnf) | ((with_reducible refine Need.mk ?_ ?_); exact nd; conv => whnf) | ((with_reducible first | refine Both.mk ?_ ?_ | refine Any.mk fun b hb => ?_ | refine AskB.dec (fun hb => ?_) (fun hb => ?_) | refine AskB.ndec (fun hb => ?_) (fun hb => ?_) | refine AskB.mk (fun hb => ?_) (fun hb => ?_)) <;> conv => whnf) | ((with_reducible first | refine Run.drawX rfl (by decide +kernel) ?_ | refine Run.drawT rfl (by decide +kernel) ?_ | refine Run.drawW rfl (by decide +kernel) ?_); conv => whnf) | fail)
  · refine Run.unsafeString0 (i := 10) (rest := [11]) (k := [.code .ret]) (x := .tmp 7) (y := .tmp 12) (c := ⟨.builtin .unsafeString, #[.tmp 7, .tmp 12], #[77, 3]⟩) rfl rfl rfl rfl rfl rfl rfl (.inl rfl) (by show AV.int .i64 (t.size : Int) = _; rw [hb]; rfl) ?_
    have ht : t = .empty := by simpa using hb
    refine Run.go ?_; (conv => whnf); repeat' (first | ((with_reducible refine Know.mk fun _ => ?_); conv => whnf) | ((with_reducible refine Need.mk ?_ ?_); exact nd; conv => whnf) | ((with_reducible first | refine Both.mk ?_ ?_ | refine Any.mk fun b hb => ?_ | refine AskB.dec (fun hb => ?_) (fun hb => ?_) | refine AskB.ndec (fun hb => ?_) (fun hb => ?_) | refine AskB.mk (fun hb => ?_) (fun hb => ?_)) <;> conv => whnf) | ((with_reducible first | refine Run.drawX rfl (by decide +kernel) ?_ | refine Run.drawT rfl (by decide +kernel) ?_ | refine Run.drawW rfl (by decide +kernel) ?_); conv => whnf) | fail)
    refine Run.back 900 (ts := [2]) hsz hdf (.inr ⟨_, rfl⟩) (by rfl) Tryd.func27 rfl ?_
    rw [ht] at fin next ⊢
    exact fin _ (fun id e5 e90 e900 => by simp only [upd, scrubH, bldr, e5, e90, e900, cond_false])
  · refine Run.unsafeString (i := 10) (rest := [11]) (k := [.code .ret]) (x := .tmp 7) (y := .tmp 12) (c := ⟨.builtin .unsafeString, #[.tmp 7, .tmp 12], #[77, 3]⟩) t rfl rfl rfl rfl rfl rfl rfl rfl rfl (e := 5) (n := t.size) (q := 90) (get := bytesG t) rfl rfl hb (fun _ _ => rfl) (by kernel_rfl) (by kernel_rfl) ?_
    refine Run.go ?_; (conv => whnf); repeat' (first | ((with_reducible refine Know.mk fun _ => ?_); conv => whnf) | ((with_reducible refine Need.mk ?_ ?_); exact nd; conv => whnf) | ((with_reducible first | refine Both.mk ?_ ?_ | refine Any.mk fun b hb => ?_ | refine AskB.dec (fun hb => ?_) (fun hb => ?_) | refine AskB.ndec (fun hb => ?_) (fun hb => ?_) | refine AskB.mk (fun hb => ?_) (fun hb => ?_)) <;> conv => whnf) | ((with_reducible first | refine Run.drawX rfl (by decide +kernel) ?_ | refine Run.drawT rfl (by decide +kernel) ?_ | refine Run.drawW rfl (by decide +kernel) ?_); conv => whnf) | fail)
    refine Run.back 900 (ts := [2]) hsz hdf (.inr ⟨_, rfl⟩) (by rfl) Tryd.func27 rfl ?_
    exact fin _ (fun id e5 e90 e900 => by simp only [upd, scrubH, bldr, e5, e90, e900, cond_false])
def signL : List UInt8 := [63, 48, 49, 50, 51, 52, 53, 54, 55, 56, 57, 97, 98]
def signC (x : Int) : UInt8 := signL.getD (x + 1).toNat 0
/-- A matrix's bytes. -/
def prL (m : List (List Int)) : List UInt8 := m.flatMap (fun r => r.map signC ++ [10])
theorem bs_push (a : List UInt8) (u : UInt8) : bs a ++ ⟨#[u]⟩ = bs (a ++ [u]) := by
  apply ByteArray.ext; apply Array.ext'; simp [bs]
open Classical in
noncomputable def printS (m : List (List Int)) : ByteArray := if OkM m then bs (prL m) else .empty
end Go.Proofs.YtkdpmkjbfkjmdaaDoor.V

