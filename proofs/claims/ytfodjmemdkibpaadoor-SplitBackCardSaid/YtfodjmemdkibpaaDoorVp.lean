/-
Statements whose order Go leaves open, stores among them: a store turns one object; what may stand on either side of it does not look at that object.
-/
import Derived.Test.YtfodjmemdkibpaaDoorVo
namespace Go.Proofs.YtfodjmemdkibpaaDoor.V
open Go Go.RowKit
set_option linter.unusedSimpArgs false
set_option linter.unusedVariables false

/-- A store that turns one object and nothing else. -/
def astoreN (P : TT) (t : TypeId) (x y : AV) (h : Heap) (K : Nat → MO → Prop) (stop : Prop) : Prop :=
  match P.underlying t with
  | some _ => match cellsAV y with
    | some l => (match x with
      | .madr id i sz a b => match h id with
        | .mat e sz0 n get0 o ei szi len get hole => cond (Nat.beq l.length (P.cellsOf t) && Nat.ble (b + l.length) sz && l.all noRef)
            (K id (.mat e sz0 n get0 o ei szi len (updIn get i (updRow (get i) a b l)) hole)) stop
        | _ => stop
      | .box id off => match h id with
        | .box t' l0 => cond (Nat.beq l.length (P.cellsOf t)) (cond (Nat.ble (off + l.length) l0.length) (K id (.box t' (setL l0 off l))) stop) stop
        | _ => stop
      | .radr id sz i j => match h id with
        | .row e sz' n get => cond (Nat.beq l.length (P.cellsOf t)) (cond (Nat.ble (j + l.length) sz && l.all noRef) (K id (.row e sz' n (updRow get i j l))) stop) stop
        | _ => stop
      | _ => stop)
    | none => stop
  | none => stop

theorem astoreN_ok {T : TT} {t : TypeId} {x y : AV} {h : Heap} {K : Nat → MO → Prop} {stop : Prop} (hk : astoreN T t x y h K stop) :
    stop ∨ ∃ id m, K id m ∧ ∀ (env : Env) (K' : Env → Heap → Prop), K' env (upd h id m) → astoreA T t x y env h K' False := by
  unfold astoreN at hk
  split at hk
  · rename_i d hd
    split at hk
    · rename_i l hl
      split at hk
      · rename_i id i sz a b
        split at hk
        · rename_i e sz0 n get0 o ei szi len get hole hh
          cases hb : (Nat.beq l.length (T.cellsOf t) && Nat.ble (b + l.length) sz && l.all noRef) with
          | false => rw [hb] at hk; exact .inl hk
          | true =>
            rw [hb, cond_true] at hk
            exact .inr ⟨_, _, hk, fun env K' hK => by simp only [astoreA, isM, cond_true, astoreM, hd, hl, hh, hb]; exact hK⟩
        · exact .inl hk
      · rename_i id off
        split at hk
        · rename_i t' l0 hh
          cases hb : Nat.beq l.length (T.cellsOf t) with
          | false => rw [hb] at hk; exact .inl hk
          | true =>
            rw [hb, cond_true] at hk
            cases hb2 : Nat.ble (off + l.length) l0.length with
            | false => rw [hb2] at hk; exact .inl hk
            | true =>
              rw [hb2, cond_true] at hk
              exact .inr ⟨_, _, hk, fun env K' hK => by simp only [astoreA, isM, cond_false, astore, hd, hl, hh, hb, hb2, cond_true]; exact hK⟩
        · exact .inl hk
      · rename_i id sz i j
        split at hk
        · rename_i e sz' n get hh
          cases hb : Nat.beq l.length (T.cellsOf t) with
          | false => rw [hb] at hk; exact .inl hk
          | true =>
            rw [hb, cond_true] at hk
            cases hb2 : (Nat.ble (j + l.length) sz && l.all noRef) with
            | false => rw [hb2] at hk; exact .inl hk
            | true =>
              rw [hb2, cond_true] at hk
              exact .inr ⟨_, _, hk, fun env K' hK => by simp only [astoreA, isM, hh, cond_false, astore, hd, hl, hb, hb2, cond_true]; exact hK⟩
        · exact .inl hk
      · exact .inl hk
    · exact .inl hk
  · exact .inl hk

/-! ### what is asked of the list itself -/
def hasEdge (o : Oper) (j : Nat) : Bool := o.after.toList.any fun e => Region.binds .any e && Nat.beq e.on j
theorem hasEdge_ok {o : Oper} {j : Nat} (h : hasEdge o j = true) : ∃ e ∈ o.after, Region.binds .any e = true ∧ e.on = j := by
  obtain ⟨e, he, h3⟩ := List.any_eq_true.mp h
  rw [Bool.and_eq_true] at h3
  exact ⟨e, by simpa using he, h3.1, Nat.eq_of_beq_eq_true h3.2⟩

def drawStatW (ops : Array Oper) : Bool := (List.range ops.size).all fun i => match ops.toList[i]? with
  | none => false
  | some o => (o.after.toList.all fun e => !Region.binds .any e || Nat.blt e.on i) &&
    (((looks ops o).all fun s => (List.range ops.size).all fun j => match dstOf ops j with
      | some d => !(Nat.beq d s) || hasEdge o j
      | none => true) &&
    ((List.range ops.size).all fun j => Nat.beq j i || match dstOf ops j, o.dst with
      | some d, some d' => !(Nat.beq d d')
      | _, _ => true))

theorem Stat.ofW {ops : Array Oper} (hs : drawStatW ops = true) : Stat ops ops.size := by
  unfold drawStatW at hs
  have key : ∀ (i : Nat) o, ops[i]? = some o → (o.after.toList.all fun e => !Region.binds .any e || Nat.blt e.on i) = true ∧
    ((looks ops o).all fun s => (List.range ops.size).all fun j => match dstOf ops j with
      | some d => !(Nat.beq d s) || hasEdge o j
      | none => true) = true ∧
    ((List.range ops.size).all fun j => Nat.beq j i || match dstOf ops j, o.dst with
      | some d, some d' => !(Nat.beq d d')
      | _, _ => true) = true := by
    intro i o ho
    have hi : i < ops.size := (Array.getElem?_eq_some_iff.1 ho).1
    have := List.all_eq_true.mp hs i (List.mem_range.mpr hi)
    have ho' : ops.toList[i]? = some o := by simpa using ho
    rw [ho'] at this
    simpa only [Bool.and_eq_true] using this
  refine ⟨Nat.le_refl _, ?_, ?_, ?_, ?_⟩
  · intro i o ho e he hb
    have := List.all_eq_true.mp (key i o ho).1 e (by simpa using he)
    rw [hb] at this
    simpa [Nat.blt_eq] using this
  · intro i o hip ho s hs' j hjp hj
    have h1 := List.all_eq_true.mp (key i o ho).2.1 s hs'
    have h2 := List.all_eq_true.mp h1 j (List.mem_range.mpr hjp)
    rw [hj] at h2
    simp only [Nat.beq_refl, Bool.not_true, Bool.false_or] at h2
    exact hasEdge_ok h2
  · intro i j d hip hjp hi hj
    have hi' := hi
    unfold dstOf at hi'
    cases ho : ops.toList[i]? with
    | none => rw [ho] at hi'; cases hi'
    | some o =>
      rw [ho] at hi'
      have hd : o.dst = some d := hi'
      have h1 := List.all_eq_true.mp (key i o (by simpa using ho)).2.2 j (List.mem_range.mpr hjp)
      rw [hj, hd] at h1
      simp only [Nat.beq_refl, Bool.not_true, Bool.or_false] at h1
      exact (Nat.eq_of_beq_eq_true h1).symm
  · intro i o hip ho
    exact absurd (Array.getElem?_eq_some_iff.1 ho).1 (by omega)

/-! ### the walk, in the text's order -/
def isSt (o : Oper) : Option (TypeId × Operand × Operand) := match o.op, o.guard, o.dst with
  | .store t x y, none, none => some (t, x, y)
  | _, _, _ => none
theorem isSt_ok {o : Oper} {t : TypeId} {x y : Operand} (h : isSt o = some (t, x, y)) : o.op = .store t x y ∧ o.guard = none ∧ o.dst = none := by
  unfold isSt at h
  split at h
  · rename_i h1 h2 h3; cases h; exact ⟨h1, h2, h3⟩
  · cases h
def rdsOf (o : Oper) (env : Env) : List Nat := o.op.operands.toList.flatMap fun y => idOf (ev env y)
def rdsQ (o : Oper) (env : Env) : Option (List Nat) := match calls? o with
  | some _ => none
  | none => some (rdsOf o env)
def clear (id : Nat) : Option (List Nat) → Bool
  | some l => !memL id l
  | none => false
where memL (id : Nat) : List Nat → Bool
  | [] => false
  | x :: l => cond (Nat.beq id x) true (memL id l)
def okS (o : Oper) (id : Nat) (p : Nat × Option (List Nat)) : Bool := cond (hasEdge o p.1) true (clear id p.2)
def okQ (o : Oper) (rd : Option (List Nat)) (s : Nat × Nat) : Bool := cond (hasEdge o s.1) true (clear s.2 rd)

def aqW (C : Ctx) (ops : Array Oper) (k : List Item) : List Oper → Nat → Env → Heap → List (Nat × Option (List Nat)) → List (Nat × Nat) → Prop
  | [], _, env, h, _, _ => aexec C 400 k env h
  | o :: rest, i, env, h, past, sts => match isSt o with
    | some (t, x, y) => fv (ev env x) fun x => fv (ev env y) fun y => astoreN C.T t x y h (fun id m => cond (sts.all (fun s => hasEdge o s.1) && past.all (okS o id)) (aqW C ops k rest (i + 1) env (upd h id m) past ((i, id) :: sts)) False) False
    | none => withDst o fun dst => cond (okD C.N dst) (match o.guard with
      | none => cond (sts.all (okQ o (rdsQ o env))) (aqStep C h o dst env (fun env' => aqW C ops k rest (i + 1) env' h ((i, rdsQ o env) :: past) sts)) False
      | some (j, want) => match dstOf ops j with
        | some d => match env d with
          | .tt => cond want (cond (sts.all (okQ o (rdsQ o env))) (aqStep C h o dst env (fun env' => aqW C ops k rest (i + 1) env' h ((i, rdsQ o env) :: past) sts)) False) (aqW C ops k rest (i + 1) (putE env dst .sk) h ((i, some []) :: past) sts)
          | .ff => cond want (aqW C ops k rest (i + 1) (putE env dst .sk) h ((i, some []) :: past) sts) (cond (sts.all (okQ o (rdsQ o env))) (aqStep C h o dst env (fun env' => aqW C ops k rest (i + 1) env' h ((i, rdsQ o env) :: past) sts)) False)
          | .sk => aqW C ops k rest (i + 1) (putE env dst .sk) h ((i, some []) :: past) sts
          | _ => False
        | none => False) False

/-! ### what the walk says, whatever the order -/
inductive Rec where
  | st (id : Nat)
  | q (rd : Option (List Nat))

def StSem (C : Ctx) (h h' : Heap) (t : TypeId) (x y : Operand) (E : Env) : Prop :=
  ∀ env ι a w, Rel C env h ι a w → VR w (okB C h ι w) (ev E x) (rf h ι) (a.eval x) → VR w (okB C h ι w) (ev E y) (rf h ι) (a.eval y) →
    ∃ w' ι', (Instr.storeAt t (a.eval x) (a.eval y)).run C.P w = .ok () w' ∧ Rel C env h' ι' a w'

def OpW (C : Ctx) (ops : Array Oper) (E : Env) (Hs : Nat → Heap) (rec : Nat → Rec) (j : Nat) : Prop :=
  ∃ o, ops[j]? = some o ∧ match rec j with
    | .st id => o.dst = none ∧ (∃ m, Hs (j + 1) = upd (Hs j) id m) ∧ ∃ t x y, o.op = .store t x y ∧ o.guard = none ∧ StSem C (Hs j) (Hs (j + 1)) t x y E
    | .q rd => okD C.N o.dst = true ∧ Hs (j + 1) = Hs j ∧
      ((GuardSem ops E o true ∧ ∃ x, (∀ h', (∀ id, clear id rd = false → h' id = Hs j id) → Quiet C h' o (ev E) x) ∧ ∀ d, o.dst = some d → Le x (E d)) ∨ (GuardSem ops E o false ∧ ∀ d, o.dst = some d → Le .sk (E d)))

def Pair (o : Oper) (j' : Nat) : Rec → Rec → Bool
  | .st _, .st _ => hasEdge o j'
  | .st id, .q rd => okS o id (j', rd)
  | .q rd, .st id => okQ o rd (j', id)
  | .q _, .q _ => true

theorem memL_flat {id : Nat} {l : List Nat} (h : id ∈ l) : clear.memL id l = true := by
  induction l with
  | nil => cases h
  | cons x l ih =>
    unfold clear.memL
    cases hb : Nat.beq id x with
    | true => rfl
    | false =>
      rcases List.mem_cons.mp h with e | h'
      · subst e; rw [Nat.beq_refl] at hb; cases hb
      · exact ih h'

section
variable {C : Ctx} {ops : Array Oper}

theorem aqW_ok (S : Stat ops ops.size) {k : List Item} : ∀ (idxs : List Oper) (i : Nat), i + idxs.length = ops.size → idxs = ops.toList.drop i → ∀ (env : Env) (h : Heap) (ι : Loc) (a : Act) (w : World) past sts, Rel C env h ι a w → aqW C ops k idxs i env h past sts →
    ∃ E Hs rec, Hs i = h ∧ aexec C 400 k E (Hs ops.size) ∧ (∀ s, (∀ j, i ≤ j → j < ops.size → dstOf ops j ≠ some s) → Eqv (env s) (E s)) ∧
      ∀ j, i ≤ j → j < ops.size → OpW C ops E Hs rec j ∧ ∀ o, ops[j]? = some o → (∀ s ∈ sts, Pair o s.1 (rec j) (.st s.2) = true) ∧ (∀ p ∈ past, Pair o p.1 (rec j) (.q p.2) = true) ∧ ∀ j', i ≤ j' → j' < j → Pair o j' (rec j) (rec j') = true := by
  intro idxs
  induction idxs with
  | nil =>
    intro i hlen hl env h ι a w past sts R hq
    refine ⟨env, fun _ => h, fun _ => .st 0, rfl, hq, fun s _ => Eqv.refl _, fun j h1 h2 => ?_⟩
    simp at hlen; omega
  | cons o rest ih =>
    intro i hlen hl env h ι a w past sts R hq
    have hilt : i < ops.toList.length := by
      rcases Nat.lt_or_ge i ops.toList.length with h' | h'
      · exact h'
      · rw [List.drop_eq_nil_of_le h'] at hl; cases hl
    rw [List.drop_eq_getElem_cons hilt] at hl
    injection hl with e1 e2
    have hip : i < ops.size := by simpa using hilt
    have ho : ops.toList[i]? = some o := by rw [List.getElem?_eq_getElem hilt, ← e1]
    have ho' : ops[i]? = some o := by simpa using ho
    have hdsti : dstOf ops i = o.dst := by unfold dstOf; rw [ho]; rfl
    have hlen' : (i + 1) + rest.length = ops.size := by simp at hlen; omega
    have hfree : ∀ s ∈ looks ops o, ∀ j, i ≤ j → j < ops.size → dstOf ops j ≠ some s := by
      intro s hs j hij hjp e
      obtain ⟨ed, h1, h2, h3⟩ := S.look i o hip ho' s hs j hjp e
      have := S.edge i o ho' ed h1 h2
      omega
    -- what is known behind this statement is known with it
    have lift : ∀ (r : Rec) (h' : Heap) (E : Env) (Hs : Nat → Heap) (rec : Nat → Rec) (past' : List (Nat × Option (List Nat))) (sts' : List (Nat × Nat)),
        (match r with | .st id => past' = past ∧ sts' = (i, id) :: sts | .q rd => past' = (i, rd) :: past ∧ sts' = sts) → Hs (i + 1) = h' → aexec C 400 k E (Hs ops.size) →
        OpW C ops E (fun j => if j ≤ i then h else Hs j) (fun j => if j = i then r else rec j) i →
        (∀ s ∈ sts, Pair o s.1 r (.st s.2) = true) → (∀ p ∈ past, Pair o p.1 r (.q p.2) = true) →
        (∀ s, (∀ j, i ≤ j → j < ops.size → dstOf ops j ≠ some s) → Eqv (env s) (E s)) →
        (∀ j, i + 1 ≤ j → j < ops.size → OpW C ops E Hs rec j ∧ ∀ o, ops[j]? = some o → (∀ s ∈ sts', Pair o s.1 (rec j) (.st s.2) = true) ∧ (∀ p ∈ past', Pair o p.1 (rec j) (.q p.2) = true) ∧ ∀ j', i + 1 ≤ j' → j' < j → Pair o j' (rec j) (rec j') = true) →
        ∃ E Hs rec, Hs i = h ∧ aexec C 400 k E (Hs ops.size) ∧ (∀ s, (∀ j, i ≤ j → j < ops.size → dstOf ops j ≠ some s) → Eqv (env s) (E s)) ∧
          ∀ j, i ≤ j → j < ops.size → OpW C ops E Hs rec j ∧ ∀ o, ops[j]? = some o → (∀ s ∈ sts, Pair o s.1 (rec j) (.st s.2) = true) ∧ (∀ p ∈ past, Pair o p.1 (rec j) (.q p.2) = true) ∧ ∀ j', i ≤ j' → j' < j → Pair o j' (rec j) (rec j') = true := by
      intro r h' E Hs rec past' sts' hps hH hE hop hs0 hp0 hE1 hall
      refine ⟨E, fun j => if j ≤ i then h else Hs j, fun j => if j = i then r else rec j, if_pos (Nat.le_refl _), ?_, hE1, fun j h1 h2 => ?_⟩
      · show aexec C 400 k E (if ops.size ≤ i then h else Hs ops.size)
        rw [if_neg (by omega)]; exact hE
      · by_cases hji : j = i
        · subst hji
          refine ⟨hop, fun o2 ho2 => ?_⟩
          rw [ho'] at ho2; cases ho2
          simp only [if_true]
          exact ⟨hs0, hp0, fun j' h3 h4 => by omega⟩
        · obtain ⟨⟨o1, h5, h6⟩, h7⟩ := hall j (by omega) h2
          refine ⟨⟨o1, h5, ?_⟩, fun o2 ho2 => ?_⟩
          · simp only [if_neg hji, show ¬ j ≤ i by omega, show ¬ j + 1 ≤ i by omega, if_false]; exact h6
          · obtain ⟨h8, h9, h10⟩ := h7 o2 ho2
            simp only [if_neg hji]
            refine ⟨?_, ?_, fun j' h3 h4 => ?_⟩
            · cases r with
              | st id => rw [hps.2] at h8; exact fun s hs => h8 s (List.mem_cons_of_mem _ hs)
              | q rd => rw [hps.2] at h8; exact h8
            · cases r with
              | st id => rw [hps.1] at h9; exact h9
              | q rd => rw [hps.1] at h9; exact fun p hp => h9 p (List.mem_cons_of_mem _ hp)
            · by_cases hj' : j' = i
              · subst hj'
                simp only [if_true]
                cases r with
                | st id => rw [hps.2] at h8; exact h8 (_, _) (List.mem_cons_self ..)
                | q rd => rw [hps.1] at h9; exact h9 (_, _) (List.mem_cons_self ..)
              · rw [if_neg hj']; exact h10 j' (by omega) h4
    unfold aqW at hq
    cases hst : isSt o with
    | some txy =>
      obtain ⟨t, x, y⟩ := txy
      rw [hst] at hq
      simp only [fv_eq] at hq
      obtain ⟨hop, hg, hd⟩ := isSt_ok hst
      rcases astoreN_ok hq with hf | ⟨id, m, hk, hsto⟩
      · exact hf.elim
      · cases hb : (sts.all (fun s => hasEdge o s.1) && past.all (okS o id)) with
        | false => rw [hb] at hk; exact hk.elim
        | true =>
          rw [hb, cond_true] at hk
          rw [Bool.and_eq_true] at hb
          have hsem : ∀ E : Env, Le (ev E x) (ev env x) → Le (ev E y) (ev env y) → StSem C h (upd h id m) t x y E := by
            intro E hx hy env1 ι1 a1 w1 R1 h1 h2
            rcases astoreA_ok R1 (hx _ _ _ _ h1) (hy _ _ _ _ h2) (hsto env1 (fun env' h' => env' = env1 ∧ h' = upd h id m) ⟨rfl, rfl⟩) with hf | ⟨w', env', h', ι', hr, R', he1, he2⟩
            · exact hf.elim
            · subst he1; subst he2; exact ⟨w', ι', hr, R'⟩
          obtain ⟨w', ι', hr, R'⟩ := hsem env (Le.refl _) (Le.refl _) env ι a w R (ev_ok R x) (ev_ok R y)
          obtain ⟨E, Hs, rec, hH, hE, hE1, hall⟩ := ih (i + 1) hlen' e2 env (upd h id m) ι' a w' past ((i, id) :: sts) R' hk
          have hE2 : ∀ s, (∀ j, i ≤ j → j < ops.size → dstOf ops j ≠ some s) → Eqv (env s) (E s) := fun s hs => hE1 s fun j h1 h2 => hs j (by omega) h2
          have hlook : ∀ z, z ∈ o.op.operands → Le (ev E z) (ev env z) := by
            intro z hz
            cases z with
            | tmp s => exact (hE2 s (fun j h1 h2 => hfree s (looks_tmp hz) j h1 h2)).2
            | const v => exact Le.refl _
            | global g => exact Le.refl _
            | func f => exact Le.refl _
          refine lift (.st id) (upd h id m) E Hs rec past ((i, id) :: sts) ⟨rfl, rfl⟩ hH hE ?_ (fun s hs => List.all_eq_true.mp hb.1 s hs) (fun p hp => List.all_eq_true.mp hb.2 p hp) hE2 hall
          refine ⟨o, ho', ?_⟩
          simp only [if_true, Nat.le_refl, show ¬ i + 1 ≤ i by omega, if_false]
          refine ⟨hd, ⟨m, hH⟩, t, x, y, hop, hg, ?_⟩
          rw [hH]
          exact hsem E (hlook x (by rw [hop]; simp [Op.operands])) (hlook y (by rw [hop]; simp [Op.operands]))
    | none =>
      rw [hst] at hq
      simp only at hq
      rw [withDst_eq] at hq
      cases hd : okD C.N o.dst with
      | false => rw [hd] at hq; exact hq.elim
      | true =>
        rw [hd, cond_true] at hq
        have hput : ∀ (x : AV) s, (∀ d, o.dst = some d → s ≠ d) → putE env o.dst x s = env s := by
          intro x s hs
          cases hq : o.dst with
          | none => rfl
          | some d => exact upd_other _ _ (hs d hq)
        have step : (∀ E, (∀ s, s ∈ looks ops o → Eqv (env s) (E s)) → GuardSem ops E o true) → (Region.wanted o (yielded ops a.tmps) = true) →
            cond (sts.all (okQ o (rdsQ o env))) (aqStep C h o o.dst env (fun env' => aqW C ops k rest (i + 1) env' h ((i, rdsQ o env) :: past) sts)) False →
            ∃ E Hs rec, Hs i = h ∧ aexec C 400 k E (Hs ops.size) ∧ (∀ s, (∀ j, i ≤ j → j < ops.size → dstOf ops j ≠ some s) → Eqv (env s) (E s)) ∧
              ∀ j, i ≤ j → j < ops.size → OpW C ops E Hs rec j ∧ ∀ o, ops[j]? = some o → (∀ s ∈ sts, Pair o s.1 (rec j) (.st s.2) = true) ∧ (∀ p ∈ past, Pair o p.1 (rec j) (.q p.2) = true) ∧ ∀ j', i ≤ j' → j' < j → Pair o j' (rec j) (rec j') = true := by
          intro hguard hwant hstep
          cases hb : sts.all (okQ o (rdsQ o env)) with
          | false => rw [hb] at hstep; exact hstep.elim
          | true =>
            rw [hb, cond_true] at hstep
            have hx : ∃ x, aqW C ops k rest (i + 1) (putE env o.dst x) h ((i, rdsQ o env) :: past) sts ∧ ∀ h', (∀ id, clear id (rdsQ o env) = false → h' id = h id) → Quiet C h' o (ev env) x := by
              unfold aqStep at hstep
              unfold rdsQ at hstep ⊢
              split at hstep
              · rename_i cc hcc
                rw [hcc] at hstep ⊢
                obtain ⟨x, h1, h2⟩ := hstep.out
                exact ⟨x, h1, fun h' hag => by
                  have : h' = h := funext fun id => hag id rfl
                  rw [this]; exact h2⟩
              · rename_i hcc
                rw [hcc] at hstep ⊢
                rcases qop_quietR R (fun y _ => ev_ok R y) hstep with hf | ⟨x, h1, h2⟩
                · exact hf.elim
                · refine ⟨x, (fv_eq _ _).mp h1, fun h' hag => h2 h' fun y hy id hid => hag id ?_⟩
                  simp only [clear]
                  have hmem : clear.memL id (rdsOf o env) = true := memL_flat (List.mem_flatMap.mpr ⟨y, by simpa using hy, hid⟩)
                  rw [hmem]; rfl
            obtain ⟨x, hk, hqx⟩ := hx
            obtain ⟨v, w2, ι2, _, R2, hv⟩ := hqx h (fun _ _ => rfl) env ι a w R (fun y _ => ev_ok R y) default [] [] ops i [] ho' hwant
            obtain ⟨E, Hs, rec, hH, hE, hE1, hall⟩ := ih (i + 1) hlen' e2 _ h ι2 _ w2 _ _ (R2.put hv hd) hk
            have hE2 : ∀ s, (∀ j, i ≤ j → j < ops.size → dstOf ops j ≠ some s) → Eqv (env s) (E s) := fun s hs => by
              have h3 := hE1 s fun j h1 h2 => hs j (by omega) h2
              rw [hput x s (fun d hd' e => hs i (Nat.le_refl _) hip (by rw [hdsti, hd', e]))] at h3
              exact h3
            have hlook : ∀ s ∈ looks ops o, Eqv (env s) (E s) := fun s hs => hE2 s (hfree s hs)
            refine lift (.q (rdsQ o env)) h E Hs rec _ _ ⟨rfl, rfl⟩ hH hE ?_ (fun s hs => List.all_eq_true.mp hb s hs) (fun p hp => rfl) hE2 hall
            refine ⟨o, ho', ?_⟩
            simp only [if_true, Nat.le_refl, show ¬ i + 1 ≤ i by omega, if_false]
            refine ⟨hd, hH, .inl ⟨hguard E hlook, x, fun h' hag => (hqx h' hag).congr (fun s hs => (hlook s (looks_tmp hs)).2), fun d hd' => ?_⟩⟩
            have h3 := hE1 d (fun j' hj' hjp' e => by
              have := S.one _ _ _ hjp' hip e (hdsti.trans hd')
              omega)
            rw [hd'] at h3
            simp only [putE, upd_same] at h3
            exact h3.1
        have skip : (∀ E, (∀ s, s ∈ looks ops o → Eqv (env s) (E s)) → GuardSem ops E o false) → aqW C ops k rest (i + 1) (putE env o.dst .sk) h ((i, some []) :: past) sts →
            ∃ E Hs rec, Hs i = h ∧ aexec C 400 k E (Hs ops.size) ∧ (∀ s, (∀ j, i ≤ j → j < ops.size → dstOf ops j ≠ some s) → Eqv (env s) (E s)) ∧
              ∀ j, i ≤ j → j < ops.size → OpW C ops E Hs rec j ∧ ∀ o, ops[j]? = some o → (∀ s ∈ sts, Pair o s.1 (rec j) (.st s.2) = true) ∧ (∀ p ∈ past, Pair o p.1 (rec j) (.q p.2) = true) ∧ ∀ j', i ≤ j' → j' < j → Pair o j' (rec j) (rec j') = true := by
          intro hguard hk
          obtain ⟨E, Hs, rec, hH, hE, hE1, hall⟩ := ih (i + 1) hlen' e2 _ h ι _ w _ _ (R.put (x := .sk) (v := undef) rfl hd) hk
          have hE2 : ∀ s, (∀ j, i ≤ j → j < ops.size → dstOf ops j ≠ some s) → Eqv (env s) (E s) := fun s hs => by
            have h3 := hE1 s fun j h1 h2 => hs j (by omega) h2
            rw [hput .sk s (fun d hd' e => hs i (Nat.le_refl _) hip (by rw [hdsti, hd', e]))] at h3
            exact h3
          have hlook : ∀ s ∈ looks ops o, Eqv (env s) (E s) := fun s hs => hE2 s (hfree s hs)
          refine lift (.q (some [])) h E Hs rec _ _ ⟨rfl, rfl⟩ hH hE ?_ (fun s hs => by
            show okQ o (some []) (s.1, s.2) = true
            unfold okQ; cases hasEdge o s.1 <;> rfl) (fun p hp => rfl) hE2 hall
          refine ⟨o, ho', ?_⟩
          simp only [if_true, Nat.le_refl, show ¬ i + 1 ≤ i by omega, if_false]
          refine ⟨hd, hH, .inr ⟨hguard E hlook, fun d hd' => ?_⟩⟩
          have h3 := hE1 d (fun j' hj' hjp' e => by
            have := S.one _ _ _ hjp' hip e (hdsti.trans hd')
            omega)
          rw [hd'] at h3
          simp only [putE, upd_same] at h3
          exact h3.1
        split at hq
        · rename_i hg
          exact step (fun E _ => by unfold GuardSem; rw [hg]) (wanted_none hg _) hq
        · rename_i j want hg
          split at hq
          · rename_i d hj
            have hgs : ∀ (b : Bool), (∀ w ok r v, VR w ok (env d) r v → v = .bool b) → ∀ E, (∀ s, s ∈ looks ops o → Eqv (env s) (E s)) → GuardSem ops E o (b == want) := by
              intro b hb E hE
              unfold GuardSem
              rw [hg]
              exact ⟨d, hj, .inl ⟨b, fun w ok r v hv => hb w ok r v ((hE d (looks_guard hg hj)).2 _ _ _ _ hv), rfl⟩⟩
            have hwt : ∀ (b : Bool), (∀ w ok r v, VR w ok (env d) r v → v = .bool b) → Region.wanted o (yielded ops a.tmps) = (b == want) := by
              intro b hb
              have hv := hb _ _ _ _ (R.env d)
              have hy : yielded ops a.tmps j = some b := by
                have hj' : (ops[j]?).bind (·.dst) = some d := by unfold dstOf at hj; simpa using hj
                unfold yielded
                rw [hj']
                rw [Array.getD_eq_getD_getElem?] at hv
                simp only [Option.bind_some]
                cases hq2 : a.tmps[d]? with
                | none => rw [hq2] at hv; cases hv
                | some u => rw [hq2] at hv; simp only [Option.getD_some] at hv; subst hv; rfl
              exact wanted_some hg hy
            split at hq
            · rename_i e
              have hb : ∀ w ok r v, VR w ok (env d) r v → v = .bool true := by intro w ok r v hv; rw [e] at hv; exact hv
              cases want with
              | true => exact step (hgs true hb) (hwt true hb) hq
              | false => exact skip (hgs true hb) hq
            · rename_i e
              have hb : ∀ w ok r v, VR w ok (env d) r v → v = .bool false := by intro w ok r v hv; rw [e] at hv; exact hv
              cases want with
              | true => exact skip (hgs false hb) hq
              | false => exact step (hgs false hb) (hwt false hb) hq
            · rename_i e
              refine skip (fun E hE => ?_) hq
              unfold GuardSem
              rw [hg]
              refine ⟨d, hj, .inr ⟨fun w ok r v hv => ?_, rfl⟩⟩
              have := (hE d (looks_guard hg hj)).2 _ _ _ _ hv
              rw [e] at this; exact this
            · exact hq.elim
          · exact hq.elim

/-! ### in any order -/
theorem same_heap {E : Env} {Hs : Nat → Heap} {rec : Nat → Rec} (hall : ∀ j, j < ops.size → OpW C ops E Hs rec j) {id : Nat} {b : Nat} : ∀ (d : Nat), b + d ≤ ops.size → (∀ j, b ≤ j → j < b + d → rec j ≠ .st id) → Hs (b + d) id = Hs b id
  | 0, _, _ => rfl
  | d + 1, hb, hn => by
    rw [← same_heap hall d (by omega) (fun j h1 h2 => hn j h1 (by omega))]
    obtain ⟨o, ho, hj⟩ := hall (b + d) (by omega)
    have hne := hn (b + d) (by omega) (by omega)
    show Hs (b + d + 1) id = _
    split at hj
    · rename_i id' hr
      obtain ⟨_, ⟨m, hm⟩, _⟩ := hj
      rw [hm, upd_other]
      rintro rfl
      exact hne hr
    · rw [hj.2.1]

theorem anyW_ok (S : Stat ops ops.size) {k : List Item} {E : Env} {Hs : Nat → Heap} {rec : Nat → Rec} (hall : ∀ j, j < ops.size → OpW C ops E Hs rec j)
    (hpair : ∀ j o, ops[j]? = some o → ∀ j', j' < j → Pair o j' (rec j) (rec j') = true) (next : aexec C 400 k E (Hs ops.size)) :
    ∀ (l : List Nat) (listed : Array Bool) (b : Nat), listed.size = ops.size → b ≤ ops.size → (∀ j id, j < ops.size → rec j = .st id → (listed.getD j true = true ↔ j < b)) →
      (∀ j o, ops[j]? = some o → listed.getD j true = true → ∀ e ∈ o.after, Region.binds .any e = true → listed.getD e.on true = true) →
      Sched ops listed l → Run C (.inRegion ops l :: k) (envX ops ops.size E listed) (Hs b) := by
  intro l
  induction l with
  | nil =>
    intro listed b hsz hb hst hcl hs
    have e : Hs b = Hs ops.size := by
      funext id
      have := same_heap hall (id := id) (b := b) (ops.size - b) (by omega) (fun j h1 h2 hr => by
        have := (hst j id (by omega) hr).mp (hs j (by omega))
        omega)
      rw [show b + (ops.size - b) = ops.size by omega] at this
      exact this.symm
    rw [e]
    refine Run.weaken (env' := E) (fun s => ?_) (fun _ => MOle.refl _) (Run.quiet (fun b a cs w => step_region_end) (aexec_ok 400 next))
    unfold envX
    rw [unl_false (fun j hj _ => hs j hj)]
    exact Le.refl _
  | cons i rest ih =>
    intro listed b hsz hb hst hcl hs
    obtain ⟨hip, hil, hpre, hs'⟩ := hs
    obtain ⟨o, ho, hsem⟩ := hall i hip
    have hdsti : dstOf ops i = o.dst := by unfold dstOf; rw [show ops.toList[i]? = some o by simpa using ho]; rfl
    have hpre2 : ∀ e ∈ o.after, Region.binds .any e = true → listed.getD e.on true = true := fun e he hbi => by
      have := hpre o ho e he hbi
      have h3 := S.edge i o ho e he hbi
      rw [getD_two (b := false) (by omega)]; exact this
    have hlk : ∀ s ∈ looks ops o, envX ops ops.size E listed s = E s := by
      intro s hs2
      unfold envX
      rw [unl_false (fun j hjp hj => ?_)]
      · rfl
      · obtain ⟨e, h1, h2, h3⟩ := S.look i o hip ho s hs2 j hjp hj
        rw [← h3]; exact hpre2 e h1 h2
    have hcl' : ∀ j o, ops[j]? = some o → (listed.setIfInBounds i true).getD j true = true → ∀ e ∈ o.after, Region.binds .any e = true → (listed.setIfInBounds i true).getD e.on true = true := by
      intro j o2 ho2 hj e he hbi
      rw [getD_set] at hj ⊢
      split
      · rfl
      · by_cases hij : i = j
        · subst hij
          rw [ho] at ho2; cases ho2
          exact hpre2 e he hbi
        · rw [if_neg hij] at hj
          exact hcl j o2 ho2 hj e he hbi
    split at hsem
    · -- a store
      rename_i id hr
      obtain ⟨hd, ⟨m, hm⟩, t, x, y, hop, hg, hsto⟩ := hsem
      have hbi : b ≤ i := by
        rcases Nat.lt_or_ge i b with h | h
        · have := (hst i id hip hr).mpr h; rw [hil] at this; cases this
        · exact h
      have hno : ∀ j id', b ≤ j → j < i → rec j ≠ .st id' := by
        intro j id' h1 h2 hr'
        have hp := hpair i o ho j h2
        rw [hr, hr'] at hp
        obtain ⟨e, he, h3, h4⟩ := hasEdge_ok hp
        have := hpre2 e he h3
        rw [h4] at this
        have := (hst j id' (by omega) hr').mp this
        omega
      have hHb : Hs b = Hs i := by
        funext id'
        have := same_heap hall (id := id') (b := b) (i - b) (by omega) (fun j h1 h2 => hno j id' h1 (by omega))
        rw [show b + (i - b) = i by omega] at this
        exact this.symm
      have hrec := ih (listed.setIfInBounds i true) (i + 1) (by simpa using hsz) (by omega) (fun j id' hj hr' => by
        rw [getD_set]
        by_cases hij : i = j
        · subst hij; simp
        · rw [if_neg hij]
          rcases Nat.lt_or_ge j b with h1 | h1
          · have := (hst j id' hj hr').mpr h1
            rw [this]; simp; omega
          · rcases Nat.lt_or_ge j i with h2 | h2
            · exact absurd hr' (hno j id' h1 h2)
            · have : ¬ listed.getD j true = true := fun h3 => by have := (hst j id' hj hr').mp h3; omega
              simp only [this, Bool.false_eq_true, false_iff]; omega) hcl' hs'
      refine Run.of_step fun ι a w fb cs _ R => ?_
      rw [hHb] at R
      have hev : ∀ z, z ∈ o.op.operands → VR w (okB C (Hs i) ι w) (ev E z) (rf (Hs i) ι) (a.eval z) := by
        intro z hz
        have := ev_ok R z
        cases z with
        | tmp s => have e : ev (envX ops ops.size E listed) (.tmp s) = ev E (.tmp s) := hlk s (looks_tmp hz)
                   rw [e] at this; exact this
        | const v => exact this
        | global g => exact this
        | func f => exact this
      obtain ⟨w', ι', hrun, R'⟩ := hsto _ ι a w R (hev x (by rw [hop]; simp [Op.operands])) (hev y (by rw [hop]; simp [Op.operands]))
      have hst := step_op_ok (P := C.P) (b := fb) (k := k) (cs := cs) (rest := rest) (nx := .skip) (v := undef) (a := a) (w := w) (w' := w') ho (wanted_none hg _) (by simp [execOp, hop, hrun]) (.inr ⟨rfl, rfl⟩)
      rw [hd] at hst
      refine ⟨_, _, ι', a, w', _, .one hst, R'.weaken (fun s => ?_) (fun _ => MOle.refl _), hrec⟩
      have : unl ops ops.size (listed.setIfInBounds i true) s = unl ops ops.size listed s := by
        unfold unl
        congr 1
        funext j
        rw [getD_set]
        by_cases hij : i = j
        · subst hij; rw [hdsti, hd]; simp
        · rw [if_neg hij]
      unfold envX
      rw [this]; exact Le.refl _
    · -- a look
      rename_i rd hr
      obtain ⟨hd, _, hsem⟩ := hsem
      have hrec := ih (listed.setIfInBounds i true) b (by simpa using hsz) hb (fun j id' hj hr' => by
        rw [getD_set, if_neg (fun e => by subst e; rw [hr] at hr'; cases hr')]
        exact hst j id' hj hr') hcl' hs'
      have hagree : ∀ id, clear id rd = false → Hs b id = Hs i id := by
        intro id hid
        rcases Nat.lt_or_ge i b with h | h
        · have := same_heap hall (id := id) (b := i) (b - i) (by omega) (fun j h1 h2 hr' => by
            have hji : i < j := by
              rcases Nat.lt_or_ge i j with h3 | h3
              · exact h3
              · have : j = i := by omega
                subst this; rw [hr] at hr'; cases hr'
            have hjl := (hst j id (by omega) hr').mpr (by omega)
            obtain ⟨oj, hoj⟩ : ∃ oj, ops[j]? = some oj := ⟨_, Array.getElem?_eq_getElem (by omega)⟩
            have hp := hpair j oj hoj i hji
            rw [hr, hr'] at hp
            have hp : cond (hasEdge oj i) true (clear id rd) = true := hp
            cases he : hasEdge oj i with
            | true =>
              obtain ⟨e, h4, h5, h6⟩ := hasEdge_ok he
              have := hcl j oj hoj hjl e h4 h5
              rw [h6, hil] at this; cases this
            | false => rw [he, cond_false, hid] at hp; cases hp)
          rw [show i + (b - i) = b by omega] at this
          exact this
        · have := same_heap hall (id := id) (b := b) (i - b) (by omega) (fun j h1 h2 hr' => by
            have hp := hpair i o ho j (by omega)
            rw [hr, hr'] at hp
            have hp : cond (hasEdge o j) true (clear id rd) = true := hp
            cases he : hasEdge o j with
            | true =>
              obtain ⟨e, h4, h5, h6⟩ := hasEdge_ok he
              have := hpre2 e h4 h5
              rw [h6] at this
              have := (hst j id (by omega) hr').mp this
              omega
            | false => rw [he, cond_false, hid] at hp; cases hp)
          rw [show b + (i - b) = i by omega] at this
          exact this.symm
      have hw : ∀ (want' : Bool), GuardSem ops E o want' → ∀ ι a w, Rel C (envX ops ops.size E listed) (Hs b) ι a w → Region.wanted o (yielded ops a.tmps) = want' := by
        intro want' hgs ι a w R
        unfold GuardSem at hgs
        split at hgs
        · rename_i hg; rw [hgs]; exact wanted_none hg _
        · rename_i j want hg
          obtain ⟨d, hj, hbb⟩ := hgs
          have hv := R.env d
          rw [hlk d (looks_guard hg hj)] at hv
          rcases hbb with ⟨b, hb, rfl⟩ | ⟨hb, rfl⟩
          · have hv := hb _ _ _ _ hv
            have hy : yielded ops a.tmps j = some b := by
              have hj' : (ops[j]?).bind (·.dst) = some d := by unfold dstOf at hj; simpa using hj
              unfold yielded
              rw [hj']
              rw [Array.getD_eq_getD_getElem?] at hv
              simp only [Option.bind_some]
              cases hq2 : a.tmps[d]? with
              | none => rw [hq2] at hv; cases hv
              | some u => rw [hq2] at hv; simp only [Option.getD_some] at hv; subst hv; rfl
            exact wanted_some hg hy
          · exact wanted_sk hg (yield_sk hj (hb _ _ _ _ hv))
      have hle : ∀ (x : AV), (∀ d, o.dst = some d → Le x (E d)) → ∀ s, Le (putE (envX ops ops.size E listed) o.dst x s) (envX ops ops.size E (listed.setIfInBounds i true) s) := by
        intro x hx s
        by_cases hsd : o.dst = some s
        · rw [hsd]
          simp only [putE, upd_same]
          unfold envX
          cases unl ops ops.size (listed.setIfInBounds i true) s with
          | true => exact Le.u _
          | false => exact hx s hsd
        · have e1 : putE (envX ops ops.size E listed) o.dst x s = envX ops ops.size E listed s := by
            cases hq : o.dst with
            | none => rfl
            | some d => exact upd_other _ _ (fun e => hsd (by rw [hq, e]))
          rw [e1]
          unfold envX
          cases hu : unl ops ops.size (listed.setIfInBounds i true) s with
          | true => exact Le.u _
          | false =>
            have : unl ops ops.size listed s = false := by
              refine unl_false fun j hjp hj => ?_
              unfold unl at hu
              rw [List.any_eq_false] at hu
              have := hu j (List.mem_range.mpr hjp)
              simp only [hj, beq_self_eq_true, Bool.and_true, Bool.not_eq_true, Bool.not_eq_false'] at this
              rw [getD_set] at this
              by_cases hij : i = j
              · subst hij; exact absurd (hdsti ▸ hj) hsd
              · rwa [if_neg hij] at this
            rw [this]; exact Le.refl _
      rcases hsem with ⟨hgs, x, hq, hx⟩ | ⟨hgs, hx⟩
      · refine Run.of_step fun ι a w fb cs _ R => ?_
        obtain ⟨v, w', ι', hst, R', hv⟩ := hq (Hs b) hagree _ ι a w R (fun y hy => by
          have := ev_ok R y
          cases y with
          | tmp s => have e : ev (envX ops ops.size E listed) (.tmp s) = ev E (.tmp s) := hlk s (looks_tmp hy)
                     rw [e] at this; exact this
          | const v => exact this
          | global g => exact this
          | func f => exact this) fb k cs ops i rest ho (hw true hgs ι a w R)
        exact ⟨_, Hs b, ι', _, w', _, hst, (R'.put hv hd).weaken (hle x hx) (fun _ => MOle.refl _), hrec⟩
      · exact skip_ok ho hd (hw false hgs) (Run.weaken (hle .sk hx) (fun _ => MOle.refl _) hrec)

def drawStatWX (ops : Array Oper) : Bool := drawStatW ops && ops.toList.all fun o => !memOp o
theorem Run.drawW {id : Nat} {k : List Item} {env : Env} {h : Heap} (hm : C.P.follows .mixedOrders = true) (hsx : drawStatWX ops = true) (hq : aqW C ops k ops.toList 0 env h [] []) :
    Run C (.code (.region id ops true) :: k) env h := by
  have S := Stat.ofW (by unfold drawStatWX at hsx; rw [Bool.and_eq_true] at hsx; exact hsx.1)
  refine ⟨fun ι a w b cs hb hkd R => ?_⟩
  obtain ⟨E, Hs, rec, hH, hE, hE1, hall⟩ := aqW_ok S ops.toList 0 (by simp) (by simp) env h ι a w [] [] R hq
  have hf : ∀ j, j < ops.size → (Array.replicate ops.size false).getD j true = false := fun j hj => by simp [hj]
  have hrun := anyW_ok S (fun j hj => (hall j (Nat.zero_le _) hj).1) (fun j o ho j' hj' => ((hall j (Nat.zero_le _) (Array.getElem?_eq_some_iff.1 ho).1).2 o ho).2.2 j' (Nat.zero_le _) hj') hE
    (Region.schedule (C.P.follows .mixedOrders) ops (w.tape w.drawn (.order b.fn id))) (Array.replicate ops.size false) 0 (by simp) (Nat.zero_le _)
    (fun j id hj _ => by rw [hf j hj]; simp) (fun j o ho hj => by rw [hf j (Array.getElem?_eq_some_iff.1 ho).1] at hj; cases hj) (sched_of hm S.edge _)
  have Rd : Rel C env h ι a { w with drawn := w.drawn + 1 } := R.grow ((Below.refl _ _).drew)
  rw [hH] at hrun
  have R' : Rel C (envX ops ops.size E (Array.replicate ops.size false)) h ι a { w with drawn := w.drawn + 1 } := Rd.weaken (fun s => by
    unfold envX
    cases hu : unl ops ops.size (Array.replicate ops.size false) s with
    | true => exact Le.u _
    | false =>
      refine (hE1 s fun j _ hjp hj => ?_).1
      unfold unl at hu
      rw [List.any_eq_false] at hu
      have := hu j (List.mem_range.mpr hjp)
      have hjl := dstOf_lt hj
      simp [hj, hjl] at this) (fun _ => MOle.refl _)
  obtain ⟨e, w2, fr, h1, h2, h3⟩ := hrun.run ι a _ b cs hb hkd R'
  exact ⟨e, w2, fr, h1, Comes.of_steps (.one step_region_draw) h2, h3⟩
end

end Go.Proofs.YtfodjmemdkibpaaDoor.V
