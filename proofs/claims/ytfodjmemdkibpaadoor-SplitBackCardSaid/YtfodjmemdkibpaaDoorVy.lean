/-
Statements whose order Go leaves open, where the first of those that come last does not wait for one of the free ones: both orders are gone through.
-/
import Derived.Test.YtfodjmemdkibpaaDoorVp
namespace Go.Proofs.YtfodjmemdkibpaaDoor.V
open Go Go.RowKit
set_option linter.unusedSimpArgs false
set_option linter.unusedVariables false

structure Both (p q : Prop) : Prop where
  one : p
  two : q

/-- Does i wait for j, itself or by way of others? -/
def reachB (ops : Array Oper) : Nat → Nat → Nat → Bool
  | 0, _, _ => false
  | f + 1, i, j => match ops.toList[i]? with
    | some o => (o.after.toList.any fun e => Region.binds .any e && Nat.beq e.on j) || o.after.toList.any fun e => Region.binds .any e && reachB ops f e.on j
    | none => false
def Closed (ops : Array Oper) (listed : Array Bool) : Prop := ∀ (i : Nat) o, ops[i]? = some o → listed.getD i false = true → ∀ e ∈ o.after, Region.binds .any e = true → listed.getD e.on false = true
theorem getD_mono {listed : Array Bool} {i j : Nat} (h : listed.getD j false = true) : (listed.setIfInBounds i true).getD j false = true := by
  rw [Array.getD_eq_getD_getElem?] at h ⊢
  rw [Array.getElem?_setIfInBounds]
  split
  · split
    · rfl
    · subst_vars
      rename_i h2
      rw [Array.getElem?_eq_none (by omega)] at h; cases h
  · exact h
theorem Closed.set {ops : Array Oper} {listed : Array Bool} {i : Nat} (hc : Closed ops listed) (hpre : ∀ o, ops[i]? = some o → ∀ e ∈ o.after, Region.binds .any e = true → listed.getD e.on false = true) : Closed ops (listed.setIfInBounds i true) := by
  intro i2 o ho hl e he hb
  by_cases h : i = i2
  · subst h; exact getD_mono (hpre o ho e he hb)
  · refine getD_mono (hc i2 o ho ?_ e he hb)
    rw [Array.getD_eq_getD_getElem?, Array.getElem?_setIfInBounds, if_neg h] at hl
    rw [Array.getD_eq_getD_getElem?]; exact hl
theorem reach_listed {ops : Array Oper} {listed : Array Bool} (hc : Closed ops listed) {j : Nat} : ∀ (f i : Nat), (∀ o, ops[i]? = some o → ∀ e ∈ o.after, Region.binds .any e = true → listed.getD e.on false = true) → reachB ops f i j = true → listed.getD j false = true := by
  intro f
  induction f with
  | zero => intro i _ h; cases h
  | succ f ih =>
    intro i hpre h
    unfold reachB at h
    cases ho : ops.toList[i]? with
    | none => rw [ho] at h; cases h
    | some o =>
      have ho' : ops[i]? = some o := by simpa using ho
      rw [ho] at h
      simp only [Bool.or_eq_true] at h
      rcases h with h | h
      · obtain ⟨e, he, h3⟩ := List.any_eq_true.mp h
        rw [Bool.and_eq_true] at h3
        rw [← Nat.eq_of_beq_eq_true h3.2]
        exact hpre o ho' e (by simpa using he) h3.1
      · obtain ⟨e, he, h3⟩ := List.any_eq_true.mp h
        rw [Bool.and_eq_true] at h3
        have hl := hpre o ho' e (by simpa using he) h3.1
        exact ih e.on (fun o2 ho2 => hc e.on o2 ho2 hl) h3.2

structure Stat2 (ops : Array Oper) (p m : Nat) : Prop where
  le : p < ops.size
  mp : m ≤ p
  edge : ∀ (i : Nat) o, ops[i]? = some o → ∀ e ∈ o.after, Region.binds .any e = true → e.on < i
  look : ∀ (i : Nat) o, i < p → ops[i]? = some o → ∀ s ∈ looks ops o, ∀ j, j < p → dstOf ops j = some s → ∃ e ∈ o.after, Region.binds .any e = true ∧ e.on = j
  one : ∀ i j d, i < p → j < p → dstOf ops i = some d → dstOf ops j = some d → i = j
  tail : ∀ (i : Nat), p ≤ i → i < ops.size → ∀ j, j < i → ¬ (i = p ∧ j = m) → reachB ops 40 i j = true

def drawStat2 (ops : Array Oper) (p m : Nat) : Bool := Nat.blt p ops.size && Nat.ble m p && (List.range ops.size).all fun i => match ops.toList[i]? with
  | none => false
  | some o => (o.after.toList.all fun e => !Region.binds .any e || Nat.blt e.on i) &&
    cond (Nat.blt i p) (!storeOp o && ((looks ops o).all fun s => (List.range p).all fun j => match dstOf ops j with
      | some d => !(Nat.beq d s) || (o.after.toList.any fun e => Region.binds .any e && Nat.beq e.on j)
      | none => true) &&
    ((List.range p).all fun j => Nat.beq j i || match dstOf ops j, o.dst with
      | some d, some d' => !(Nat.beq d d')
      | _, _ => true)) ((List.range i).all fun j => (Nat.beq i p && Nat.beq j m) || reachB ops 40 i j)

theorem Stat2.of {ops : Array Oper} {p m : Nat} (hs : drawStat2 ops p m = true) : Stat2 ops p m := by
  unfold drawStat2 at hs
  rw [Bool.and_eq_true, Bool.and_eq_true] at hs
  obtain ⟨⟨hle, hmp⟩, hs⟩ := hs
  have key : ∀ (i : Nat) o, ops[i]? = some o → (o.after.toList.all fun e => !Region.binds .any e || Nat.blt e.on i) = true ∧
    cond (Nat.blt i p) (!storeOp o && ((looks ops o).all fun s => (List.range p).all fun j => match dstOf ops j with
      | some d => !(Nat.beq d s) || (o.after.toList.any fun e => Region.binds .any e && Nat.beq e.on j)
      | none => true) &&
    ((List.range p).all fun j => Nat.beq j i || match dstOf ops j, o.dst with
      | some d, some d' => !(Nat.beq d d')
      | _, _ => true)) ((List.range i).all fun j => (Nat.beq i p && Nat.beq j m) || reachB ops 40 i j) = true := by
    intro i o ho
    have hi : i < ops.size := (Array.getElem?_eq_some_iff.1 ho).1
    have := List.all_eq_true.mp hs i (List.mem_range.mpr hi)
    have ho' : ops.toList[i]? = some o := by simpa using ho
    rw [ho'] at this
    simpa only [Bool.and_eq_true] using this
  have hlt : ∀ i, i < p → Nat.blt i p = true := fun i hi => by rw [Nat.blt_eq]; exact hi
  refine ⟨by simpa [Nat.blt_eq] using hle, Nat.ble_eq ▸ hmp, ?_, ?_, ?_, ?_⟩
  · intro i o ho e he hb
    have := List.all_eq_true.mp (key i o ho).1 e (by simpa using he)
    rw [hb] at this
    simpa [Nat.blt_eq] using this
  · intro i o hip ho s hs' j hjp hj
    have h0 := (key i o ho).2
    rw [hlt i hip, cond_true, Bool.and_eq_true, Bool.and_eq_true] at h0
    have h1 := List.all_eq_true.mp h0.1.2 s hs'
    have h2 := List.all_eq_true.mp h1 j (List.mem_range.mpr hjp)
    rw [hj] at h2
    simp only [Nat.beq_refl, Bool.not_true, Bool.false_or] at h2
    obtain ⟨e, he, h3⟩ := List.any_eq_true.mp h2
    rw [Bool.and_eq_true] at h3
    exact ⟨e, by simpa using he, h3.1, Nat.eq_of_beq_eq_true h3.2⟩
  · intro i j d hip hjp hi hj
    have hi' := hi
    unfold dstOf at hi'
    cases ho : ops.toList[i]? with
    | none => rw [ho] at hi'; cases hi'
    | some o =>
      rw [ho] at hi'
      have hd : o.dst = some d := hi'
      have h0 := (key i o (by simpa using ho)).2
      rw [hlt i hip, cond_true, Bool.and_eq_true] at h0
      have h1 := List.all_eq_true.mp h0.2 j (List.mem_range.mpr hjp)
      rw [hj, hd] at h1
      simp only [Nat.beq_refl, Bool.not_true, Bool.or_false] at h1
      exact (Nat.eq_of_beq_eq_true h1).symm
  · intro i hip hi j hj hne
    obtain ⟨o, ho⟩ : ∃ o, ops[i]? = some o := ⟨_, Array.getElem?_eq_getElem hi⟩
    have h0 := (key i o ho).2
    have : Nat.blt i p = false := by rw [Bool.eq_false_iff]; intro e; rw [Nat.blt_eq] at e; omega
    rw [this, cond_false] at h0
    have h1 := List.all_eq_true.mp h0 j (List.mem_range.mpr hj)
    rw [Bool.or_eq_true] at h1
    rcases h1 with h1 | h1
    · rw [Bool.and_eq_true] at h1
      exact absurd ⟨Nat.eq_of_beq_eq_true h1.1, Nat.eq_of_beq_eq_true h1.2⟩ hne
    · exact h1

section
variable {C : Ctx} {h : Heap} {ops : Array Oper}

theorem sched_tail2 {p m0 : Nat} (S : Stat2 ops p m0) : ∀ (m q : Nat) (listed : Array Bool) (l : List Nat), m = ops.size - q → p ≤ q → q ≤ ops.size → listed.size = ops.size → (∀ j, j < q → listed.getD j true = true) → (∀ j, q ≤ j → j < ops.size → listed.getD j true = false) →
    Closed ops listed → Sched ops listed l → l = List.range' q (ops.size - q) := by
  intro m
  induction m with
  | zero =>
    intro q listed l hm hpq hqs hsz h1 h2 hcl hs
    have hq : q = ops.size := by omega
    subst hq
    rw [Nat.sub_self]
    cases l with
    | nil => rfl
    | cons i rest => obtain ⟨hi, hil, _⟩ := hs; rw [h1 i hi] at hil; cases hil
  | succ m ih =>
    intro q listed l hm hpq hqs hsz h1 h2 hcl hs
    have hq : q < ops.size := by omega
    cases l with
    | nil => have := hs q hq; rw [h2 q (Nat.le_refl _) hq] at this; cases this
    | cons i rest =>
      obtain ⟨hi, hil, hpre, hs'⟩ := hs
      have hqi : q ≤ i := by
        rcases Nat.lt_or_ge i q with h' | h'
        · rw [h1 i h'] at hil; cases hil
        · exact h'
      have hiq : i = q := by
        rcases Nat.lt_or_ge q i with h' | h'
        · exfalso
          have hmp := S.mp
          have := reach_listed hcl 40 i hpre (S.tail i (by omega) hi q h' (by omega))
          rw [getD_two (b := true) (by omega), h2 q (Nat.le_refl _) hq] at this; cases this
        · omega
      subst hiq
      have e1 : ops.size - i = (ops.size - (i + 1)) + 1 := by omega
      rw [e1, List.range'_succ]
      congr 1
      refine ih (i + 1) (listed.setIfInBounds i true) rest (by omega) (by omega) (by omega) (by simpa using hsz) (fun j hj => ?_) (fun j hj1 hj2 => ?_) (hcl.set hpre) hs'
      · rw [getD_set]
        split
        · rfl
        · exact h1 j (by omega)
      · rw [getD_set, if_neg (by omega)]
        exact h2 j (by omega) hj2

theorem any_ok2 {p m d : Nat} (S : Stat2 ops p m) (hmp : m < p) (hdm : dstOf ops m = some d) {k : List Item} {E : Env} (hall : ∀ j, j < p → OpSem C h ops E j) (next : Run C (.inRegion ops (List.range' p (ops.size - p)) :: k) E h)
    (next2 : Run C (.inRegion ops (p :: m :: List.range' (p + 1) (ops.size - (p + 1))) :: k) (upd E d .u) h) :
    ∀ (l : List Nat) (listed : Array Bool), listed.size = ops.size → (∀ j, p ≤ j → j < ops.size → listed.getD j true = false) → Closed ops listed → Sched ops listed l → Run C (.inRegion ops l :: k) (envX ops p E listed) h := by
  have hple := S.le
  have fin : ∀ (l : List Nat) (listed : Array Bool), listed.size = ops.size → (∀ j, p ≤ j → j < ops.size → listed.getD j true = false) → (∀ j, j < p → listed.getD j true = true) → Closed ops listed → Sched ops listed l → Run C (.inRegion ops l :: k) (envX ops p E listed) h := by
    intro l listed hsz h2 h1 hcl hs
    rw [sched_tail2 S _ p listed l rfl (Nat.le_refl _) (by omega) hsz h1 h2 hcl hs]
    refine Run.weaken (fun s => ?_) (fun _ => MOle.refl _) next
    unfold envX
    rw [unl_false (fun j hj _ => h1 j hj)]
    exact Le.refl _
  intro l
  induction l with
  | nil =>
    intro listed hsz h2 hcl hs
    refine fin [] listed hsz h2 (fun j hj => hs j (by omega)) hcl hs
  | cons i rest ih =>
    intro listed hsz h2 hcl hs
    by_cases hip : p ≤ i
    · have hs0 := hs
      obtain ⟨hi, hil, hpre, hs'⟩ := hs
      have hwait : ∀ j, j < i → ¬ (i = p ∧ j = m) → listed.getD j true = true := fun j hj hne => by
        have := reach_listed hcl 40 i hpre (S.tail i hip hi j hj hne)
        rw [getD_two (b := false) (by omega)]; exact this
      have hpi : i = p := by
        rcases Nat.lt_or_ge p i with h' | h'
        · have := hwait p h' (by omega)
          rw [h2 p (Nat.le_refl _) hple] at this; cases this
        · omega
      subst hpi
      cases hml : listed.getD m true with
      | true =>
        refine fin (i :: rest) listed hsz h2 (fun j hj => ?_) hcl hs0
        by_cases e : j = m
        · subst e; exact hml
        · exact hwait j hj (by omega)
      | false =>
        -- the late one comes next
        have hrest : rest = m :: List.range' (i + 1) (ops.size - (i + 1)) := by
          cases rest with
          | nil =>
            have := hs' m (by omega)
            rw [getD_set, if_neg (by omega), hml] at this; cases this
          | cons i2 rest2 =>
            obtain ⟨hi2, hil2, hpre2, hs2⟩ := hs'
            have hi2m : i2 = m := by
              by_cases e : i2 = m
              · exact e
              · exfalso
                rw [getD_set] at hil2
                by_cases e2 : i = i2
                · rw [if_pos e2] at hil2; cases hil2
                · rw [if_neg e2] at hil2
                  have h3 : i < i2 := by
                    rcases Nat.lt_or_ge i2 i with h' | h'
                    · have := hwait i2 h' (by omega)
                      rw [hil2] at this; cases this
                    · omega
                  have := reach_listed (hcl.set hpre) 40 i2 hpre2 (S.tail i2 (by omega) hi2 m (by omega) (by omega))
                  rw [getD_two (b := true) (by simpa [hsz] using (by omega : m < ops.size)), getD_set, if_neg (by omega), hml] at this; cases this
            subst hi2m
            congr 1
            refine sched_tail2 S _ (i + 1) _ rest2 rfl (by omega) (by omega) (by simpa using hsz) (fun j hj => ?_) (fun j hj1 hj2 => ?_) ((hcl.set hpre).set hpre2) hs2
            · rw [getD_set]
              split
              · rfl
              · rw [getD_set]
                split
                · rfl
                · exact hwait j (by omega) (by omega)
            · rw [getD_set, if_neg (by omega), getD_set, if_neg (by omega)]
              exact h2 j (by omega) hj2
        rw [hrest]
        refine Run.weaken (fun s => ?_) (fun _ => MOle.refl _) next2
        unfold envX
        by_cases hsd : s = d
        · subst hsd
          rw [upd_same]
          exact Le.u _
        · rw [upd_other _ _ hsd, unl_false (fun j hj hjd => ?_)]
          · exact Le.refl _
          · by_cases e : j = m
            · subst e; rw [hdm] at hjd; injection hjd with e2; exact absurd e2.symm hsd
            · exact hwait j hj (by omega)
    have hip : i < p := by omega
    obtain ⟨hi, hil, hpre, hs'⟩ := hs
    obtain ⟨o, ho, hd, hsem⟩ := hall i hip
    have hdsti : dstOf ops i = o.dst := by unfold dstOf; rw [show ops.toList[i]? = some o by simpa using ho]; rfl
    have hlk : ∀ s ∈ looks ops o, envX ops p E listed s = E s := by
      intro s hs2
      unfold envX
      rw [unl_false (fun j hjp hj => ?_)]
      · rfl
      · obtain ⟨e, h1, h2, h3⟩ := S.look i o hip ho s hs2 j hjp hj
        have := hpre o ho e h1 h2
        rw [h3] at this
        have hjl : j < listed.size := by rw [hsz]; exact dstOf_lt hj
        rw [getD_two (b := false) hjl]; exact this
    have hrec := ih (listed.setIfInBounds i true) (by simpa using hsz) (fun j h1 h3 => by rw [getD_set, if_neg (by omega)]; exact h2 j h1 h3) (hcl.set hpre) hs'
    have hw : ∀ (want' : Bool), GuardSem ops E o want' → ∀ ι a w, Rel C (envX ops p E listed) h ι a w → Region.wanted o (yielded ops a.tmps) = want' := by
      intro want' hgs ι a w R
      unfold GuardSem at hgs
      split at hgs
      · rename_i hg; rw [hgs]; exact wanted_none hg _
      · rename_i j want hg
        obtain ⟨d, hj, hbb⟩ := hgs
        have hv := R.env d
        rw [hlk d (looks_guard hg hj)] at hv
        rcases hbb with ⟨b, hb, rfl⟩ | ⟨hb, rfl⟩
        · have hv := hb _ _ _ _ hv
          have hy : yielded ops a.tmps j = some b := by
            have hj' : (ops[j]?).bind (·.dst) = some d := by unfold dstOf at hj; simpa using hj
            unfold yielded
            rw [hj']
            rw [Array.getD_eq_getD_getElem?] at hv
            simp only [Option.bind_some]
            cases hq2 : a.tmps[d]? with
            | none => rw [hq2] at hv; cases hv
            | some u => rw [hq2] at hv; simp only [Option.getD_some] at hv; subst hv; rfl
          exact wanted_some hg hy
        · exact wanted_sk hg (yield_sk hj (hb _ _ _ _ hv))
    have hle : ∀ (x : AV), (∀ d, o.dst = some d → Le x (E d)) → ∀ s, Le (putE (envX ops p E listed) o.dst x s) (envX ops p E (listed.setIfInBounds i true) s) := by
      intro x hx s
      by_cases hsd : o.dst = some s
      · rw [hsd]
        simp only [putE, upd_same]
        unfold envX
        cases unl ops p (listed.setIfInBounds i true) s with
        | true => exact Le.u _
        | false => exact hx s hsd
      · have e1 : putE (envX ops p E listed) o.dst x s = envX ops p E listed s := by
          cases hq : o.dst with
          | none => rfl
          | some d => exact upd_other _ _ (fun e => hsd (by rw [hq, e]))
        rw [e1]
        unfold envX
        cases hu : unl ops p (listed.setIfInBounds i true) s with
        | true => exact Le.u _
        | false =>
          have : unl ops p listed s = false := by
            refine unl_false fun j hjp hj => ?_
            unfold unl at hu
            rw [List.any_eq_false] at hu
            have := hu j (List.mem_range.mpr hjp)
            simp only [hj, beq_self_eq_true, Bool.and_true, Bool.not_eq_true, Bool.not_eq_false'] at this
            rw [getD_set] at this
            by_cases hij : i = j
            · subst hij; exact absurd (hdsti ▸ hj) hsd
            · rwa [if_neg hij] at this
          rw [this]; exact Le.refl _
    rcases hsem with ⟨hgs, x, hq, hx⟩ | ⟨hgs, hx⟩
    · refine Run.of_step fun ι a w b cs _ R => ?_
      obtain ⟨v, w', ι', hst, R', hv⟩ := hq _ ι a w R (fun y hy => by
        have := ev_ok R y
        cases y with
        | tmp s => have e : ev (envX ops p E listed) (.tmp s) = ev E (.tmp s) := hlk s (looks_tmp hy)
                   rw [e] at this; exact this
        | const v => exact this
        | global g => exact this
        | func f => exact this) b k cs ops i rest ho (hw true hgs ι a w R)
      exact ⟨_, h, ι', _, w', _, hst, (R'.put hv hd).weaken (hle x hx) (fun _ => MOle.refl _), hrec⟩
    · exact skip_ok ho hd (hw false hgs) (Run.weaken (hle .sk hx) (fun _ => MOle.refl _) hrec)

theorem any_ok3 {p : Nat} (S : Stat2 ops p p) {k : List Item} {E : Env} (hall : ∀ j, j < p → OpSem C h ops E j) (next : Run C (.inRegion ops (List.range' p (ops.size - p)) :: k) E h) :
    ∀ (l : List Nat) (listed : Array Bool), listed.size = ops.size → (∀ j, p ≤ j → j < ops.size → listed.getD j true = false) → Closed ops listed → Sched ops listed l → Run C (.inRegion ops l :: k) (envX ops p E listed) h := by
  have hple := S.le
  have fin : ∀ (l : List Nat) (listed : Array Bool), listed.size = ops.size → (∀ j, p ≤ j → j < ops.size → listed.getD j true = false) → (∀ j, j < p → listed.getD j true = true) → Closed ops listed → Sched ops listed l → Run C (.inRegion ops l :: k) (envX ops p E listed) h := by
    intro l listed hsz h2 h1 hcl hs
    rw [sched_tail2 S _ p listed l rfl (Nat.le_refl _) (by omega) hsz h1 h2 hcl hs]
    refine Run.weaken (fun s => ?_) (fun _ => MOle.refl _) next
    unfold envX
    rw [unl_false (fun j hj _ => h1 j hj)]
    exact Le.refl _
  intro l
  induction l with
  | nil =>
    intro listed hsz h2 hcl hs
    refine fin [] listed hsz h2 (fun j hj => hs j (by omega)) hcl hs
  | cons i rest ih =>
    intro listed hsz h2 hcl hs
    by_cases hip : p ≤ i
    · have hs0 := hs
      obtain ⟨hi, hil, hpre, hs'⟩ := hs
      have hwait : ∀ j, j < i → listed.getD j true = true := fun j hj => by
        have := reach_listed hcl 40 i hpre (S.tail i hip hi j hj (by omega))
        rw [getD_two (b := false) (by omega)]; exact this
      exact fin (i :: rest) listed hsz h2 (fun j hj => hwait j (by omega)) hcl hs0
    have hip : i < p := by omega
    obtain ⟨hi, hil, hpre, hs'⟩ := hs
    obtain ⟨o, ho, hd, hsem⟩ := hall i hip
    have hdsti : dstOf ops i = o.dst := by unfold dstOf; rw [show ops.toList[i]? = some o by simpa using ho]; rfl
    have hlk : ∀ s ∈ looks ops o, envX ops p E listed s = E s := by
      intro s hs2
      unfold envX
      rw [unl_false (fun j hjp hj => ?_)]
      · rfl
      · obtain ⟨e, h1, h2, h3⟩ := S.look i o hip ho s hs2 j hjp hj
        have := hpre o ho e h1 h2
        rw [h3] at this
        have hjl : j < listed.size := by rw [hsz]; exact dstOf_lt hj
        rw [getD_two (b := false) hjl]; exact this
    have hrec := ih (listed.setIfInBounds i true) (by simpa using hsz) (fun j h1 h3 => by rw [getD_set, if_neg (by omega)]; exact h2 j h1 h3) (hcl.set hpre) hs'
    have hw : ∀ (want' : Bool), GuardSem ops E o want' → ∀ ι a w, Rel C (envX ops p E listed) h ι a w → Region.wanted o (yielded ops a.tmps) = want' := by
      intro want' hgs ι a w R
      unfold GuardSem at hgs
      split at hgs
      · rename_i hg; rw [hgs]; exact wanted_none hg _
      · rename_i j want hg
        obtain ⟨d, hj, hbb⟩ := hgs
        have hv := R.env d
        rw [hlk d (looks_guard hg hj)] at hv
        rcases hbb with ⟨b, hb, rfl⟩ | ⟨hb, rfl⟩
        · have hv := hb _ _ _ _ hv
          have hy : yielded ops a.tmps j = some b := by
            have hj' : (ops[j]?).bind (·.dst) = some d := by unfold dstOf at hj; simpa using hj
            unfold yielded
            rw [hj']
            rw [Array.getD_eq_getD_getElem?] at hv
            simp only [Option.bind_some]
            cases hq2 : a.tmps[d]? with
            | none => rw [hq2] at hv; cases hv
            | some u => rw [hq2] at hv; simp only [Option.getD_some] at hv; subst hv; rfl
          exact wanted_some hg hy
        · exact wanted_sk hg (yield_sk hj (hb _ _ _ _ hv))
    have hle : ∀ (x : AV), (∀ d, o.dst = some d → Le x (E d)) → ∀ s, Le (putE (envX ops p E listed) o.dst x s) (envX ops p E (listed.setIfInBounds i true) s) := by
      intro x hx s
      by_cases hsd : o.dst = some s
      · rw [hsd]
        simp only [putE, upd_same]
        unfold envX
        cases unl ops p (listed.setIfInBounds i true) s with
        | true => exact Le.u _
        | false => exact hx s hsd
      · have e1 : putE (envX ops p E listed) o.dst x s = envX ops p E listed s := by
          cases hq : o.dst with
          | none => rfl
          | some d => exact upd_other _ _ (fun e => hsd (by rw [hq, e]))
        rw [e1]
        unfold envX
        cases hu : unl ops p (listed.setIfInBounds i true) s with
        | true => exact Le.u _
        | false =>
          have : unl ops p listed s = false := by
            refine unl_false fun j hjp hj => ?_
            unfold unl at hu
            rw [List.any_eq_false] at hu
            have := hu j (List.mem_range.mpr hjp)
            simp only [hj, beq_self_eq_true, Bool.and_true, Bool.not_eq_true, Bool.not_eq_false'] at this
            rw [getD_set] at this
            by_cases hij : i = j
            · subst hij; exact absurd (hdsti ▸ hj) hsd
            · rwa [if_neg hij] at this
          rw [this]; exact Le.refl _
    rcases hsem with ⟨hgs, x, hq, hx⟩ | ⟨hgs, hx⟩
    · refine Run.of_step fun ι a w b cs _ R => ?_
      obtain ⟨v, w', ι', hst, R', hv⟩ := hq _ ι a w R (fun y hy => by
        have := ev_ok R y
        cases y with
        | tmp s => have e : ev (envX ops p E listed) (.tmp s) = ev E (.tmp s) := hlk s (looks_tmp hy)
                   rw [e] at this; exact this
        | const v => exact this
        | global g => exact this
        | func f => exact this) b k cs ops i rest ho (hw true hgs ι a w R)
      exact ⟨_, h, ι', _, w', _, hst, (R'.put hv hd).weaken (hle x hx) (fun _ => MOle.refl _), hrec⟩
    · exact skip_ok ho hd (hw false hgs) (Run.weaken (hle .sk hx) (fun _ => MOle.refl _) hrec)


/-- Where the first statement stands that makes memory or stores. -/
def pfxM : List Oper → Nat → Nat
  | [], i => i
  | o :: rest, i => cond (storeOp o) i (pfxM rest (i + 1))

theorem Run.drawT {id : Nat} {k : List Item} {env : Env} (hm : C.P.follows .mixedOrders = true) (hs : drawStat2 ops (pfxM ops.toList 0) (pfxM ops.toList 0) = true)
    (hq : (fun p => aq C h ops (ops.toList.take p) env (fun E => aexec C 400 (.inRegion ops (List.range' p (ops.size - p)) :: k) E h)) (pfxM ops.toList 0)) :
    Run C (.code (.region id ops true) :: k) env h := by
  generalize pfxM ops.toList 0 = p at hs hq
  have S := Stat2.of hs
  refine ⟨fun ι a w b cs hb hkd R => ?_⟩
  obtain ⟨E, hE, hE1, hE2⟩ := aq_ok (⟨by have := S.le; omega, S.edge, S.look, S.one⟩ : Stat0 ops p) (ops.toList.take p) 0 (by simp) env ι a w _ R hq
  have hf : ∀ j, j < ops.size → (Array.replicate ops.size false).getD j true = false := fun j hj => by simp [hj]
  have hrun := any_ok3 S (fun j hj => hE2 j (Nat.zero_le _) hj) (aexec_ok 400 hE) (Region.schedule (C.P.follows .mixedOrders) ops (w.tape w.drawn (.order b.fn id))) (Array.replicate ops.size false) (by simp)
    (fun j _ hj => hf j hj) (fun i o ho hl => by rw [Array.getD_eq_getD_getElem?, Array.getElem?_replicate] at hl; split at hl <;> cases hl) (sched_of hm S.edge _)
  have Rd : Rel C env h ι a { w with drawn := w.drawn + 1 } := R.grow ((Below.refl _ _).drew)
  have R' : Rel C (envX ops p E (Array.replicate ops.size false)) h ι a { w with drawn := w.drawn + 1 } := Rd.weaken (fun s => by
    unfold envX
    cases hu : unl ops p (Array.replicate ops.size false) s with
    | true => exact Le.u _
    | false =>
      refine (hE1 s fun j _ hjp hj => ?_).1
      unfold unl at hu
      rw [List.any_eq_false] at hu
      have := hu j (List.mem_range.mpr hjp)
      have hjl := dstOf_lt hj
      simp [hj, hjl] at this) (fun _ => MOle.refl _)
  obtain ⟨e, w2, fr, h1, h2, h3⟩ := hrun.run ι a _ b cs hb hkd R'
  exact ⟨e, w2, fr, h1, Comes.of_steps (.one step_region_draw) h2, h3⟩

theorem Run.drawL {id : Nat} {k : List Item} {env : Env} (p m d : Nat) {op om : Oper} (hm : C.P.follows .mixedOrders = true) (hmp : m < p) (hs : drawStat2 ops p m = true) (hdm : dstOf ops m = some d) (hop : ops[p]? = some op) (hom : ops[m]? = some om)
    (hgp : op.guard = none) (hgm : om.guard = none) (hdp : okD C.N op.dst = true) (hdm2 : okD C.N om.dst = true)
    (hq : aq C h ops (ops.toList.take p) env (fun E => Both (aexec C 400 (.inRegion ops (List.range' p (ops.size - p)) :: k) E h)
      (aop C op (upd E d .u) h (fun env' h' x => fv x fun x => aop C om (putE env' op.dst x) h' (fun env' h' x => fv x fun x => aexec C 400 (.inRegion ops (List.range' (p + 1) (ops.size - (p + 1))) :: k) (putE env' om.dst x) h') (Run C (.inRegion ops (m :: List.range' (p + 1) (ops.size - (p + 1))) :: k) (putE env' op.dst x) h')) (Run C (.inRegion ops (p :: m :: List.range' (p + 1) (ops.size - (p + 1))) :: k) (upd E d .u) h)))) :
    Run C (.code (.region id ops true) :: k) env h := by
  have S := Stat2.of hs
  refine ⟨fun ι a w b cs hb hkd R => ?_⟩
  obtain ⟨E, hE, hE1, hE2⟩ := aq_ok (⟨by have := S.le; omega, S.edge, S.look, S.one⟩ : Stat0 ops p) (ops.toList.take p) 0 (by simp) env ι a w _ R hq
  have hf : ∀ j, j < ops.size → (Array.replicate ops.size false).getD j true = false := fun j hj => by simp [hj]
  have next2 : Run C (.inRegion ops (p :: m :: List.range' (p + 1) (ops.size - (p + 1))) :: k) (upd E d .u) h := by
    refine op_ok hop hdp (fun env' h' x hk => ?_) (fun _ _ _ _ => wanted_none hgp _) hE.two
    rw [fv_eq] at hk
    refine op_ok hom hdm2 (fun env' h' x hk => ?_) (fun _ _ _ _ => wanted_none hgm _) hk
    rw [fv_eq] at hk
    exact aexec_ok 400 hk
  have hrun := any_ok2 S hmp hdm (fun j hj => hE2 j (Nat.zero_le _) hj) (aexec_ok 400 hE.one) next2 (Region.schedule (C.P.follows .mixedOrders) ops (w.tape w.drawn (.order b.fn id))) (Array.replicate ops.size false) (by simp)
    (fun j _ hj => hf j hj) (fun i o ho hl => by rw [Array.getD_eq_getD_getElem?, Array.getElem?_replicate] at hl; split at hl <;> cases hl) (sched_of hm S.edge _)
  have Rd : Rel C env h ι a { w with drawn := w.drawn + 1 } := R.grow ((Below.refl _ _).drew)
  have R' : Rel C (envX ops p E (Array.replicate ops.size false)) h ι a { w with drawn := w.drawn + 1 } := Rd.weaken (fun s => by
    unfold envX
    cases hu : unl ops p (Array.replicate ops.size false) s with
    | true => exact Le.u _
    | false =>
      refine (hE1 s fun j _ hjp hj => ?_).1
      unfold unl at hu
      rw [List.any_eq_false] at hu
      have := hu j (List.mem_range.mpr hjp)
      have hjl := dstOf_lt hj
      simp [hj, hjl] at this) (fun _ => MOle.refl _)
  obtain ⟨e, w2, fr, h1, h2, h3⟩ := hrun.run ι a _ b cs hb hkd R'
  exact ⟨e, w2, fr, h1, Comes.of_steps (.one step_region_draw) h2, h3⟩
end
end Go.Proofs.YtfodjmemdkibpaaDoor.V
