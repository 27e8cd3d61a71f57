/-
How the abstract memory follows the model's world when a call makes an object, writes into one, or appends.
-/
import Derived.Test.YtfodjmemdkibpaaDoorVb
namespace Go.Proofs.YtfodjmemdkibpaaDoor.V
open Go Go.RowKit
set_option linter.unusedSimpArgs false
set_option linter.unusedVariables false

def scrub (d : Nat) : AV → AV
  | .row id => cond (Nat.beq id d) .u (.row id)
  | .radr id sz i j => cond (Nat.beq id d) .u (.radr id sz i j)
  | .box id off => cond (Nat.beq id d) .u (.box id off)
  | .obj id => cond (Nat.beq id d) .u (.obj id)
  | .mrow id i => cond (Nat.beq id d) .u (.mrow id i)
  | .madr id i sz a b => cond (Nat.beq id d) .u (.madr id i sz a b)
  | .agg n get => .agg n (fun j => scrub d (get j))
  | .tup n get => .tup n (fun j => scrub d (get j))
  | x => x
def scrM (σ : AV → AV) : MO → MO
  | .box t l => .box t (l.map σ)
  | .frame vs E => .frame vs (fun i => σ (E i))
  | m => m
def scrubM (d : Nat) : MO → MO := scrM (scrub d)
def scrubE (d : Nat) (env : Env) : Env := fun i => scrub d (env i)
def scrubH (d : Nat) (h : Heap) : Heap := fun id => scrubM d (h id)

theorem beq_ne {i d : Nat} (h : i ≠ d) : Nat.beq i d = false := by
  rw [Bool.eq_false_iff]; intro e; exact h (Nat.eq_of_beq_eq_true e)

theorem owns_scrM {σ : AV → AV} {m : MO} {v : Nat → Value} {g : Nat} : owns (scrM σ m) v g ↔ owns m v g := by
  cases m <;> exact Iff.rfl

/-- What the ids but 'd' mean has not changed. -/
structure Same (d : Nat) (h h' : Heap) (ι ι' : Loc) : Prop where
  val : ∀ id, id ≠ d → ι' id = ι id
  mem : ∀ id, id ≠ d → h' id = .dead ∨ h' id = scrubM d (h id)

theorem Same.radr {d : Nat} {h h' : Heap} {ι ι' : Loc} (S : Same d h h' ι ι') {id sz i : Nat} (e : id ≠ d) (h3 : match h id with | .row _ sz' n' _ => sz' = sz ∧ i < n' | .mat _ sz' n' _ _ _ _ _ _ _ => sz' = sz ∧ i < n' | _ => True) :
    match h' id with | .row _ sz' n' _ => sz' = sz ∧ i < n' | .mat _ sz' n' _ _ _ _ _ _ _ => sz' = sz ∧ i < n' | _ => True := by
  rcases S.mem id e with e2 | e2
  · rw [e2]; trivial
  · rw [e2]
    cases hq : h id <;> rw [hq] at h3 <;> first | trivial | exact h3
theorem Same.mrow {d : Nat} {h h' : Heap} {ι ι' : Loc} (S : Same d h h' ι ι') {id i : Nat} (e : id ≠ d) (h3 : match h id with | .mat _ _ n _ _ _ _ _ _ hole => i < n ∧ hole ≠ some i | _ => True) :
    match h' id with | .mat _ _ n _ _ _ _ _ _ hole => i < n ∧ hole ≠ some i | _ => True := by
  rcases S.mem id e with e2 | e2
  · rw [e2]; trivial
  · rw [e2]
    cases hq : h id <;> rw [hq] at h3 <;> first | trivial | exact h3
theorem Same.madr {d : Nat} {h h' : Heap} {ι ι' : Loc} (S : Same d h h' ι ι') {id i sz a : Nat} (e : id ≠ d) (h3 : match h id with | .mat _ _ n' _ _ _ szi len _ hole => szi = sz ∧ i < n' ∧ hole ≠ some i ∧ a < len i | _ => True) :
    match h' id with | .mat _ _ n' _ _ _ szi len _ hole => szi = sz ∧ i < n' ∧ hole ≠ some i ∧ a < len i | _ => True := by
  rcases S.mem id e with e2 | e2
  · rw [e2]; trivial
  · rw [e2]
    cases hq : h id <;> rw [hq] at h3 <;> first | trivial | exact h3

theorem rf_scrub {d : Nat} {h h' : Heap} {ι ι' : Loc} (S : Same d h h' ι ι') {w : World} {ok : Nat → Prop} {x : AV} {v : Value} (hr : rf h ι x v) : VR w ok (scrub d x) (rf h' ι') v := by
  cases x with
  | row id =>
    by_cases e : id = d
    · subst e; simp [scrub, VR]
    · simp only [scrub, beq_ne e, cond_false, VR]
      exact (show v = ι id 0 from hr).trans (by rw [S.val id e])
  | radr id sz i j =>
    by_cases e : id = d
    · subst e; simp [scrub, VR]
    · simp only [scrub, beq_ne e, cond_false, VR]
      obtain ⟨g, n, c, h1, h2, h3⟩ := hr
      exact ⟨g, n, c, by rw [S.val id e]; exact h1, h2, S.radr e h3⟩
  | box id off =>
    by_cases e : id = d
    · subst e; simp [scrub, VR]
    · simp only [scrub, beq_ne e, cond_false, VR]
      obtain ⟨g, h1, h2⟩ := hr
      exact ⟨g, by rw [S.val id e]; exact h1, h2⟩
  | obj id =>
    by_cases e : id = d
    · subst e; simp [scrub, VR]
    · simp only [scrub, beq_ne e, cond_false, VR]
      exact (show v = ι id 0 from hr).trans (by rw [S.val id e])
  | mrow id i =>
    by_cases e : id = d
    · subst e; simp [scrub, VR]
    · simp only [scrub, beq_ne e, cond_false, VR]
      exact ⟨hr.1.trans (by rw [S.val id e]), S.mrow e hr.2⟩
  | madr id i sz a b =>
    by_cases e : id = d
    · subst e; simp [scrub, VR]
    · simp only [scrub, beq_ne e, cond_false, VR]
      obtain ⟨g, n, c, h1, h2, h3⟩ := hr
      exact ⟨g, n, c, by rw [S.val id e]; exact h1, h2, S.madr e h3⟩
  | _ => exact absurd hr (by simp [rf])

/-- A way to forget some references. -/
structure Scr (σ : AV → AV) : Prop where
  agg : ∀ n get, σ (.agg n get) = .agg n (fun j => σ (get j))
  tup : ∀ n get, σ (.tup n get) = .tup n (fun j => σ (get j))
  plain : ∀ x, (∀ h ι v, ¬ rf h ι x v) → (∀ n get, x ≠ .agg n get) → (∀ n get, x ≠ .tup n get) → σ x = x

theorem VR.scr {σ : AV → AV} (S : Scr σ) {h : Heap} {ι : Loc} {r' : Ref} {w w' : World} {ok ok' : Nat → Prop} (hσ : ∀ x v, rf h ι x v → VR w' ok' (σ x) r' v) (hok : ∀ b, ok b → ok' b) (hw : ∀ b, ok b → w'.heap[b]? = w.heap[b]?) :
    ∀ (x : AV) (v : Value), VR w ok x (rf h ι) v → VR w' ok' (σ x) r' v := by
  intro x
  have pl : ∀ x : AV, (∀ h ι v, ¬ rf h ι x v) → (∀ n get, x ≠ .agg n get) → (∀ n get, x ≠ .tup n get) → (∀ v, VR w ok x (rf h ι) v → VR w' ok' x r' v) → ∀ v, VR w ok x (rf h ι) v → VR w' ok' (σ x) r' v :=
    fun x h1 h2 h3 h4 v hv => by rw [S.plain x h1 h2 h3]; exact h4 v hv
  induction x with
  | agg n get ih =>
    intro v ⟨cs, e, hs, hc⟩
    rw [S.agg]
    refine ⟨cs, e, hs, fun j hj => ?_⟩
    obtain ⟨cv, c1, c2, c3⟩ := hc j hj
    exact ⟨cv, c1, c2, ih j _ c3⟩
  | tup n get ih =>
    intro v ⟨cs, e, hs, hc⟩
    rw [S.tup]
    refine ⟨cs, e, hs, fun j hj => ?_⟩
    obtain ⟨cv, c1, c3⟩ := hc j hj
    exact ⟨cv, c1, ih j _ c3⟩
  | row id => intro v hv; exact hσ _ _ hv
  | radr id sz i j => intro v hv; exact hσ _ _ hv
  | box id off => intro v hv; exact hσ _ _ hv
  | obj id => intro v hv; exact hσ _ _ hv
  | mrow id i => intro v hv; exact hσ _ _ hv
  | madr id i sz a b => intro v hv; exact hσ _ _ hv
  | sl n sz get _ => exact pl _ (fun _ _ _ h => by simp [rf] at h) (fun _ _ e => by cases e) (fun _ _ e => by cases e) (fun v hv => VR.mono hok hw (.sl n sz get) noref r' v (fun _ _ h => absurd h id) hv)
  | iadr m get _ => exact pl _ (fun _ _ _ h => by simp [rf] at h) (fun _ _ e => by cases e) (fun _ _ e => by cases e) (fun v hv => VR.mono hok hw (.iadr m get) noref r' v (fun _ _ h => absurd h id) hv)
  | _ => exact pl _ (fun _ _ _ h => by simp [rf] at h) (fun _ _ e => by cases e) (fun _ _ e => by cases e) (fun v hv => hv)

theorem MR.scr {σ : AV → AV} (S : Scr σ) {h : Heap} {ι : Loc} {r' : Ref} {w w' : World} {ok ok' : Nat → Prop} (hσ : ∀ x v, rf h ι x v → VR w' ok' (σ x) r' v) (hok : ∀ b, ok b → ok' b) (hw : ∀ b, ok b → w'.heap[b]? = w.heap[b]?)
    {B : Nat} {m : MO} {v : Nat → Value} (hb : ∀ g, owns m v g → w'.heap[g]? = w.heap[g]?) (hm : MR B w ok (rf h ι) m v) : MR B w' ok' r' (scrM σ m) v := by
  have key : ∀ m' : MO, (∀ t l, m' ≠ .box t l) → (∀ vs E, m' ≠ .frame vs E) → m = m' → MR B w' ok' r' m' v := by
    intro m' hne hne2 e
    subst e
    have : MR B w ok noref m v := by cases m <;> first | exact hm | exact absurd rfl (hne _ _) | exact absurd rfl (hne2 _ _)
    exact MR.keepR (r := noref) (fun _ _ h => False.elim h) hok hw hb this
  cases m with
  | box t l =>
    obtain ⟨g, cs, e, hg, hs, hc⟩ := hm
    refine ⟨g, cs, e, (hb g (owns_zero (by rw [e]; rfl))).trans hg, by simp [hs], fun j x hx => ?_⟩
    rw [List.getElem?_map] at hx
    cases hl : l[j]? with
    | none => rw [hl] at hx; cases hx
    | some y =>
      rw [hl] at hx
      cases hx
      obtain ⟨cv, c1, c2, c3⟩ := hc j y hl
      exact ⟨cv, c1, c2, VR.scr S hσ hok hw _ _ c3⟩
  | frame vs E => exact fun i => VR.scr S hσ hok hw _ _ (hm i)
  | _ => exact key _ (fun t l e => by cases e) (fun t l e => by cases e) rfl

theorem scrub_scr (d : Nat) : Scr (scrub d) := by
  refine ⟨fun _ _ => rfl, fun _ _ => rfl, fun x h1 h2 h3 => ?_⟩
  cases x <;> first
    | rfl
    | exact absurd rfl (h2 _ _)
    | exact absurd rfl (h3 _ _)
    | exact absurd rfl (h1 (fun _ => .dead) (fun _ _ => .nilIface) _)
    | (exfalso; exact h1 (fun _ => .dead) (fun _ _ => .nilIface) _ ⟨rfl, trivial⟩)
    | (exfalso; exact h1 (fun _ => .dead) (fun _ _ => .slice (some ⟨0, 0, none⟩) 0 0) _ ⟨0, 0, 0, rfl, rfl, trivial⟩)
    | (exfalso; exact h1 (fun _ => .dead) (fun _ _ => .pointer (some ⟨0, 0, none⟩)) _ ⟨0, rfl, rfl⟩)

theorem VR.scrub {d : Nat} {h h' : Heap} {ι ι' : Loc} (S : Same d h h' ι ι') {w w' : World} {ok ok' : Nat → Prop} (hok : ∀ b, ok b → ok' b) (hw : ∀ b, ok b → w'.heap[b]? = w.heap[b]?)
    (x : AV) (v : Value) (hx : VR w ok x (rf h ι) v) : VR w' ok' (scrub d x) (rf h' ι') v := VR.scr (scrub_scr d) (fun _ _ hr => rf_scrub S hr) hok hw x v hx

theorem MR.keep {h h' : Heap} {ι ι' : Loc} {w w' : World} {ok ok' : Nat → Prop} (hr : ∀ x v, rf h ι x v → rf h' ι' x v) (hok : ∀ b, ok b → ok' b) (hw : ∀ b, ok b → w'.heap[b]? = w.heap[b]?)
    {B : Nat} {m : MO} {v : Nat → Value} (hb : ∀ g, owns m v g → w'.heap[g]? = w.heap[g]?) (hm : MR B w ok (rf h ι) m v) : MR B w' ok' (rf h' ι') m v := MR.keepR hr hok hw hb hm

theorem scrM_dead {σ : AV → AV} {m : MO} : scrM σ m = .dead ↔ m = .dead := by cases m <;> simp [scrM]

def Plain : MO → Prop
  | .mat .. => False
  | _ => True
theorem Plain.owns {m : MO} (hp : Plain m) {v : Nat → Value} {g : Nat} (h : V.owns m v g) : blk (v 0) = some g := by
  cases m <;> first | exact h | exact hp.elim

section
variable {C : Ctx} {env : Env} {h : Heap} {ι : Loc} {a : Act} {w : World}

/-- An object is made under the id 'd' (what 'd' meant before is forgotten); the object 'z' is given up. -/
theorem Rel.remake {σ : AV → AV} (S : Scr σ) (R : Rel C env h ι a w) (d z : Nat) (mo : MO) (f0 : Nat → Value) (w' : World) (hbel : Below C.B w w')
    (hw : ∀ b, okB C h ι w b → w'.heap[b]? = w.heap[b]?)
    (hobj : ∀ id, id ≠ d → id ≠ z → h id ≠ .dead → ∀ g, owns (h id) (ι id) g → w'.heap[g]? = w.heap[g]?)
    (h1 : ∀ i, (f0 i).oneCell' = true) (hb : ∀ g, owns mo f0 g → C.B ≤ g ∧ g < w'.heap.size)
    (hnew : ∀ g, owns mo f0 g → ¬ okB C h ι w g) (hap : ∀ id, id ≠ d → id ≠ z → h id ≠ .dead → ∀ g, owns (h id) (ι id) g → ¬ owns mo f0 g)
    (hσ : (∀ b, okB C h ι w b → okB C (upd (upd (fun id => scrM σ (h id)) z .dead) d mo) (upd ι d f0) w' b) → ∀ x v, rf h ι x v → VR w' (okB C (upd (upd (fun id => scrM σ (h id)) z .dead) d mo) (upd ι d f0) w') (σ x) (rf (upd (upd (fun id => scrM σ (h id)) z .dead) d mo) (upd ι d f0)) v)
    (hm : (∀ b, okB C h ι w b → okB C (upd (upd (fun id => scrM σ (h id)) z .dead) d mo) (upd ι d f0) w' b) → MR C.B w' (okB C (upd (upd (fun id => scrM σ (h id)) z .dead) d mo) (upd ι d f0) w') (rf (upd (upd (fun id => scrM σ (h id)) z .dead) d mo) (upd ι d f0)) mo f0) :
    Rel C (fun i => σ (env i)) (upd (upd (fun id => scrM σ (h id)) z .dead) d mo) (upd ι d f0) a w' ∧
      (∀ b, okB C h ι w b → okB C (upd (upd (fun id => scrM σ (h id)) z .dead) d mo) (upd ι d f0) w' b) := by
  have hsz := hbel.size
  have hlive : ∀ id, id ≠ d → upd (upd (fun id => scrM σ (h id)) z .dead) d mo id ≠ .dead → (h id ≠ .dead ∧ id ≠ z) ∧ upd (upd (fun id => scrM σ (h id)) z .dead) d mo id = scrM σ (h id) := by
    intro id hd hl
    rw [upd_other _ _ hd] at hl ⊢
    by_cases hz : id = z
    · subst hz; rw [upd_same] at hl; exact absurd rfl hl
    · rw [upd_other _ _ hz] at hl ⊢
      exact ⟨⟨fun e => hl (scrM_dead.mpr e), hz⟩, rfl⟩
  have hok : ∀ b, okB C h ι w b → okB C (upd (upd (fun id => scrM σ (h id)) z .dead) d mo) (upd ι d f0) w' b := by
    intro b hb'
    refine ⟨by have := hb'.1; omega, hb'.2.1, fun id hl => ?_⟩
    by_cases hd : id = d
    · subst hd
      rw [upd_same, upd_same]
      intro e
      exact hnew b e hb'
    · rw [(hlive id hd hl).2, upd_other _ _ hd, owns_scrM]
      exact hb'.2.2 id (hlive id hd hl).1.1
  refine ⟨?_, hok⟩
  constructor
  · exact R.below.trans hbel
  · exact R.defers
  · exact R.size
  · exact fun i => VR.scr S (hσ hok) hok hw _ _ (R.env i)
  · intro id
    by_cases hd : id = d
    · subst hd; rw [upd_same, upd_same]
      exact hm hok
    · by_cases hl : upd (upd (fun id => scrM σ (h id)) z .dead) d mo id = .dead
      · rw [hl]; trivial
      · obtain ⟨⟨hl1, hz⟩, e1⟩ := hlive id hd hl
        rw [e1, upd_other _ _ hd]
        exact MR.scr S (hσ hok) hok hw (hobj id hd hz hl1) (R.obj id)
  · intro id i
    by_cases hd : id = d
    · subst hd; rw [upd_same]; exact h1 i
    · rw [upd_other _ _ hd]; exact R.one id i
  · intro id hl g hg
    by_cases hd : id = d
    · subst hd; rw [upd_same, upd_same] at hg; exact hb g hg
    · obtain ⟨⟨l1, z1⟩, e1⟩ := hlive id hd hl
      rw [e1, upd_other _ _ hd, owns_scrM] at hg
      have := R.base id l1 g hg
      exact ⟨this.1, by omega⟩
  · intro id id' hl hl' hne g hg
    by_cases hd : id = d
    · subst hd
      rw [upd_same, upd_same] at hg
      have hd' : id' ≠ id := fun e => hne e.symm
      obtain ⟨⟨l1, z1⟩, e1⟩ := hlive id' hd' hl'
      rw [e1, upd_other _ _ hd', owns_scrM]
      exact fun hg' => hap id' hd' z1 l1 g hg' hg
    · obtain ⟨⟨l1, z1⟩, e1⟩ := hlive id hd hl
      rw [e1, upd_other _ _ hd, owns_scrM] at hg
      by_cases hd' : id' = d
      · subst hd'
        rw [upd_same, upd_same]
        exact hap id hd z1 l1 g hg
      · obtain ⟨⟨l2, z2⟩, e2⟩ := hlive id' hd' hl'
        rw [e2, upd_other _ _ hd', owns_scrM]
        exact R.apart id id' l1 l2 hne g hg

theorem Rel.makeG (R : Rel C env h ι a w) (d z : Nat) (mo : MO) (f0 : Nat → Value) (w' : World) (hbel : Below C.B w w')
    (hw : ∀ b, okB C h ι w b → w'.heap[b]? = w.heap[b]?)
    (hobj : ∀ id, id ≠ d → id ≠ z → h id ≠ .dead → ∀ g, owns (h id) (ι id) g → w'.heap[g]? = w.heap[g]?)
    (h1 : ∀ i, (f0 i).oneCell' = true) (hb : ∀ g, owns mo f0 g → C.B ≤ g ∧ g < w'.heap.size)
    (hnew : ∀ g, owns mo f0 g → ¬ okB C h ι w g) (hap : ∀ id, id ≠ d → id ≠ z → h id ≠ .dead → ∀ g, owns (h id) (ι id) g → ¬ owns mo f0 g)
    (hm : ∀ ok r, (∀ b, okB C h ι w b → ok b) → Same d h (upd (upd (scrubH d h) z .dead) d mo) ι (upd ι d f0) →
      r = rf (upd (upd (scrubH d h) z .dead) d mo) (upd ι d f0) → MR C.B w' ok r mo f0) :
    Rel C (scrubE d env) (upd (upd (scrubH d h) z .dead) d mo) (upd ι d f0) a w' ∧
      (∀ b, okB C h ι w b → okB C (upd (upd (scrubH d h) z .dead) d mo) (upd ι d f0) w' b) ∧
      Same d h (upd (upd (scrubH d h) z .dead) d mo) ι (upd ι d f0) := by
  have hS : Same d h (upd (upd (scrubH d h) z .dead) d mo) ι (upd ι d f0) := by
    refine ⟨fun id hd => upd_other _ _ hd, fun id hd => ?_⟩
    rw [upd_other _ _ hd]
    by_cases hz : id = z
    · subst hz; rw [upd_same]; exact .inl rfl
    · rw [upd_other _ _ hz]; exact .inr rfl
  have := R.remake (scrub_scr d) d z mo f0 w' hbel hw hobj h1 hb hnew hap (fun _ _ _ hr => rf_scrub hS hr) (fun hok => hm _ _ hok hS rfl)
  exact ⟨this.1, this.2, hS⟩

theorem Rel.make (R : Rel C env h ι a w) (d z : Nat) (mo : MO) (v0 : Value) (w' : World) (hbel : Below C.B w w')
    (hw : ∀ b, okB C h ι w b → w'.heap[b]? = w.heap[b]?)
    (hobj : ∀ id, id ≠ d → id ≠ z → h id ≠ .dead → ∀ g, owns (h id) (ι id) g → w'.heap[g]? = w.heap[g]?)
    (h1 : v0.oneCell' = true) (hb : ∀ g, blk v0 = some g → C.B ≤ g ∧ g < w'.heap.size)
    (hnew : ∀ g, blk v0 = some g → ¬ okB C h ι w g) (hap : ∀ id, id ≠ d → id ≠ z → h id ≠ .dead → ∀ g, owns (h id) (ι id) g → blk v0 ≠ some g)
    (hm : ∀ ok r, (∀ b, okB C h ι w b → ok b) → Same d h (upd (upd (scrubH d h) z .dead) d mo) ι (upd ι d (fun _ => v0)) →
      r = rf (upd (upd (scrubH d h) z .dead) d mo) (upd ι d (fun _ => v0)) → MR C.B w' ok r mo (fun _ => v0)) (hp : Plain mo := by trivial) :
    Rel C (scrubE d env) (upd (upd (scrubH d h) z .dead) d mo) (upd ι d (fun _ => v0)) a w' ∧
      (∀ b, okB C h ι w b → okB C (upd (upd (scrubH d h) z .dead) d mo) (upd ι d (fun _ => v0)) w' b) ∧
      Same d h (upd (upd (scrubH d h) z .dead) d mo) ι (upd ι d (fun _ => v0)) :=
  R.makeG d z mo (fun _ => v0) w' hbel hw hobj (fun _ => h1) (fun g hg => hb g (hp.owns hg)) (fun g hg => hnew g (hp.owns hg)) (fun id a1 a2 a3 g hg hg' => hap id a1 a2 a3 g hg (hp.owns hg')) hm

/-- What may be said of an object's memory without harm to what leads into it. -/
def Fits (m m' : MO) : Prop := match m' with
  | .row _ sz n _ => (match m with | .row _ sz0 n0 _ => sz0 = sz ∧ n0 = n | _ => False)
  | .mat _ sz n _ _ _ szi len _ hole => (match m with | .mat _ sz0 n0 _ _ _ szi0 len0 _ hole0 => sz0 = sz ∧ n0 = n ∧ szi0 = szi ∧ hole0 = hole ∧ len0 = len | _ => False)
  | _ => True

theorem rf_upd {d : Nat} {mo : MO} (hrow : Fits (h d) mo) : ∀ x v, rf h ι x v → rf (upd h d mo) ι x v := by
  intro x v hx
  cases x with
  | radr id sz i j =>
    obtain ⟨g, n, c, h1, h2, h3⟩ := hx
    refine ⟨g, n, c, h1, h2, ?_⟩
    by_cases e : id = d
    · subst e
      rw [upd_same]
      unfold Fits at hrow
      cases mo <;> first
        | trivial
        | (cases hq : h id <;> rw [hq] at h3 hrow <;> first
            | exact hrow.elim
            | (obtain ⟨e1, e2⟩ := hrow; exact ⟨e1 ▸ h3.1, e2 ▸ h3.2⟩)
            | (obtain ⟨e1, e2, _⟩ := hrow; exact ⟨e1 ▸ h3.1, e2 ▸ h3.2⟩))
    · rw [upd_other _ _ e]; exact h3
  | mrow id i =>
    obtain ⟨h1, h3⟩ := hx
    refine ⟨h1, ?_⟩
    by_cases e : id = d
    · subst e
      rw [upd_same]
      unfold Fits at hrow
      cases mo <;> first
        | trivial
        | (cases hq : h id <;> rw [hq] at h3 hrow <;> first
            | exact hrow.elim
            | (obtain ⟨e1, e2, e3, e4, e5⟩ := hrow; subst e2; subst e4; exact h3))
    · rw [upd_other _ _ e]; exact h3
  | madr id i sz a b =>
    obtain ⟨g, n, c, h1, h2, h3⟩ := hx
    refine ⟨g, n, c, h1, h2, ?_⟩
    by_cases e : id = d
    · subst e
      rw [upd_same]
      unfold Fits at hrow
      cases mo <;> first
        | trivial
        | (cases hq : h id <;> rw [hq] at h3 hrow <;> first
            | exact hrow.elim
            | (obtain ⟨e1, e2, e3, e4, e5⟩ := hrow; subst e2; subst e3; subst e4; subst e5; exact h3))
    · rw [upd_other _ _ e]; exact h3
  | row id => exact hx
  | box id off => exact hx
  | obj id => exact hx
  | _ => exact absurd hx (by simp [rf])

/-- An object's memory is written; what leads to it stays. -/
theorem Rel.setG (R : Rel C env h ι a w) (d : Nat) (mo : MO) (w' : World) (hbel : Below C.B w w') (hlive : h d ≠ .dead)
    (hw : ∀ b, ¬ owns (h d) (ι d) b → b < w.heap.size → w'.heap[b]? = w.heap[b]?)
    (hrow : Fits (h d) mo) (hown : ∀ g, owns mo (ι d) g → owns (h d) (ι d) g)
    (hm : ∀ r ok, (∀ x v, rf h ι x v → r x v) → (∀ b, okB C h ι w b → ok b) → (∀ b, okB C h ι w b → w'.heap[b]? = w.heap[b]?) → MR C.B w' ok r mo (ι d)) :
    Rel C env (upd h d mo) ι a w' := by
  have hsz := hbel.size
  have hr := rf_upd (ι := ι) hrow
  have hdead : ∀ id, upd h d mo id ≠ .dead → h id ≠ .dead := by
    intro id hl
    by_cases e : id = d
    · subst e; exact hlive
    · rwa [upd_other _ _ e] at hl
  have hsub : ∀ id g, owns (upd h d mo id) (ι id) g → owns (h id) (ι id) g := by
    intro id g hg
    by_cases e : id = d
    · subst e; rw [upd_same] at hg; exact hown g hg
    · rwa [upd_other _ _ e] at hg
  have hok : ∀ b, okB C h ι w b → okB C (upd h d mo) ι w' b := fun b hb => ⟨by have := hb.1; omega, hb.2.1, fun id hl hg => hb.2.2 id (hdead id hl) (hsub id b hg)⟩
  have hwb : ∀ b, okB C h ι w b → w'.heap[b]? = w.heap[b]? := fun b hb => hw b (hb.2.2 d hlive) hb.1
  constructor
  · exact R.below.trans hbel
  · exact R.defers
  · exact R.size
  · exact fun i => VR.mono hok hwb _ _ _ _ hr (R.env i)
  · intro id
    by_cases e : id = d
    · subst e; rw [upd_same]; exact hm _ _ hr hok hwb
    · rw [upd_other _ _ e]
      by_cases hl : h id = .dead
      · rw [hl]; trivial
      · exact MR.keep hr hok hwb (fun g hg => hw g (R.apart id d hl hlive e g hg) (R.base id hl g hg).2) (R.obj id)
  · exact R.one
  · intro id hl g hg
    have := R.base id (hdead id hl) g (hsub id g hg)
    exact ⟨this.1, by omega⟩
  · exact fun id id' hl hl' hne g hg hg' => R.apart id id' (hdead id hl) (hdead id' hl') hne g (hsub id g hg) (hsub id' g hg')

theorem Rel.set (R : Rel C env h ι a w) (d : Nat) (mo : MO) (w' : World) (hbel : Below C.B w w') (hlive : h d ≠ .dead)
    (hw : ∀ b, (∀ g, blk (ι d 0) = some g → b ≠ g) → b < w.heap.size → w'.heap[b]? = w.heap[b]?)
    (hrow : Fits (h d) mo)
    (hm : ∀ r ok, (∀ x v, rf h ι x v → r x v) → (∀ b, okB C h ι w b → ok b) → (∀ b, okB C h ι w b → w'.heap[b]? = w.heap[b]?) → MR C.B w' ok r mo (ι d)) (hp : Plain mo := by trivial) :
    Rel C env (upd h d mo) ι a w' :=
  R.setG d mo w' hbel hlive (fun b hb => hw b (fun g hg e => hb (owns_zero (e ▸ hg)))) hrow (fun g hg => owns_zero (hp.owns hg)) hm

/-- An object is given up: what it holds can no longer be changed, and may be read as it is from now on. -/
theorem Rel.kill (R : Rel C env h ι a w) (z : Nat) : Rel C env (upd h z .dead) ι a w ∧ (∀ b, okB C h ι w b → okB C (upd h z .dead) ι w b) ∧ (∀ x v, rf h ι x v → rf (upd h z .dead) ι x v) := by
  have hdead : ∀ id, upd h z .dead id ≠ .dead → h id ≠ .dead ∧ id ≠ z := by
    intro id hl
    by_cases e : id = z
    · subst e; rw [upd_same] at hl; exact absurd rfl hl
    · rw [upd_other _ _ e] at hl; exact ⟨hl, e⟩
  have hr : ∀ x v, rf h ι x v → rf (upd h z .dead) ι x v := rf_upd (by trivial)
  have hok : ∀ b, okB C h ι w b → okB C (upd h z .dead) ι w b := fun b hb => ⟨hb.1, hb.2.1, fun id hl => by rw [upd_other _ _ (hdead id hl).2]; exact hb.2.2 id (hdead id hl).1⟩
  refine ⟨?_, hok, hr⟩
  constructor
  · exact R.below
  · exact R.defers
  · exact R.size
  · exact fun i => VR.mono hok (fun _ _ => rfl) _ _ _ _ hr (R.env i)
  · intro id
    by_cases e : id = z
    · subst e; rw [upd_same]; trivial
    · rw [upd_other _ _ e]; exact MR.keep hr hok (fun _ _ => rfl) (fun _ _ => rfl) (R.obj id)
  · exact R.one
  · intro id hl; rw [upd_other _ _ (hdead id hl).2]; exact R.base id (hdead id hl).1
  · intro id id' hl hl'; rw [upd_other _ _ (hdead id hl).2, upd_other _ _ (hdead id' hl').2]; exact R.apart id id' (hdead id hl).1 (hdead id' hl').1

/-- Slots may be forgotten, or told otherwise. -/
theorem Rel.env_ {env' : Env} (R : Rel C env h ι a w) (he : ∀ i, VR w (okB C h ι w) (env' i) (rf h ι) (a.tmps.getD i undef)) : Rel C env' h ι a w := { R with env := he }
end

end Go.Proofs.YtfodjmemdkibpaaDoor.V
