/-
A builder's end: its bytes become a text, its row is given up; a row's name for a nil slice that lies in a box.
-/
import Derived.Test.YtfodjmemdkibpaaDoorV2
import Derived.Lib.UnsafeStr
namespace Go.Proofs.YtfodjmemdkibpaaDoor.V
open Go Go.RowKit
set_option linter.unusedSimpArgs false
set_option linter.unusedVariables false
section
variable {C : Ctx} {env : Env} {h : Heap} {ι : Loc} {a : Act} {w : World}
/-- An object is given up, and its own blocks are turned. -/
theorem Rel.killW (R : Rel C env h ι a w) (z : Nat) {w' : World} (hz : h z ≠ .dead) (hb : Below C.B w w') (hsz : w'.heap.size = w.heap.size) (hw : ∀ b, ¬ owns (h z) (ι z) b → w'.heap[b]? = w.heap[b]?) : Rel C env (upd h z .dead) ι a w' := by
  have hdead : ∀ id, upd h z .dead id ≠ .dead → h id ≠ .dead ∧ id ≠ z := by
    intro id hl
    by_cases e : id = z
    · subst e; rw [upd_same] at hl; exact absurd rfl hl
    · rw [upd_other _ _ e] at hl; exact ⟨hl, e⟩
  have hr : ∀ x v, rf h ι x v → rf (upd h z .dead) ι x v := rf_upd (by trivial)
  have hok : ∀ b, okB C h ι w b → okB C (upd h z .dead) ι w' b := fun b hb => ⟨by rw [hsz]; exact hb.1, hb.2.1, fun id hl => by rw [upd_other _ _ (hdead id hl).2]; exact hb.2.2 id (hdead id hl).1⟩
  have hwo : ∀ b, okB C h ι w b → w'.heap[b]? = w.heap[b]? := fun b hb => hw b (hb.2.2 z hz)
  constructor
  · exact R.below.trans hb
  · exact R.defers
  · exact R.size
  · exact fun i => VR.mono hok hwo _ _ _ _ hr (R.env i)
  · intro id
    by_cases e : id = z
    · subst e; rw [upd_same]; trivial
    · rw [upd_other _ _ e]
      by_cases hl : h id = .dead
      · rw [hl]; trivial
      · exact MR.keepR hr hok hwo (fun g hg => hw g (fun hg' => R.apart id z hl hz e g hg hg')) (R.obj id)
  · exact R.one
  · intro id hl; rw [upd_other _ _ (hdead id hl).2, hsz]; exact R.base id (hdead id hl).1
  · intro id id' hl hl'; rw [upd_other _ _ (hdead id hl).2, upd_other _ _ (hdead id' hl').2]; exact R.apart id id' (hdead id hl).1 (hdead id' hl').1

theorem freeze_heap {w : World} {g : Nat} {cs : Array Value} {e : TypeId} {fz : Nat × Nat} (hg : w.heap[g]? = some (.cells cs e fz)) (n : Nat) :
    (w.freeze ⟨g, 0, none⟩ n).heap.size = w.heap.size ∧ ∀ b, b ≠ g → (w.freeze ⟨g, 0, none⟩ n).heap[b]? = w.heap[b]? := by
  unfold World.freeze
  split
  · exact ⟨rfl, fun _ _ => rfl⟩
  · refine ⟨by simp, fun b hb => ?_⟩
    simp only [Array.getElem?_modify]
    rw [if_neg (fun e => hb e.symm)]
end
section
variable {C : Ctx} {env : Env} {h : Heap}
/-- unsafe.String of no byte. -/
theorem Run.unsafeString0 {o : Oper} {ops : Array Oper} {i : Nat} {rest : List Nat} {k : List Item} {c : Call} {x y : Operand} {pt it : TypeId} (ho : ops.toList[i]? = some o) (hc : o.op = .call c) (hcb : c.callee = .builtin .unsafeString) (hca : c.args.toList = [x, y]) (hct : c.argTypes.toList = [pt, it])
    (hd : okD C.N o.dst = true) (hr : ready env ops o = true) (hx : ev env x = .ptr ∨ ev env x = .nilp) (hy : ev env y = .int .i64 0)
    (next : Run C (.inRegion ops rest :: k) (putE env o.dst (.str .empty)) h) : Run C (.inRegion ops (i :: rest) :: k) env h :=
  Run.opG (fun env' h' z => env' = env ∧ h' = h ∧ z = .str .empty) ho hd hr (fun ι a w R => by
    have hca' := toList_two hca
    have hct' := toList_two hct
    have hv := ev_ok R x
    have hp : ∃ p, a.eval x = .pointer p := by
      rcases hx with hx | hx <;> rw [hx] at hv
      · exact hv
      · exact ⟨none, hv⟩
    obtain ⟨p, hp⟩ := hp
    have hvy := ev_ok R y
    rw [hy] at hvy
    have hvy' : a.eval y = .int .i64 0 := hvy
    refine OpOut.same R ⟨rfl, rfl, rfl⟩ (v := .string .empty) ?_ ⟨rfl, by decide⟩
    simp only [execOp, hc, resolve, hcb, hca', hct', invoke, builtin, Act.eval]
    have := Lib.run_unsafeString_none (P := C.P) w pt it o.type p
    simp [hp, hvy', this]) (fun env' h' y ⟨e1, e2, e3⟩ => by subst e1; subst e2; subst e3; exact next)

/-- unsafe.String of a row's bytes: the row is given up. -/
theorem Run.unsafeString {o : Oper} {ops : Array Oper} {i : Nat} {rest : List Nat} {k : List Item} {c : Call} {x y : Operand} {pt it : TypeId} {q e n : Nat} {get : Nat → Nat → AV} (s : ByteArray) (ho : ops.toList[i]? = some o) (hc : o.op = .call c) (hcb : c.callee = .builtin .unsafeString) (hca : c.args.toList = [x, y]) (hct : c.argTypes.toList = [pt, it])
    (hd : okD C.N o.dst = true) (hr : ready env ops o = true) (hx : ev env x = .radr q 1 0 0) (hy : ev env y = .int .i64 (n : Int)) (hq : h q = .row e 1 n get) (hs : s.size = n) (hn : n ≠ 0) (hget : ∀ i, i < n → get i 0 = .int .u8 (bt s i))
    (hpt : C.P.underlying pt = some (.pointer e)) (hc1 : C.P.cellsOf e = 1)
    (next : Run C (.inRegion ops rest :: k) (putE env o.dst (.str s)) (upd h q .dead)) : Run C (.inRegion ops (i :: rest) :: k) env h :=
  Run.opG (fun env' h' z => env' = env ∧ h' = upd h q .dead ∧ z = .str s) ho hd hr (fun ι a w R => by
    have hca' := toList_two hca
    have hct' := toList_two hct
    have hlq : h q ≠ .dead := by rw [hq]; simp
    have hv := ev_ok R x
    rw [hx] at hv
    obtain ⟨g, n', cap', hg1, hv, -⟩ := hv
    have hvy := ev_ok R y
    rw [hy] at hvy
    have hvy' : a.eval y = .int .i64 (n : Int) := hvy
    have hoq := R.obj q
    rw [hq] at hoq
    obtain ⟨xs, hown, hone, hcells⟩ := hoq
    have hcell := fun j u hj => hown.cells (g := g) (by rcases hown.2 with ⟨hv0, h0⟩ | ⟨g', cap, cur, hv0, _⟩; exact absurd h0 hn; rw [hg1] at hv0; cases hv0; rw [hg1]; rfl) j u hj
    obtain ⟨g', cap, cur, hv0, hB, hg, hnc, hcm, hcs, htake⟩ : ∃ g' cap cur, ι q 0 = .slice (some ⟨g', 0, none⟩) n cap ∧ C.B ≤ g' ∧ w.heap[g']? = some (.cells cur e (0, 0)) ∧ n ≤ cap ∧ cap ≤ maxLen ∧ cur.size = cap * 1 ∧ cur.toList.take (n * 1) = xs := by
      rcases hown.2 with ⟨hv0, h0⟩ | hr
      · exact absurd h0 hn
      · exact hr
    have hgg : g' = g := by rw [hg1] at hv0; cases hv0; rfl
    subst hgg
    have hval : a.eval x = .pointer (some ⟨g', 0, none⟩) := by rw [hv]; simp [Addr.add]
    have hlen : s.data.toList.length = n := by rw [← hs]; rfl
    have hrun := Lib.run_unsafeString_row (P := C.P) w pt it o.type e hpt hc1 g' cur.size (by simp [World.shape?, hg]) s.data.toList (by intro e0; rw [e0] at hlen; exact hn hlen.symm) (by rw [hlen, hcs]; omega) (by rw [hlen]; simp only [maxLen] at hcm; omega) (fun j u hj => by
      have hjn : j < n := by
        rcases Nat.lt_or_ge j s.data.toList.length with h' | h'
        · omega
        · rw [List.getElem?_eq_none h'] at hj; cases hj
      obtain ⟨cv, c1, c2⟩ := hcells j 0 hjn (by omega)
      rw [hget j hjn] at c2
      have c2' : cv = .int .u8 (bt s j) := c2
      rw [Nat.mul_one, Nat.add_zero] at c1
      have := hcell j cv c1
      rw [this, c2']
      unfold bt
      rw [List.getD, hj]; rfl)
    rw [hlen] at hrun
    have hs' : (⟨s.data.toList.toArray⟩ : ByteArray) = s := by simp
    rw [hs'] at hrun
    obtain ⟨f1, f2⟩ := freeze_heap hg n
    refine ⟨.value (.string s), .string s, w.freeze ⟨g', 0, none⟩ n, ι, env, upd h q .dead, .str s, ?_, .inl rfl, R.killW q hlq (Lib.below_freeze (Below.refl _ _) hB n) f1 (fun b hb => f2 b (fun e0 => hb ?_)), ⟨rfl, by rw [hs]; omega⟩, rfl, rfl, rfl⟩
    · simp only [execOp, hc, resolve, hcb, hca', hct', invoke, builtin, Act.eval]
      simp [hval, hvy', hrun]
    · subst e0; rw [hq]; exact owns_zero (by rw [hv0]; rfl)) (fun env' h' y ⟨e1, e2, e3⟩ => by subst e1; subst e2; subst e3; exact next)

/-- A slice in a box's cell gets a row's name of its own. -/
theorem Run.holdBoxRow {k : List Item} (id j q z : Nat) {e sz n : Nat} {get : Nat → Nat → AV} {t : TypeId} {l l2 : List AV} (hb : h id = .box t l) (hj : l[j]? = some (.row z)) (hz : h z = .row e sz n get) (hne : Nat.beq z q = false) (hqi : Nat.beq id q = false) (hl2 : l2 = (l.map (scrub q)).set j (.row q))
    (hr : Run C k (scrubE q env) (upd (upd (upd (scrubH q h) z .dead) q (.row e sz n get)) id (.box t l2))) : Run C k env h :=
  ⟨fun ι a w b cs hbf hkd R => by
    have hiq : id ≠ q := fun e0 => by subst e0; simp at hqi
    have hiz : id ≠ z := fun e0 => by subst e0; rw [hb] at hz; cases hz
    have ho := R.obj z
    rw [hz] at ho
    have hlz : h z ≠ .dead := by rw [hz]; simp
    obtain ⟨xs, hown, h1, hc⟩ := ho
    obtain ⟨R', hok', hS'⟩ := R.make q z (.row e sz n get) (ι z 0) w (Below.refl _ _) (fun _ _ => rfl) (fun _ _ _ _ _ _ => rfl) (R.one z 0) (fun g hg => R.base z hlz g (owns_zero hg))
      (fun g hg hok => hok.2.2 z hlz (owns_zero hg)) (fun id _ hid hl g hg e' => R.apart id z hl hlz hid g hg (owns_zero e'))
      (fun ok r hok hS hrr => ⟨xs, hown, h1, fun i j hi hj => by
        obtain ⟨cv, c1, c3⟩ := hc i j hi hj
        exact ⟨cv, c1, VR.mono hok (fun _ _ => rfl) _ _ _ _ (fun _ _ h => h) c3⟩⟩)
    have hbx : (upd (upd (scrubH q h) z .dead) q (.row e sz n get)) id = .box t (l.map (scrub q)) := by
      rw [upd_other _ _ hiq, upd_other _ _ hiz]
      show scrubM q (h id) = _
      rw [hb]; rfl
    have hbr := R.obj id
    rw [hb] at hbr
    have hbr2 := R'.obj id
    rw [hbx] at hbr2
    refine hr.run (upd ι q (fun _ => ι z 0)) a w b cs hbf hkd (R'.set id (.box t l2) w (Below.refl _ _) (by rw [hbx]; simp) (fun _ _ _ => rfl) (by rw [hbx]; trivial) (fun r ok hrr hok _ => ?_))
    obtain ⟨g0, cs0, e1, e2, e3, e4⟩ := hbr
    obtain ⟨g1, cs1, f1, f2, f3, f4⟩ := hbr2
    have hio : upd ι q (fun _ => ι z 0) id = ι id := upd_other _ _ hiq
    have hg : g1 = g0 := by rw [hio] at f1; rw [e1] at f1; cases f1; rfl
    subst hg
    have hcs : cs1 = cs0 := by rw [e2] at f2; cases f2; rfl
    subst hcs
    refine ⟨g1, cs1, f1, f2, by rw [f3, hl2]; simp, fun i x hx => ?_⟩
    subst hl2
    by_cases hij : i = j
    · subst hij
      obtain ⟨cv, c1, c2, c3⟩ := e4 i (.row z) hj
      rw [List.getElem?_set_self (by
        rw [List.length_map]
        rcases Nat.lt_or_ge i l.length with h' | h'
        · exact h'
        · rw [List.getElem?_eq_none h'] at hj; cases hj)] at hx
      cases hx
      refine ⟨cv, c1, c2, hrr _ _ ?_⟩
      show cv = upd ι q (fun _ => ι z 0) q 0
      rw [upd_same]; exact c3
    · rw [List.getElem?_set_ne (fun e0 => hij e0.symm)] at hx
      obtain ⟨cv, c1, c2, c3⟩ := f4 i x hx
      exact ⟨cv, c1, c2, VR.mono hok (fun _ _ => rfl) _ _ _ _ hrr c3⟩⟩
theorem Run.holdBoxNil {k : List Item} (id j q e sz : Nat) (get : Nat → Nat → AV) {t : TypeId} {l l2 : List AV} (hb : h id = .box t l) (hj : l[j]? = some .nils) (hqi : Nat.beq id q = false) (hl2 : l2 = (l.map (scrub q)).set j (.row q))
    (hr : Run C k (scrubE q env) (upd (upd (upd (scrubH q h) q .dead) q (.row e sz 0 get)) id (.box t l2))) : Run C k env h :=
  ⟨fun ι a w b cs hbf hkd R => by
    have hiq : id ≠ q := fun e0 => by subst e0; simp at hqi
    obtain ⟨R', hok', hS'⟩ := R.make q q (.row e sz 0 get) (.slice none 0 0) w (Below.refl _ _) (fun _ _ => rfl) (fun _ _ _ _ _ _ => rfl) rfl (fun g hg => by cases hg)
      (fun g hg => by cases hg) (fun id _ _ _ g hg e' => by cases e')
      (fun ok r hok hS hrr => ⟨[], World.ownsRow_nil w C.B e sz, by simp, fun i j hi => by omega⟩)
    have hbx : (upd (upd (scrubH q h) q .dead) q (.row e sz 0 get)) id = .box t (l.map (scrub q)) := by
      rw [upd_other _ _ hiq, upd_other _ _ hiq]
      show scrubM q (h id) = _
      rw [hb]; rfl
    have hbr := R.obj id
    rw [hb] at hbr
    have hbr2 := R'.obj id
    rw [hbx] at hbr2
    refine hr.run (upd ι q (fun _ => .slice none 0 0)) a w b cs hbf hkd (R'.set id (.box t l2) w (Below.refl _ _) (by rw [hbx]; simp) (fun _ _ _ => rfl) (by rw [hbx]; trivial) (fun r ok hrr hok _ => ?_))
    obtain ⟨g0, cs0, e1, e2, e3, e4⟩ := hbr
    obtain ⟨g1, cs1, f1, f2, f3, f4⟩ := hbr2
    have hio : upd ι q (fun _ => .slice none 0 0) id = ι id := upd_other _ _ hiq
    have hg : g1 = g0 := by rw [hio] at f1; rw [e1] at f1; cases f1; rfl
    subst hg
    have hcs : cs1 = cs0 := by rw [e2] at f2; cases f2; rfl
    subst hcs
    refine ⟨g1, cs1, f1, f2, by rw [f3, hl2]; simp, fun i x hx => ?_⟩
    subst hl2
    by_cases hij : i = j
    · subst hij
      obtain ⟨cv, c1, c2, c3⟩ := e4 i .nils hj
      rw [List.getElem?_set_self (by
        rw [List.length_map]
        rcases Nat.lt_or_ge i l.length with h' | h'
        · exact h'
        · rw [List.getElem?_eq_none h'] at hj; cases hj)] at hx
      cases hx
      refine ⟨cv, c1, c2, hrr _ _ ?_⟩
      show cv = upd ι q (fun _ => .slice none 0 0) q 0
      rw [upd_same]; exact c3
    · rw [List.getElem?_set_ne (fun e0 => hij e0.symm)] at hx
      obtain ⟨cv, c1, c2, c3⟩ := f4 i x hx
      exact ⟨cv, c1, c2, VR.mono hok (fun _ _ => rfl) _ _ _ _ hrr c3⟩⟩
end

/-! ### strings.Builder: what a call of WriteString leaves -/
theorem bt_app (a b : ByteArray) (i : Nat) : bt (a ++ b) i = if i < a.size then bt a i else bt b (i - a.size) := by
  unfold bt
  have h1 : (a ++ b).data.toList = a.data.toList ++ b.data.toList := by simp
  rw [h1]
  by_cases h : i < a.size
  · rw [if_pos h, List.getD, List.getD, List.getElem?_append_left (by simpa using h)]
  · rw [if_neg h, List.getD, List.getD, List.getElem?_append_right (by simpa using h)]
    simp
/-- A text's bytes, as a row. -/
def bytesG (t : ByteArray) : Nat → Nat → AV := fun i _ => .int .u8 (bt t i)
def scrW (q : Nat) (x : AV) : AV := scrub q (scrub 14 (scrub 901 (scrub 900 x)))
def scrWM (q : Nat) (m : MO) : MO := scrubM q (scrubM 14 (scrubM 901 (scrubM 900 m)))
def envW (q : Nat) (env : Env) : Env := fun i => scrW q (env i)
def heapW (q : Nat) (h : Heap) : Heap := upd (upd (upd (fun id => scrWM q (h id)) 14 .dead) 901 .dead) 900 .dead
/-- A builder: its box, its row (of element type e). -/
def bldr (B e id q : Nat) (h : Heap) (p : AV) (t : ByteArray) : Heap := upd (upd h q (.row e 1 t.size (bytesG t))) id (.box B [p, .row q])
theorem bytesG_join (e : Nat) (t s : ByteArray) : MOle (.row e 1 (t.size + s.size) (joinRow t.size (bytesG t) (fun i _ => .int .u8 (bt s i)))) (.row e 1 (t ++ s).size (bytesG (t ++ s))) := by
  refine ⟨rfl, rfl, by simp, fun i j hi hj => ?_⟩
  unfold joinRow bytesG
  rw [bt_app]
  by_cases hc : i < t.size
  · rw [if_pos hc, if_pos hc]; exact Le.refl _
  · rw [if_neg hc, if_neg hc]; exact Le.refl _
theorem mole_dead (m : MO) : MOle m .dead := by cases m <;> trivial
theorem Run.bldr {C : Ctx} {k : List Item} {env : Env} {h : Heap} (B e id q : Nat) (p : AV) (t : ByteArray) (h1 : MOle (h id) (.box B [p, .row q])) (h2 : MOle (h q) (.row e 1 t.size (bytesG t))) (next : Run C k env (bldr B e id q h p t)) : Run C k env h := by
  refine Run.weaken (fun _ => Le.refl _) (fun i => ?_) next
  unfold V.bldr
  by_cases hi : i = id
  · subst hi; rw [upd_same]; exact h1
  · rw [upd_other _ _ hi]
    by_cases hj : i = q
    · subst hj; rw [upd_same]; exact h2
    · rw [upd_other _ _ hj]; exact MOle.refl _

/-! ### slots and objects told anew, each looked at -/
def fvs : List AV → (List AV → Prop) → Prop
  | [], K => K []
  | x :: r, K => fv x fun x => fvs r fun l => K (x :: l)
theorem fvs_eq : ∀ (l : List AV) (K : List AV → Prop), fvs l K = K l
  | [], _ => rfl
  | x :: r, K => by unfold fvs; rw [fv_eq, fvs_eq r]
def fm (m : MO) (K : MO → Prop) : Prop := match m with
  | .dead => K .dead
  | .box t l => fvs l fun l => K (.box t l)
  | .row e sz n get => K (.row e sz n get)
  | .iter s p => K (.iter s p)
  | .mp m => K (.mp m)
  | .frame vs E => K (.frame vs E)
  | .mat e sz n get0 o ei szi len get hole => K (.mat e sz n get0 o ei szi len get hole)
theorem fm_eq (m : MO) (K : MO → Prop) : fm m K = K m := by
  cases m <;> first | rfl | exact fvs_eq _ _
def aforceH (h : Heap) : List Nat → (List (Nat × MO) → Prop) → Prop
  | [], K => K []
  | i :: r, K => fm (h i) fun x => aforceH h r fun l => K ((i, x) :: l)
theorem aforceH_ok {h : Heap} : ∀ (ks : List Nat) {K : List (Nat × MO) → Prop}, aforceH h ks K → ∃ l, fitsH h l ∧ K l
  | [], K, hk => ⟨[], trivial, hk⟩
  | i :: r, K, hk => by
    unfold aforceH at hk
    rw [fm_eq] at hk
    obtain ⟨l, h1, h2⟩ := aforceH_ok r hk
    exact ⟨(i, h i) :: l, ⟨MOle.refl _, h1⟩, h2⟩
theorem Run.tidy {C : Ctx} {k : List Item} {env : Env} {h : Heap} (ks hs : List Nat) (hr : aforce env ks fun l => aforceH h hs fun lh => Run C k (lst l) (lstH lh)) : Run C k env h := by
  obtain ⟨l, hl, hr⟩ := aforce_ok ks hr
  obtain ⟨lh, hlh, hr⟩ := aforceH_ok hs hr
  exact Run.to _ _ hl hlh hr
end Go.Proofs.YtfodjmemdkibpaaDoor.V
