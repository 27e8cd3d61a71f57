/-
Words for proofs by hand: loops, joins, forgetting, lists as rows.
-/
import Derived.Test.YtfodjmemdkibpaaDoorVk
namespace Go.Proofs.YtfodjmemdkibpaaDoor.V
open Go Go.RowKit
set_option linter.unusedSimpArgs false
set_option linter.unusedVariables false

theorem AskB.dec {p : Prop} [Decidable p] {X Y : Prop} (t : p → X) (f : ¬ p → Y) : AskB (decide p) X Y := ⟨fun h => t (of_decide_eq_true h), fun h => f (of_decide_eq_false h)⟩
theorem AskB.ndec {p : Prop} [Decidable p] {X Y : Prop} (t : p → Y) (f : ¬ p → X) : AskB (!decide p) X Y :=
  ⟨fun h => f (of_decide_eq_false (by simpa using h)), fun h => t (of_decide_eq_true (by simpa using h))⟩

/-! ### forgetting -/
def MOle : MO → MO → Prop
  | .row e sz n g, .row e' sz' n' g' => e = e' ∧ sz = sz' ∧ n = n' ∧ ∀ i j, i < n → j < sz → Le (g i j) (g' i j)
  | .box t l, .box t' l' => t = t' ∧ l.length = l'.length ∧ ∀ (j : Nat) x y, l[j]? = some x → l'[j]? = some y → Le x y
  | .iter s p, .iter s' p' => s = s' ∧ p = p'
  | .mp m, .mp m' => m = m'
  | .frame vs E, .frame vs' E' => vs = vs' ∧ ∀ i, Le (E i) (E' i)
  | .mat e sz n g0 o ei szi len g hole, .mat e' sz' n' g0' o' ei' szi' len' g' hole' => e = e' ∧ sz = sz' ∧ n = n' ∧ o = o' ∧ ei = ei' ∧ szi = szi' ∧ hole = hole' ∧ (∀ i j, i < n → j < sz → j ≠ o → Le (g0 i j) (g0' i j)) ∧
      (∀ i, i < n → hole ≠ some i → len i = len' i ∧ ∀ a b, a < len i → b < szi → Le (g i a b) (g' i a b))
  | _, .dead => True
  | _, _ => False

theorem MOle.refl (m : MO) : MOle m m := by
  cases m with
  | dead => trivial
  | box t l => exact ⟨rfl, rfl, fun j x y hx hy => by rw [hx] at hy; cases hy; exact Le.refl _⟩
  | row e sz n g => exact ⟨rfl, rfl, rfl, fun _ _ _ _ => Le.refl _⟩
  | iter s p => exact ⟨rfl, rfl⟩
  | mp m => rfl
  | frame vs E => exact ⟨rfl, fun i => Le.refl _⟩
  | mat => exact ⟨rfl, rfl, rfl, rfl, rfl, rfl, rfl, fun _ _ _ _ _ => Le.refl _, fun _ _ _ => ⟨rfl, fun _ _ _ _ => Le.refl _⟩⟩

theorem MOle.kept {C : Ctx} {w : World} {ok ok' : Nat → Prop} {r r' : Ref} {m m' : MO} {v : Nat → Value} (hle : MOle m m') (hok : ∀ b, ok b → ok' b) (hr : ∀ x v, r x v → r' x v) (hm : MR C.B w ok r m v) : MR C.B w ok' r' m' v := by
  cases m' with
  | dead => trivial
  | box t' l' =>
    cases m with
    | box t l =>
      obtain ⟨rfl, hl, hx⟩ := hle
      obtain ⟨g, cs, e, hg, hs, hc⟩ := hm
      refine ⟨g, cs, e, hg, by omega, fun j y hy => ?_⟩
      have hj : j < l.length := by
        rcases Nat.lt_or_ge j l.length with h' | h'
        · exact h'
        · rw [List.getElem?_eq_none (by omega)] at hy; cases hy
      obtain ⟨cv, c1, c2, c3⟩ := hc j l[j] (List.getElem?_eq_getElem hj)
      exact ⟨cv, c1, c2, VR.mono hok (fun _ _ => rfl) _ _ _ _ hr (hx j _ _ (List.getElem?_eq_getElem hj) hy _ _ _ _ c3)⟩
    | _ => exact False.elim hle
  | row e' sz' n' g' =>
    cases m with
    | row e sz n g =>
      obtain ⟨rfl, rfl, rfl, hx⟩ := hle
      obtain ⟨xs, ho, h1, hc⟩ := hm
      refine ⟨xs, ho, h1, fun i j hi hj => ?_⟩
      obtain ⟨cv, c1, c3⟩ := hc i j hi hj
      exact ⟨cv, c1, VR.mono hok (fun _ _ => rfl) _ _ _ _ (fun _ _ h => h) (hx i j hi hj _ _ _ _ c3)⟩
    | _ => exact False.elim hle
  | iter s' p' =>
    cases m with
    | iter s p => obtain ⟨rfl, rfl⟩ := hle; exact hm
    | _ => exact False.elim hle
  | mp m' =>
    cases m with
    | mp m => cases hle; exact hm
    | _ => exact False.elim hle
  | frame vs' E' =>
    cases m with
    | frame vs E =>
      obtain ⟨rfl, hE⟩ := hle
      exact fun i => hE i _ _ _ _ (VR.mono hok (fun _ _ => rfl) _ _ _ _ hr (hm i))
    | _ => exact False.elim hle
  | mat e' sz' n' g0' o' ei' szi' len' g' hole' =>
    cases m with
    | mat e sz n g0 o ei szi len g hole =>
      obtain ⟨rfl, rfl, rfl, rfl, rfl, rfl, rfl, hx0, hx⟩ := hle
      obtain ⟨ho, ⟨xs, hxs, h1, hc0, hin⟩, hrows, hap⟩ := hm
      refine ⟨ho, ⟨xs, hxs, h1, fun i j hi hj hne => ?_, hin⟩, fun i hi hh => ?_, hap⟩
      · obtain ⟨cv, c1, c3⟩ := hc0 i j hi hj hne
        exact ⟨cv, c1, VR.mono hok (fun _ _ => rfl) _ _ _ _ (fun _ _ h => h) (hx0 i j hi hj hne _ _ _ _ c3)⟩
      · obtain ⟨h2, ys, hy, hy1, hyc⟩ := hrows i hi hh
        obtain ⟨e1, e2⟩ := hx i hi hh
        refine ⟨h2, ys, by rw [← e1]; exact hy, hy1, fun a b ha hb => ?_⟩
        rw [← e1] at ha
        obtain ⟨u, u1, u3⟩ := hyc a b ha hb
        exact ⟨u, u1, VR.mono hok (fun _ _ => rfl) _ _ _ _ (fun _ _ h => h) (e2 a b ha hb _ _ _ _ u3)⟩
    | _ => exact False.elim hle

theorem MOle.owns {m m' : MO} (hle : MOle m m') {v : Nat → Value} {g : Nat} (hd : m' ≠ .dead) : owns m' v g ↔ owns m v g := by
  cases m' <;> first | exact absurd rfl hd | (cases m <;> first | exact False.elim hle | exact Iff.rfl | (obtain ⟨rfl, rfl, rfl, rfl, rfl, rfl, rfl, _⟩ := hle; exact Iff.rfl))

section
variable {C : Ctx} {env env' : Env} {h h' : Heap} {ι : Loc} {a : Act} {w : World}

theorem rf_le (hh : ∀ id, MOle (h id) (h' id)) : ∀ x v, rf h ι x v → rf h' ι x v := by
  intro x v hx
  cases x with
  | radr id sz i j =>
    obtain ⟨g, n, c, h1, h2, h3⟩ := hx
    refine ⟨g, n, c, h1, h2, ?_⟩
    have := hh id
    cases hq : h' id <;> first
      | trivial
      | (cases hp : h id <;> rw [hp, hq] at this <;> rw [hp] at h3 <;> first
          | exact False.elim this
          | (obtain ⟨_, e3, e4, _⟩ := this; exact ⟨e3 ▸ h3.1, e4 ▸ h3.2⟩))
  | mrow id i =>
    obtain ⟨h1, h3⟩ := hx
    refine ⟨h1, ?_⟩
    have := hh id
    cases hq : h' id <;> first
      | trivial
      | (cases hp : h id <;> rw [hp, hq] at this <;> rw [hp] at h3 <;> first
          | exact False.elim this
          | (obtain ⟨rfl, rfl, rfl, rfl, rfl, rfl, rfl, _⟩ := this; exact h3))
  | madr id i sz a b =>
    obtain ⟨g, n, c, h1, h2, h3⟩ := hx
    refine ⟨g, n, c, h1, h2, ?_⟩
    have := hh id
    cases hq : h' id <;> first
      | trivial
      | (cases hp : h id <;> rw [hp, hq] at this <;> rw [hp] at h3 <;> first
          | exact False.elim this
          | (obtain ⟨rfl, rfl, rfl, rfl, rfl, rfl, rfl, _, hx⟩ := this; exact ⟨h3.1, h3.2.1, h3.2.2.1, (hx i h3.2.1 h3.2.2.1).1 ▸ h3.2.2.2⟩))
  | row id => exact hx
  | box id off => exact hx
  | obj id => exact hx
  | _ => exact absurd hx (by simp [rf])

theorem Rel.weaken (R : Rel C env h ι a w) (he : ∀ i, Le (env i) (env' i)) (hh : ∀ id, MOle (h id) (h' id)) : Rel C env' h' ι a w := by
  have hdead : ∀ id, h' id ≠ .dead → h id ≠ .dead := by
    intro id hl e
    have := hh id
    rw [e] at this
    cases hq : h' id with
    | dead => exact hl hq
    | _ => rw [hq] at this; exact False.elim this
  have hr := rf_le (ι := ι) hh
  have hok : ∀ b, okB C h ι w b → okB C h' ι w b := fun b hb => ⟨hb.1, hb.2.1, fun id hl hg => hb.2.2 id (hdead id hl) (((hh id).owns hl).mp hg)⟩
  constructor
  · exact R.below
  · exact R.defers
  · exact R.size
  · exact fun i => VR.mono hok (fun _ _ => rfl) _ _ _ _ hr (he i _ _ _ _ (R.env i))
  · exact fun id => MOle.kept (hh id) hok hr (R.obj id)
  · exact R.one
  · exact fun id hl g hg => R.base id (hdead id hl) g (((hh id).owns hl).mp hg)
  · exact fun id id' hl hl' hne g hg hg' => R.apart id id' (hdead id hl) (hdead id' hl') hne g (((hh id).owns hl).mp hg) (((hh id').owns hl').mp hg')

theorem Run.weaken {k : List Item} (he : ∀ i, Le (env i) (env' i)) (hh : ∀ id, MOle (h id) (h' id)) (hr : Run C k env' h') : Run C k env h :=
  ⟨fun ι a w b cs hb hkd R => hr.run ι a w b cs hb hkd (R.weaken he hh)⟩

/-- Slots, and objects, written out. -/
def lst (l : List (Nat × AV)) : Env := fun i => match l with
  | [] => .u
  | p :: l => cond (Nat.beq i p.1) p.2 (lst l i)
def lstH (l : List (Nat × MO)) : Heap := fun i => match l with
  | [] => .dead
  | p :: l => cond (Nat.beq i p.1) p.2 (lstH l i)

def fits (env : Env) : List (Nat × AV) → Prop
  | [] => True
  | p :: l => fv (env p.1) (fun x => Le x p.2) ∧ fits env l
def fitsH (h : Heap) : List (Nat × MO) → Prop
  | [] => True
  | p :: l => MOle (h p.1) p.2 ∧ fitsH h l

theorem fits_le : ∀ {l : List (Nat × AV)}, fits env l → ∀ i, Le (env i) (lst l i)
  | [], _, i => Le.u _
  | p :: l, hf, i => by
    obtain ⟨h1, h2⟩ := hf
    rw [fv_eq] at h1
    unfold lst
    cases hb : Nat.beq i p.1 with
    | true => have := Nat.eq_of_beq_eq_true hb; subst this; exact h1
    | false => exact fits_le h2 i
theorem fitsH_le : ∀ {l : List (Nat × MO)}, fitsH h l → ∀ i, MOle (h i) (lstH l i)
  | [], _, i => by cases h i <;> trivial
  | p :: l, hf, i => by
    obtain ⟨h1, h2⟩ := hf
    unfold lstH
    cases hb : Nat.beq i p.1 with
    | true => have := Nat.eq_of_beq_eq_true hb; subst this; exact h1
    | false => exact fitsH_le h2 i

theorem Run.to {k : List Item} (l : List (Nat × AV)) (lh : List (Nat × MO)) (he : fits env l) (hh : fitsH h lh) (hr : Run C k (lst l) (lstH lh)) : Run C k env h :=
  Run.weaken (fits_le he) (fitsH_le hh) hr

/-- The slots that stay through a loop, each looked at, and the ones that it turns. -/
def aforce (env : Env) : List Nat → (List (Nat × AV) → Prop) → Prop
  | [], K => K []
  | i :: r, K => fv (env i) fun x => aforce env r fun l => K ((i, x) :: l)
theorem aforce_ok : ∀ (ks : List Nat) {K : List (Nat × AV) → Prop}, aforce env ks K → ∃ l, fits env l ∧ K l
  | [], K, h => ⟨[], trivial, h⟩
  | i :: r, K, h => by
    unfold aforce at h
    rw [fv_eq] at h
    obtain ⟨l, h1, h2⟩ := aforce_ok r h
    exact ⟨(i, env i) :: l, ⟨by rw [fv_eq]; exact Le.refl _, h1⟩, h2⟩
theorem fits_append : ∀ {l1 l2 : List (Nat × AV)}, fits env l1 → fits env l2 → fits env (l1 ++ l2)
  | [], _, _, h => h
  | _ :: _, _, h1, h2 => ⟨h1.1, fits_append h1.2 h2⟩

/-- A loop: what holds at its head, for each state of its own; a measure goes down. -/
theorem Run.loop {α : Type} {k : List Item} (ks : List Nat) (E : α → List (Nat × AV)) (H : α → List (Nat × MO)) (I : α → Prop) (μ : α → Nat) (a0 : α) (h0 : I a0)
    (he : fits env (E a0)) (hh : fitsH h (H a0))
    (round : aforce env ks fun l => ∀ a, I a → (∀ a', μ a' < μ a → I a' → Run C k (lst (l ++ E a')) (lstH (H a'))) → Run C k (lst (l ++ E a)) (lstH (H a))) : Run C k env h := by
  obtain ⟨l, hl, round⟩ := aforce_ok ks round
  have key : ∀ (n : Nat) (a : α), μ a = n → I a → Run C k (lst (l ++ E a)) (lstH (H a)) := by
    intro n
    induction n using Nat.strongRecOn with
    | _ n ih =>
      intro a hn hI
      exact round a hI fun a' hlt hI' => ih (μ a') (hn ▸ hlt) a' rfl hI'
  exact Run.to _ _ (fits_append hl he) hh (key _ a0 rfl h0)

/-- The slots told anew, each looked at. -/
theorem Run.fresh {k : List Item} (ks : List Nat) (lh : List (Nat × MO)) (hh : fitsH h lh) (hr : aforce env ks fun l => Run C k (lst l) (lstH lh)) : Run C k env h := by
  obtain ⟨l, hl, hr⟩ := aforce_ok ks hr
  exact Run.to _ _ hl hh hr
end

/-! ### numbers -/
theorem wrap64 {x : Int} (h1 : -9223372036854775808 ≤ x) (h2 : x ≤ 9223372036854775807) : IntKind.i64.wrap x = x := IntWalk.i64_in x ⟨h1, h2⟩
theorem Le.int {k : IntKind} {x y : Int} (h : x = y) : Le (.int k x) (.int k y) := h ▸ Le.refl _
theorem Le.wrap64 {x y : Int} (h1 : -9223372036854775808 ≤ x) (h2 : x ≤ 9223372036854775807) (h : x = y) : Le (.int .i64 (IntKind.i64.wrap x)) (.int .i64 y) := by
  rw [V.wrap64 h1 h2, h]; exact Le.refl _
theorem Le.bool {x y : Bool} (h : x = y) : Le (.bool x) (.bool y) := h ▸ Le.refl _
theorem Le.str {x y : ByteArray} (h : x = y) : Le (.str x) (.str y) := h ▸ Le.refl _

theorem bytes_le {n b : Nat} (hb : Nat.ble b 4096 = true) (hn : n ≤ 34359738368) : n * b ≤ 140737488355328 := by
  have h1 : b ≤ 4096 := Nat.ble_eq ▸ hb
  exact Nat.le_trans (Nat.mul_le_mul hn h1) (by decide)

/-! ### lists -/
structure Ty (α : Type) where
  sz : Nat
  enc : α → Nat → AV
  z : α
def Ty.G {α : Type} (T : Ty α) (l : List α) : Nat → Nat → AV := fun i j => T.enc (l.getD i T.z) j
def Ty.L {α : Type} (T : Ty α) (l : List α) : AV := .sl l.length T.sz (T.G l)
def Ty.R {α : Type} (T : Ty α) (e : Nat) (l : List α) : MO := .row e T.sz l.length (T.G l)

theorem Ty.nil {α : Type} (T : Ty α) : Le .nils (T.L []) := Le.nils _ _
theorem Ty.join {α : Type} (T : Ty α) (e : Nat) (l x : List α) (n m : Nat) (c g : Nat → Nat → AV) (hn : n = l.length) (hm : m = x.length) (hg : ∀ i j, i < n → j < T.sz → Le (g i j) (T.G l i j)) (hc : ∀ i j, i < m → j < T.sz → Le (c i j) (T.G x i j)) :
    MOle (.row e T.sz (n + m) (joinRow n g c)) (T.R e (l ++ x)) := by
  subst hn; subst hm
  refine ⟨rfl, rfl, by simp, fun i j hi hj => ?_⟩
  unfold joinRow Ty.G
  by_cases hil : i < l.length
  · rw [if_pos hil]
    have : (l ++ x).getD i T.z = l.getD i T.z := by simp [List.getD, List.getElem?_append_left hil]
    rw [this]; exact hg i j hil hj
  · rw [if_neg hil]
    have : (l ++ x).getD i T.z = x.getD (i - l.length) T.z := by simp [List.getD, List.getElem?_append_right (Nat.le_of_not_lt hil)]
    rw [this]; exact hc _ j (by omega) hj
theorem Ty.push {α : Type} (T : Ty α) (e : Nat) (l : List α) (x : α) (c : Nat → Nat → AV) (hc : ∀ j, j < T.sz → Le (c 0 j) (T.enc x j)) : MOle (.row e T.sz (l.length + 1) (joinRow l.length (T.G l) c)) (T.R e (l ++ [x])) :=
  T.join e l [x] _ _ _ _ rfl rfl (fun _ _ _ _ => Le.refl _) (fun i j hi hj => by
    have : i = 0 := by simp at hi; omega
    subst this; exact hc j hj)
theorem Ty.set {α : Type} (T : Ty α) (e : Nat) (l : List α) (i : Nat) (x : α) (hi : i < l.length) (cs : List AV) (hcs : cs.length = T.sz) (hc : ∀ (j : Nat) y, cs[j]? = some y → Le y (T.enc x j)) :
    MOle (.row e T.sz l.length (updRow (T.G l) i 0 cs)) (T.R e (l.set i x)) := by
  refine ⟨rfl, rfl, by simp, fun i' j hi' hj => ?_⟩
  unfold updRow Ty.G
  by_cases hii : i' = i
  · subst hii
    rw [if_pos ⟨rfl, Nat.zero_le _, by omega⟩]
    have : (l.set i' x).getD i' T.z = x := by simp [List.getD, hi]
    rw [this, Nat.sub_zero]
    have hj2 : j < cs.length := by omega
    rw [List.getD, List.getElem?_eq_getElem hj2]
    exact hc j _ (List.getElem?_eq_getElem hj2)
  · rw [if_neg (fun h => hii h.1)]
    have : (l.set i x).getD i' T.z = l.getD i' T.z := by simp [List.getD, List.getElem?_set_ne (Ne.symm hii)]
    rw [this]; exact Le.refl _

def tI : Ty Int := ⟨1, fun x _ => .int .i64 x, 0⟩
def tB : Ty Bool := ⟨1, fun x _ => .bool x, false⟩
def tS : Ty ByteArray := ⟨1, fun x _ => .str x, ByteArray.empty⟩

/-! ### rows under a name of their own -/
section
variable {C : Ctx} {env : Env} {h : Heap}
theorem Run.hold {k : List Item} (s q : Nat) {z e sz n : Nat} {get : Nat → Nat → AV} (hs : env s = .row z) (hz : h z = .row e sz n get) (hne : Nat.beq z q = false)
    (hr : Run C k (upd (scrubE q env) s (.row q)) (upd (upd (scrubH q h) z .dead) q (.row e sz n get))) : Run C k env h :=
  ⟨fun ι a w b cs hb hkd R => by
    have ho := R.obj z
    rw [hz] at ho
    have hlz : h z ≠ .dead := by rw [hz]; simp
    obtain ⟨xs, hown, h1, hc⟩ := ho
    have R' := (R.make q z (.row e sz n get) (ι z 0) w (Below.refl _ _) (fun _ _ => rfl) (fun _ _ _ _ _ _ => rfl) (R.one z 0) (fun g hg => R.base z hlz g (owns_zero hg))
      (fun g hg hok => hok.2.2 z hlz (owns_zero hg)) (fun id _ hid hl g hg e' => R.apart id z hl hlz hid g hg (owns_zero e'))
      (fun ok r hok hS hrr => ⟨xs, hown, h1, fun i j hi hj => by
        obtain ⟨cv, c1, c3⟩ := hc i j hi hj
        exact ⟨cv, c1, VR.mono hok (fun _ _ => rfl) _ _ _ _ (fun _ _ h => h) c3⟩⟩)).1
    refine hr.run (upd ι q (fun _ => ι z 0)) a w b cs hb hkd (R'.env_ (fun i => ?_))
    by_cases hi : i = s
    · subst hi
      rw [upd_same]
      have hv := R.env i
      rw [hs] at hv
      show _ = upd ι q (fun _ => ι z 0) q 0
      rw [upd_same]; exact hv
    · rw [upd_other _ _ hi]; exact R'.env i⟩

/-- A row of empty slices, told as nested rows. -/
theorem Run.asMat {k : List Item} (id o ei szi : Nat) {e sz n : Nat} {get : Nat → Nat → AV} (hh : h id = .row e sz n get) (ho : o < sz) (hn : ∀ i, i < n → get i o = .nils)
    (hr : Run C k (scrubIE id env) (upd (upd (scrubIH id h) id .dead) id (.mat e sz n get o ei szi (fun _ => 0) (fun _ _ _ => .u) none))) : Run C k env h :=
  ⟨fun ι a w b cs hb hkd R => hr.run _ a w b cs hb hkd (R.asMat id o ei szi hh ho hn)⟩

theorem Run.holdNil {k : List Item} (s q e sz : Nat) (get : Nat → Nat → AV) (hs : env s = .nils)
    (hr : Run C k (upd (scrubE q env) s (.row q)) (upd (upd (scrubH q h) q .dead) q (.row e sz 0 get))) : Run C k env h :=
  ⟨fun ι a w b cs hb hkd R => by
    have R' := (R.make q q (.row e sz 0 get) (.slice none 0 0) w (Below.refl _ _) (fun _ _ => rfl) (fun _ _ _ _ _ _ => rfl) rfl (fun g hg => by cases hg)
      (fun g hg => by cases hg) (fun id _ _ _ g hg e' => by cases e')
      (fun ok r hok hS hrr => ⟨[], World.ownsRow_nil w C.B e sz, by simp, fun i j hi => by omega⟩)).1
    refine hr.run (upd ι q (fun _ => .slice none 0 0)) a w b cs hb hkd (R'.env_ (fun i => ?_))
    by_cases hi : i = s
    · subst hi
      rw [upd_same]
      have hv := R.env i
      rw [hs] at hv
      show _ = upd ι q (fun _ => .slice none 0 0) q 0
      rw [upd_same]; exact hv
    · rw [upd_other _ _ hi]; exact R'.env i⟩
end

end Go.Proofs.YtfodjmemdkibpaaDoor.V
