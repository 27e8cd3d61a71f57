/-
Nested rows: written, plugged, told as what they are.
-/
import Derived.Test.YtfodjmemdkibpaaDoorVq
namespace Go.Proofs.YtfodjmemdkibpaaDoor.V
open Go Go.RowKit
set_option linter.unusedSimpArgs false
set_option linter.unusedVariables false

/-- What leads into the inner rows of 'd' is forgotten. -/
def scrubI (d : Nat) : AV → AV
  | .mrow id i => cond (Nat.beq id d) .u (.mrow id i)
  | .madr id i sz a b => cond (Nat.beq id d) .u (.madr id i sz a b)
  | .agg n get => .agg n (fun j => scrubI d (get j))
  | .tup n get => .tup n (fun j => scrubI d (get j))
  | x => x
def scrubIE (d : Nat) (env : Env) : Env := fun i => scrubI d (env i)
def scrubIH (d : Nat) (h : Heap) : Heap := fun id => scrM (scrubI d) (h id)

theorem scrubI_scr (d : Nat) : Scr (scrubI d) := by
  refine ⟨fun _ _ => rfl, fun _ _ => rfl, fun x h1 h2 h3 => ?_⟩
  cases x <;> first
    | rfl
    | exact absurd rfl (h2 _ _)
    | exact absurd rfl (h3 _ _)
    | (exfalso; exact h1 (fun _ => .dead) (fun _ _ => .nilIface) _ ⟨rfl, trivial⟩)
    | (exfalso; exact h1 (fun _ => .dead) (fun _ _ => .slice (some ⟨0, 0, none⟩) 0 0) _ ⟨0, 0, 0, rfl, rfl, trivial⟩)

/-- What leads to 'd' from outside is as it was; the rest too, where nothing has been done. -/
theorem rf_scrubI {d z : Nat} {h h' : Heap} {ι ι' : Loc} (hι : ∀ id, id ≠ d → ι' id = ι id) (h0 : ι' d 0 = ι d 0) (hm : ∀ id, id ≠ d → h' id = .dead ∨ h' id = scrM (scrubI d) (h id))
    (hd : match h' d with | .row _ sz n _ => (match h d with | .row _ sz0 n0 _ => sz0 = sz ∧ n0 = n | .mat _ sz0 n0 _ _ _ _ _ _ _ => sz0 = sz ∧ n0 = n | _ => False) | .mat _ sz n _ _ _ _ _ _ _ => (match h d with | .row _ sz0 n0 _ => sz0 = sz ∧ n0 = n | .mat _ sz0 n0 _ _ _ _ _ _ _ => sz0 = sz ∧ n0 = n | _ => False) | _ => True)
    {w : World} {ok : Nat → Prop} {x : AV} {v : Value} (hr : rf h ι x v) : VR w ok (scrubI d x) (rf h' ι') v := by
  cases x with
  | row id =>
    by_cases e : id = d
    · subst e; exact (show v = ι id 0 from hr).trans h0.symm
    · exact (show v = ι id 0 from hr).trans (by rw [hι id e])
  | obj id =>
    by_cases e : id = d
    · subst e; exact (show v = ι id 0 from hr).trans h0.symm
    · exact (show v = ι id 0 from hr).trans (by rw [hι id e])
  | box id off =>
    obtain ⟨g, h1, h2⟩ := hr
    by_cases e : id = d
    · subst e; exact ⟨g, h0.trans h1, h2⟩
    · exact ⟨g, by rw [hι id e]; exact h1, h2⟩
  | radr id sz i j =>
    obtain ⟨g, n, c, h1, h2, h3⟩ := hr
    by_cases e : id = d
    · subst e
      refine ⟨g, n, c, h0.trans h1, h2, ?_⟩
      cases hq : h' id <;> rw [hq] at hd <;> first
        | trivial
        | (cases hp : h id <;> rw [hp] at hd h3 <;> first
            | exact hd.elim
            | (obtain ⟨e1, e2⟩ := hd; exact ⟨e1 ▸ h3.1, e2 ▸ h3.2⟩))
    · refine ⟨g, n, c, by rw [hι id e]; exact h1, h2, ?_⟩
      rcases hm id e with e2 | e2
      · rw [e2]; trivial
      · rw [e2]
        cases hq : h id <;> rw [hq] at h3 <;> first | trivial | exact h3
  | mrow id i =>
    by_cases e : id = d
    · subst e; simp [scrubI, VR]
    · simp only [scrubI, beq_ne e, cond_false, VR]
      refine ⟨hr.1.trans (by rw [hι id e]), ?_⟩
      have h3 := hr.2
      rcases hm id e with e2 | e2
      · rw [e2]; trivial
      · rw [e2]
        cases hq : h id <;> rw [hq] at h3 <;> first | trivial | exact h3
  | madr id i sz a b =>
    by_cases e : id = d
    · subst e; simp [scrubI, VR]
    · simp only [scrubI, beq_ne e, cond_false, VR]
      obtain ⟨g, n, c, h1, h2, h3⟩ := hr
      refine ⟨g, n, c, by rw [hι id e]; exact h1, h2, ?_⟩
      rcases hm id e with e2 | e2
      · rw [e2]; trivial
      · rw [e2]
        cases hq : h id <;> rw [hq] at h3 <;> first | trivial | exact h3
  | _ => exact absurd hr (by simp [rf])

/-- A store into a row that is one's own. -/
theorem own_store {P : Program} {t : TypeId} {i : TypeInfo} (hi : P.info? t = some i) {w : World} {B e sz n g cc off : Nat} {v u : Value} {xs : List Value} (hown : w.ownsRow B e sz v n xs) (hv : v = .slice (some ⟨g, 0, none⟩) n cc)
    (hsz : u.cells.size = P.cellsOf t) (hfit : off + u.cells.size ≤ n * sz) (h1 : ∀ z ∈ u.cells.toList, z.oneCell' = true) (hone : ∀ z ∈ xs, z.oneCell' = true) :
    ∃ cur', (Instr.storeAt t (.pointer (some ⟨g, off, none⟩)) u).run P w = .ok () (w.setRow g cur') ∧
      (w.setRow g cur').ownsRow B e sz v n (xs.take off ++ u.cells.toList ++ xs.drop (off + u.cells.toList.length)) ∧
      (∀ z ∈ xs.take off ++ u.cells.toList ++ xs.drop (off + u.cells.toList.length), z.oneCell' = true) ∧
      (∀ q, (xs.take off ++ u.cells.toList ++ xs.drop (off + u.cells.toList.length))[q]? = if off ≤ q ∧ q < off + u.cells.toList.length then u.cells.toList[q - off]? else xs[q]?) := by
  rcases hown.2 with ⟨hv2, hn0⟩ | ⟨g', cap, cur, hv2, hB, hg, hnc, hcap, hcs, htake⟩
  · rw [hv] at hv2; cases hv2
  · rw [hv] at hv2; cases hv2
    have hxl : xs.length = n * sz := hown.1
    have hn : n * sz ≤ cc * sz := Nat.mul_le_mul_right _ hnc
    have hul : u.cells.toList.length = u.cells.size := Array.length_toList
    have hthree : ∀ q, (xs.take off ++ u.cells.toList ++ xs.drop (off + u.cells.toList.length))[q]? = _ := fun q => getElem?_three xs u.cells.toList off q (by omega)
    refine ⟨_, run_storeVar_at hi hg (off := off) (v := u) hsz (by omega) h1, ⟨by simp; omega, .inr ⟨g, cc, _, hv, hB, setRow_heap w g cur _ e _ hg, hnc, hcap, by simp; omega, ?_⟩⟩, ?_, hthree⟩
    · rw [List.toList_toArray]
      apply List.ext_getElem?
      intro q
      rw [List.getElem?_take, hthree q, ← htake, List.getElem?_take]
      have h3 := getElem?_three cur.toList u.cells.toList off q (by simp; omega)
      rw [Array.length_toList] at h3
      rw [Array.length_toList]
      rw [h3]
      by_cases hq : q < n * sz
      · simp [hq]
      · rw [if_neg hq, if_neg (by omega), if_neg hq]
    · intro z hz
      obtain ⟨q, hq⟩ := List.getElem?_of_mem hz
      rw [hthree q] at hq
      split at hq
      · exact h1 z (List.mem_of_getElem? hq)
      · exact hone z (List.mem_of_getElem? hq)

def updIn {α : Type} (f : Nat → α) (i : Nat) (x : α) : Nat → α := fun k => if k = i then x else f k

/-- What is stored into nested rows. -/
def astoreM (P : TT) (t : TypeId) (x y : AV) (env : Env) (h : Heap) (K : Env → Heap → Prop) (stop : Prop) : Prop :=
  match P.underlying t with
  | some _ => (match x with
    | .madr id i sz a b => match h id, cellsAV y with
      | .mat e sz0 n get0 o ei szi len get hole, some l => cond (Nat.beq l.length (P.cellsOf t) && Nat.ble (b + l.length) sz && l.all noRef)
          (K env (upd h id (.mat e sz0 n get0 o ei szi len (updIn get i (updRow (get i) a b l)) hole))) stop
      | _, _ => stop
    | .radr id sz i j => match h id with
      | .mat e sz0 n get0 o ei szi len get hole => (match y with
        | .row q => match h q, hole with
          | .row eq szq m getq, none => cond (Nat.beq j o && Nat.beq (P.cellsOf t) 1 && Nat.beq eq ei && Nat.beq szq szi && !Nat.beq q id)
              (K (scrubIE id env) (upd (upd (scrubIH id h) q .dead) id (.mat e sz0 n get0 o ei szi (updIn len i m) (updIn get i getq) none))) stop
          | .row eq szq m getq, some i' => cond (Nat.beq j o && Nat.beq (P.cellsOf t) 1 && Nat.beq eq ei && Nat.beq szq szi && !Nat.beq q id)
              (Need (i' = i) (K (scrubIE id env) (upd (upd (scrubIH id h) q .dead) id (.mat e sz0 n get0 o ei szi (updIn len i m) (updIn get i getq) none)))) stop
          | _, _ => stop
        | y => match cellsAV y with
          | some l => cond (Nat.beq l.length (P.cellsOf t) && Nat.ble (j + l.length) sz && l.all noRef && (Nat.blt o j || Nat.ble (j + l.length) o))
              (K env (upd h id (.mat e sz0 n (updRow get0 i j l) o ei szi len get hole))) stop
          | none => stop)
      | _ => stop
    | _ => stop)
  | none => stop

section
variable {C : Ctx} {env : Env} {h : Heap} {ι : Loc} {a : Act} {w : World}

theorem cells_one (R : Rel C env h ι a w) {y : AV} {u : Value} {l : List AV} (hl : cellsAV y = some l) (hy : VR w (okB C h ι w) y (rf h ι) u) : ∀ z ∈ u.cells.toList, z.oneCell' = true := by
  obtain ⟨hs, hc⟩ := cellsAV_ok R hl hy
  intro z hz
  obtain ⟨j, hj⟩ := List.getElem?_of_mem hz
  have hjl : j < l.length := by
    rcases Nat.lt_or_ge j l.length with h' | h'
    · exact h'
    · rw [List.getElem?_eq_none (by rw [Array.length_toList, hs]; exact h')] at hj; cases hj
  obtain ⟨cv, c1, c2, _⟩ := hc j l[j] (List.getElem?_eq_getElem hjl)
  have : u.cells.toList[j]? = some cv := by simpa using c1
  rw [this] at hj; cases hj; exact c2

theorem store_madr (R : Rel C env h ι a w) {t : TypeId} {dt : TypeDesc} (hdt : C.T.underlying t = some dt) {id i sz p b e sz0 n o ei szi : Nat} {get0 : Nat → Nat → AV} {len : Nat → Nat} {get : Nat → Nat → Nat → AV} {hole : Option Nat} {y : AV} {v u : Value} {l : List AV}
    (hx : VR w (okB C h ι w) (.madr id i sz p b) (rf h ι) v) (hh : h id = .mat e sz0 n get0 o ei szi len get hole) (hy : VR w (okB C h ι w) y (rf h ι) u) (hl : cellsAV y = some l)
    (hsz : l.length = C.T.cellsOf t) (hle : b + l.length ≤ sz) (hnr : l.all noRef = true) :
    ∃ w', (Instr.storeAt t v u).run C.P w = .ok () w' ∧ Rel C env (upd h id (.mat e sz0 n get0 o ei szi len (updIn get i (updRow (get i) p b l)) hole)) ι a w' := by
  obtain ⟨hs, hc⟩ := cellsAV_ok R hl hy
  have h1 := cells_one R hl hy
  obtain ⟨inf, hi⟩ := info_some (C.und hdt)
  obtain ⟨g, nn, cc, e1, e2, h3⟩ := hx
  rw [hh] at h3
  obtain ⟨rfl, hin, hho, hp⟩ := h3
  have hlive : h id ≠ .dead := by rw [hh]; simp
  have ho := R.obj id
  rw [hh] at ho
  obtain ⟨hosz, ⟨xs, hxs, hx1, hc0, hinn⟩, hrows, hap⟩ := ho
  obtain ⟨hout, ys, hy0, hy1, hyc⟩ := hrows i hin hho
  have hul : u.cells.toList.length = l.length := by simp [hs]
  have hbl : blk (ι id (i + 1)) = some g := by rw [e1]; rfl
  have hv2 : ι id (i + 1) = .slice (some ⟨g, 0, none⟩) (len i) cc := by
    rcases hy0.2 with ⟨hv, _⟩ | ⟨g', cap, cur, hv, _⟩
    · rw [e1] at hv; cases hv
    · rw [e1] at hv; cases hv; exact e1
  have hfit : p * szi + b + u.cells.size ≤ len i * szi := by
    have := Nat.mul_le_mul_right szi (show p + 1 ≤ len i by omega)
    rw [Nat.add_mul] at this
    rw [hs]; omega
  obtain ⟨cur', hrun, hown', hone', hthree⟩ := own_store hi hy0 hv2 (u := u) (off := p * szi + b) (by rw [hs, hsz, C.cells hdt]) hfit h1 hy1
  have hbase := R.base id hlive g (by rw [hh]; exact .inr ⟨i, hin, hho, hbl⟩)
  refine ⟨_, by rw [e2, addr_lit, Nat.zero_add]; exact hrun, ?_⟩
  have hne : ∀ b', b' ≠ g → (w.setRow g cur').heap[b']? = w.heap[b']? := fun b' hb' => setRow_other w g b' _ hb'
  refine R.setG id _ _ (below_setRow C g _ hbase.1) hlive (fun b' hb' _ => hne b' (fun e => hb' (by rw [hh, e]; exact .inr ⟨i, hin, hho, hbl⟩))) (by rw [hh]; exact ⟨rfl, rfl, rfl, rfl, rfl⟩) (fun g' hg' => by rw [hh]; exact hg') ?_
  intro r ok hr hok hwb
  refine ⟨hosz, ⟨xs, ownsRow_keep hxs (fun g' hg' => hne g' (fun e => hout g' hg' (e ▸ hbl))), hx1, fun i' j' hi' hj' hne' => ?_, hinn⟩, fun i' hi' hh' => ?_, hap⟩
  · obtain ⟨cv, c1, c3⟩ := hc0 i' j' hi' hj' hne'
    exact ⟨cv, c1, VR.mono hok hwb _ _ _ _ (fun _ _ h => h) c3⟩
  · by_cases hii : i' = i
    · subst hii
      refine ⟨hout, _, hown', hone', fun a2 b2 ha2 hb2 => ?_⟩
      rw [hthree]
      have hiff := row_split (i := p) (j := b) (i' := a2) (j' := b2) (len := u.cells.toList.length) (by omega) hb2
      unfold updIn updRow
      rw [if_pos rfl]
      by_cases hin2 : a2 = p ∧ b ≤ b2 ∧ b2 < b + l.length
      · rw [if_pos hin2, if_pos (hiff.mpr (by rw [hul]; exact hin2))]
        have hlt : b2 - b < l.length := by omega
        obtain ⟨cv, c1, c2, c3⟩ := hc (b2 - b) l[b2 - b] (List.getElem?_eq_getElem hlt)
        refine ⟨cv, ?_, ?_⟩
        · have : a2 * szi + b2 - (p * szi + b) = b2 - b := by rw [hin2.1]; omega
          rw [this]; simpa using c1
        · rw [List.getD, List.getElem?_eq_getElem hlt]
          exact VR.mono hok hwb _ _ _ _ (fun _ _ h => h) (noRef_ok (List.all_eq_true.mp hnr _ (List.getElem_mem hlt)) c3)
      · rw [if_neg hin2, if_neg (fun h' => hin2 (by rw [← hul]; exact hiff.mp h'))]
        obtain ⟨cv, c1, c3⟩ := hyc a2 b2 ha2 hb2
        exact ⟨cv, c1, VR.mono hok hwb _ _ _ _ (fun _ _ h => h) c3⟩
    · obtain ⟨hout2, ys2, hy2, hy21, hyc2⟩ := hrows i' hi' hh'
      refine ⟨hout2, ys2, ownsRow_keep hy2 (fun g' hg' => hne g' (fun e => hap i' i hi' hin hii hh' hho g' hg' (e ▸ hbl))), hy21, fun a2 b2 ha2 hb2 => ?_⟩
      unfold updIn
      rw [if_neg hii]
      obtain ⟨cv, c1, c3⟩ := hyc2 a2 b2 ha2 hb2
      exact ⟨cv, c1, VR.mono hok hwb _ _ _ _ (fun _ _ h => h) c3⟩

theorem store_outer (R : Rel C env h ι a w) {t : TypeId} {dt : TypeDesc} (hdt : C.T.underlying t = some dt) {id i sz j e sz0 n o ei szi : Nat} {get0 : Nat → Nat → AV} {len : Nat → Nat} {get : Nat → Nat → Nat → AV} {hole : Option Nat} {y : AV} {v u : Value} {l : List AV}
    (hx : VR w (okB C h ι w) (.radr id sz i j) (rf h ι) v) (hh : h id = .mat e sz0 n get0 o ei szi len get hole) (hy : VR w (okB C h ι w) y (rf h ι) u) (hl : cellsAV y = some l)
    (hsz : l.length = C.T.cellsOf t) (hle : j + l.length ≤ sz) (hnr : l.all noRef = true) (hoff : o < j ∨ j + l.length ≤ o) :
    ∃ w', (Instr.storeAt t v u).run C.P w = .ok () w' ∧ Rel C env (upd h id (.mat e sz0 n (updRow get0 i j l) o ei szi len get hole)) ι a w' := by
  obtain ⟨hs, hc⟩ := cellsAV_ok R hl hy
  have h1 := cells_one R hl hy
  obtain ⟨inf, hi⟩ := info_some (C.und hdt)
  obtain ⟨g, nn, cc, e1, e2, h3⟩ := hx
  rw [hh] at h3
  obtain ⟨rfl, hin⟩ := h3
  have hlive : h id ≠ .dead := by rw [hh]; simp
  have ho := R.obj id
  rw [hh] at ho
  obtain ⟨hosz, ⟨xs, hxs, hx1, hc0, hinn⟩, hrows, hap⟩ := ho
  have hul : u.cells.toList.length = l.length := by simp [hs]
  have hbl : blk (ι id 0) = some g := by rw [e1]; rfl
  have hv2 : ι id 0 = .slice (some ⟨g, 0, none⟩) n cc := by
    rcases hxs.2 with ⟨hv, _⟩ | ⟨g', cap, cur, hv, _⟩
    · rw [e1] at hv; cases hv
    · rw [e1] at hv; cases hv; exact e1
  have hfit : i * sz0 + j + u.cells.size ≤ n * sz0 := by
    have := Nat.mul_le_mul_right sz0 (show i + 1 ≤ n by omega)
    rw [Nat.add_mul] at this
    rw [hs]; omega
  obtain ⟨cur', hrun, hown', hone', hthree⟩ := own_store hi hxs hv2 (u := u) (off := i * sz0 + j) (by rw [hs, hsz, C.cells hdt]) hfit h1 hx1
  have hbase := R.base id hlive g (owns_zero hbl)
  refine ⟨_, by rw [e2, addr_lit, Nat.zero_add]; exact hrun, ?_⟩
  have hne : ∀ b', b' ≠ g → (w.setRow g cur').heap[b']? = w.heap[b']? := fun b' hb' => setRow_other w g b' _ hb'
  refine R.setG id _ _ (below_setRow C g _ hbase.1) hlive (fun b' hb' _ => hne b' (fun e => hb' (owns_zero (e ▸ hbl)))) (by rw [hh]; exact ⟨rfl, rfl, rfl, rfl, rfl⟩) (fun g' hg' => by rw [hh]; exact hg') ?_
  intro r ok hr hok hwb
  have hsplit : ∀ i2 j2, j2 < sz0 → (i * sz0 + j ≤ i2 * sz0 + j2 ∧ i2 * sz0 + j2 < i * sz0 + j + u.cells.toList.length ↔ i2 = i ∧ j ≤ j2 ∧ j2 < j + u.cells.toList.length) := fun i2 j2 hj2 => row_split (by omega) hj2
  refine ⟨hosz, ⟨_, hown', hone', fun i2 j2 hi2 hj2 hne2 => ?_, fun i2 hi2 hh2 => ?_⟩, fun i2 hi2 hh2 => ?_, hap⟩
  · rw [hthree]
    unfold updRow
    by_cases hin2 : i2 = i ∧ j ≤ j2 ∧ j2 < j + l.length
    · rw [if_pos hin2, if_pos ((hsplit i2 j2 hj2).mpr (by rw [hul]; exact hin2))]
      have hlt : j2 - j < l.length := by omega
      obtain ⟨cv, c1, c2, c3⟩ := hc (j2 - j) l[j2 - j] (List.getElem?_eq_getElem hlt)
      refine ⟨cv, ?_, ?_⟩
      · have : i2 * sz0 + j2 - (i * sz0 + j) = j2 - j := by rw [hin2.1]; omega
        rw [this]; simpa using c1
      · rw [List.getD, List.getElem?_eq_getElem hlt]
        exact VR.mono hok hwb _ _ _ _ (fun _ _ h => h) (noRef_ok (List.all_eq_true.mp hnr _ (List.getElem_mem hlt)) c3)
    · rw [if_neg hin2, if_neg (fun h' => hin2 (by rw [← hul]; exact (hsplit i2 j2 hj2).mp h'))]
      obtain ⟨cv, c1, c3⟩ := hc0 i2 j2 hi2 hj2 hne2
      exact ⟨cv, c1, VR.mono hok hwb _ _ _ _ (fun _ _ h => h) c3⟩
  · rw [hthree, if_neg (fun h' => by have := (hsplit i2 o hosz).mp h'; rw [hul] at this; omega)]
    exact hinn i2 hi2 hh2
  · obtain ⟨hout2, ys2, hy2, hy21, hyc2⟩ := hrows i2 hi2 hh2
    refine ⟨hout2, ys2, ownsRow_keep hy2 (fun g' hg' => hne g' (fun e => hout2 g hbl (e ▸ hg'))), hy21, fun a2 b2 ha2 hb2 => ?_⟩
    obtain ⟨cv, c1, c3⟩ := hyc2 a2 b2 ha2 hb2
    exact ⟨cv, c1, VR.mono hok hwb _ _ _ _ (fun _ _ h => h) c3⟩

def plugL (f : Nat → Value) (i : Nat) (v : Value) : Nat → Value := fun k => if k = i + 1 then v else f k
theorem plugL_here (f : Nat → Value) (i : Nat) (v : Value) : plugL f i v (i + 1) = v := if_pos rfl
theorem plugL_other (f : Nat → Value) (i : Nat) (v : Value) {k : Nat} (h : k ≠ i) : plugL f i v (k + 1) = f (k + 1) := if_neg (by omega)
theorem plugL_zero (f : Nat → Value) (i : Nat) (v : Value) : plugL f i v 0 = f 0 := if_neg (by omega)
def nilsL (v : Value) : Nat → Value := fun k => if k = 0 then v else .slice none 0 0
theorem nilsL_succ (v : Value) (k : Nat) : nilsL v (k + 1) = .slice none 0 0 := if_neg (by omega)
theorem nilsL_zero (v : Value) : nilsL v 0 = v := rfl

/-- An own row goes into its place among the others. -/
theorem plug (R : Rel C env h ι a w) {t : TypeId} {dt : TypeDesc} (hdt : C.T.underlying t = some dt) {id i sz o e sz0 n ei szi q m : Nat} {get0 : Nat → Nat → AV} {len : Nat → Nat} {get : Nat → Nat → Nat → AV} {hole : Option Nat} {getq : Nat → Nat → AV} {v u : Value}
    (hx : VR w (okB C h ι w) (.radr id sz i o) (rf h ι) v) (hh : h id = .mat e sz0 n get0 o ei szi len get hole) (hy : u = ι q 0) (hq : h q = .row ei szi m getq) (hne : q ≠ id) (h1t : C.T.cellsOf t = 1) (hhole : ∀ k, k ≠ i → hole ≠ some k) :
    ∃ w', (Instr.storeAt t v u).run C.P w = .ok () w' ∧
      Rel C (scrubIE id env) (upd (upd (scrubIH id h) q .dead) id (.mat e sz0 n get0 o ei szi (updIn len i m) (updIn get i getq) none)) (upd ι id (plugL (ι id) i (ι q 0))) a w' := by
  obtain ⟨inf, hi⟩ := info_some (C.und hdt)
  obtain ⟨g, nn, cc, e1, e2, h3⟩ := hx
  rw [hh] at h3
  obtain ⟨rfl, hin⟩ := h3
  have hlive : h id ≠ .dead := by rw [hh]; simp
  have hliveq : h q ≠ .dead := by rw [hq]; simp
  have ho := R.obj id
  rw [hh] at ho
  obtain ⟨hosz, ⟨xs, hxs, hx1, hc0, hinn⟩, hrows, hap⟩ := ho
  have hoq := R.obj q
  rw [hq] at hoq
  obtain ⟨zs, hzs, hz1, hzc⟩ := hoq
  have hu1 : u.oneCell' = true := by rw [hy]; exact R.one q 0
  have hcells : u.cells = #[u] := oneCell_cells hu1
  have hbl : blk (ι id 0) = some g := by rw [e1]; rfl
  have hv2 : ι id 0 = .slice (some ⟨g, 0, none⟩) n cc := by
    rcases hxs.2 with ⟨hv, _⟩ | ⟨g', cap, cur, hv, _⟩
    · rw [e1] at hv; cases hv
    · rw [e1] at hv; cases hv; exact e1
  have hfit : i * sz0 + o + u.cells.size ≤ n * sz0 := by
    have := Nat.mul_le_mul_right sz0 (show i + 1 ≤ n by omega)
    rw [Nat.add_mul] at this
    rw [hcells]; simp only [Array.size_singleton]; simp at this ⊢; omega
  obtain ⟨cur', hrun, hown', hone', hthree⟩ := own_store hi hxs hv2 (u := u) (off := i * sz0 + o) (by rw [hcells, ← C.cells hdt] at *; simp [h1t]) hfit (by rw [hcells]; simpa using hu1) hx1
  have hbase := R.base id hlive g (owns_zero hbl)
  have hqb : ∀ g', blk (ι q 0) = some g' → owns (h q) (ι q) g' := fun g' hg' => owns_zero hg'
  have hqg : ∀ g', blk (ι q 0) = some g' → g' ≠ g := fun g' hg' e => R.apart q id hliveq hlive hne g' (hqb g' hg') (owns_zero (by rw [e]; exact hbl))
  have hneb : ∀ b', b' ≠ g → (w.setRow g cur').heap[b']? = w.heap[b']? := fun b' hb' => setRow_other w g b' _ hb'
  have hsub : ∀ g', owns (.mat e sz0 n get0 o ei szi (updIn len i m) (updIn get i getq) none) (plugL (ι id) i (ι q 0)) g' → owns (h id) (ι id) g' ∨ owns (h q) (ι q) g' := by
    intro g' hg'
    rcases hg' with hg' | ⟨k, hk, _, hg'⟩
    · left; exact owns_zero (by rw [plugL_zero] at hg'; exact hg')
    · by_cases hki : k = i
      · subst hki
        rw [plugL_here] at hg'
        exact .inr (hqb g' hg')
      · rw [plugL_other _ _ _ hki] at hg'
        left; rw [hh]; exact .inr ⟨k, hk, hhole k hki, hg'⟩
  refine ⟨_, by rw [e2, addr_lit, Nat.zero_add]; exact hrun, ?_⟩
  have := R.remake (scrubI_scr id) id q (.mat e sz0 n get0 o ei szi (updIn len i m) (updIn get i getq) none) (plugL (ι id) i (ι q 0)) (w.setRow g cur') (below_setRow C g _ hbase.1)
    (fun b hb => hneb b (fun e' => hb.2.2 id hlive (owns_zero (e' ▸ hbl))))
    (fun id2 hd hz hl g' hg' => hneb g' (fun e' => R.apart id2 id hl hlive hd g' hg' (owns_zero (e' ▸ hbl))))
    (fun k => by unfold plugL; split <;> first | exact R.one q 0 | exact R.one id k)
    (fun g' hg' => by rcases hsub g' hg' with h' | h' <;> first | (have := R.base id hlive g' h'; exact ⟨this.1, by simpa using this.2⟩) | (have := R.base q hliveq g' h'; exact ⟨this.1, by simpa using this.2⟩))
    (fun g' hg' hok => by rcases hsub g' hg' with h' | h' <;> first | exact hok.2.2 id hlive h' | exact hok.2.2 q hliveq h')
    (fun id2 hd hz hl g' hg' hg2 => by rcases hsub g' hg2 with h' | h' <;> first | exact R.apart id2 id hl hlive hd g' hg' h' | exact R.apart id2 q hl hliveq hz g' hg' h')
    (fun hok x v hr => rf_scrubI (z := q) (fun id2 hd => upd_other _ _ hd) (by rw [upd_same, plugL_zero]) (fun id2 hd => by
      rw [upd_other _ _ hd]
      by_cases hz : id2 = q
      · subst hz; rw [upd_same]; exact .inl rfl
      · rw [upd_other _ _ hz]; exact .inr rfl) (by rw [upd_same, hh]; exact ⟨rfl, rfl⟩) hr)
    (fun hok => ?_)
  · exact this.1
  · have hwb : ∀ b, okB C h ι w b → (w.setRow g cur').heap[b]? = w.heap[b]? := fun b hb => hneb b (fun e' => hb.2.2 id hlive (owns_zero (e' ▸ hbl)))
    have hul : u.cells.toList.length = 1 := by rw [hcells]; rfl
    have hsplit : ∀ i2 j2, j2 < sz0 → (i * sz0 + o ≤ i2 * sz0 + j2 ∧ i2 * sz0 + j2 < i * sz0 + o + u.cells.toList.length ↔ i2 = i ∧ o ≤ j2 ∧ j2 < o + u.cells.toList.length) := fun i2 j2 hj2 => row_split (by omega) hj2
    refine ⟨hosz, ⟨_, hown', hone', fun i2 j2 hi2 hj2 hne2 => ?_, fun i2 hi2 _ => ?_⟩, fun i2 hi2 _ => ?_, fun i2 i3 hi2 hi3 hne2 _ _ g' hg' => ?_⟩
    · rw [hthree, if_neg (fun h' => by have := (hsplit i2 j2 hj2).mp h'; omega)]
      obtain ⟨cv, c1, c3⟩ := hc0 i2 j2 hi2 hj2 hne2
      exact ⟨cv, c1, VR.mono hok hwb _ _ _ _ (fun _ _ h => h) c3⟩
    · rw [hthree]
      by_cases hii : i2 = i
      · subst hii
        rw [if_pos (by omega), plugL_here, Nat.sub_self, hcells, ← hy]; rfl
      · rw [if_neg (fun h' => hii ((hsplit i2 o hosz).mp h').1), plugL_other _ _ _ hii]
        exact hinn i2 hi2 (hhole i2 hii)
    · by_cases hii : i2 = i
      · subst hii
        unfold updIn
        rw [plugL_here, plugL_zero, if_pos rfl, if_pos rfl]
        refine ⟨fun g1 hg1 hg2 => ?_, zs, ownsRow_keep hzs (fun g' hg' => hneb g' (hqg g' hg')), hz1, fun a2 b2 ha2 hb2 => ?_⟩
        · have : g1 = g := by
            rw [hbl] at hg1; cases hg1; rfl
          exact hqg g1 hg2 this
        · obtain ⟨cv, c1, c3⟩ := hzc a2 b2 ha2 hb2
          exact ⟨cv, c1, VR.mono hok hwb _ _ _ _ (fun _ _ h => h) c3⟩
      · obtain ⟨hout2, ys2, hy2, hy21, hyc2⟩ := hrows i2 hi2 (hhole i2 hii)
        unfold updIn
        rw [plugL_other _ _ _ hii, plugL_zero, if_neg hii, if_neg hii]
        refine ⟨fun g1 hg1 => hout2 g1 hg1, ys2, ownsRow_keep hy2 (fun g' hg' => hneb g' (fun e => hout2 g hbl (e ▸ hg'))), hy21, fun a2 b2 ha2 hb2 => ?_⟩
        obtain ⟨cv, c1, c3⟩ := hyc2 a2 b2 ha2 hb2
        exact ⟨cv, c1, VR.mono hok hwb _ _ _ _ (fun _ _ h => h) c3⟩
    · by_cases h2i : i2 = i
      · subst h2i
        rw [plugL_here] at hg'
        rw [plugL_other _ _ _ (fun e => hne2 e.symm)]
        intro hg3
        exact R.apart q id hliveq hlive hne g' (hqb g' hg') (by rw [hh]; exact .inr ⟨i3, hi3, hhole i3 (by omega), hg3⟩)
      · rw [plugL_other _ _ _ h2i] at hg'
        by_cases h3i : i3 = i
        · subst h3i
          rw [plugL_here]
          intro hg3
          exact R.apart q id hliveq hlive hne g' (hqb g' hg3) (by rw [hh]; exact .inr ⟨i2, hi2, hhole i2 h2i, hg'⟩)
        · rw [plugL_other _ _ _ h3i]
          exact hap i2 i3 hi2 hi3 hne2 (hhole i2 h2i) (hhole i3 h3i) g' hg'

theorem astoreM_ok (R : Rel C env h ι a w) {t : TypeId} {x y : AV} {v u : Value} {K : Env → Heap → Prop} {stop : Prop} (hx : VR w (okB C h ι w) x (rf h ι) v) (hy : VR w (okB C h ι w) y (rf h ι) u)
    (hk : astoreM C.T t x y env h K stop) : stop ∨ ∃ w' env' h' ι', (Instr.storeAt t v u).run C.P w = .ok () w' ∧ Rel C env' h' ι' a w' ∧ K env' h' := by
  unfold astoreM at hk
  split at hk
  · rename_i dt hdt
    split at hk
    · rename_i id i sz p b
      split at hk
      · rename_i e sz0 n get0 o ei szi len get hole l hh hl
        cases hb : (Nat.beq l.length (C.T.cellsOf t) && Nat.ble (b + l.length) sz && l.all noRef) with
        | false => rw [hb] at hk; exact .inl hk
        | true =>
          rw [hb, cond_true] at hk
          simp only [Bool.and_eq_true] at hb
          obtain ⟨w', hr, R'⟩ := store_madr R hdt hx hh hy hl (Nat.eq_of_beq_eq_true hb.1.1) (Nat.ble_eq ▸ hb.1.2) hb.2
          exact .inr ⟨w', _, _, _, hr, R', hk⟩
      · exact .inl hk
    · rename_i id sz i j
      split at hk
      · rename_i e sz0 n get0 o ei szi len get hole hh
        split at hk
        · rename_i q
          split at hk
          · rename_i eq szq m getq hq
            cases hb : (Nat.beq j o && Nat.beq (C.T.cellsOf t) 1 && Nat.beq eq ei && Nat.beq szq szi && !Nat.beq q id) with
            | false => rw [hb] at hk; exact .inl hk
            | true =>
              rw [hb, cond_true] at hk
              simp only [Bool.and_eq_true, Bool.not_eq_true'] at hb
              obtain ⟨⟨⟨⟨h1, h2⟩, h3⟩, h4⟩, h5⟩ := hb
              have e1 := Nat.eq_of_beq_eq_true h1
              have e3 := Nat.eq_of_beq_eq_true h3
              have e4 := Nat.eq_of_beq_eq_true h4
              subst e1; subst e3; subst e4
              obtain ⟨w', hr, R'⟩ := plug R hdt hx hh (show u = ι q 0 from hy) hq (fun e => by rw [e, Nat.beq_refl] at h5; cases h5) (Nat.eq_of_beq_eq_true h2) (fun k _ => by simp)
              exact .inr ⟨w', _, _, _, hr, R', hk⟩
          · rename_i eq szq m getq i' hq
            cases hb : (Nat.beq j o && Nat.beq (C.T.cellsOf t) 1 && Nat.beq eq ei && Nat.beq szq szi && !Nat.beq q id) with
            | false => rw [hb] at hk; exact .inl hk
            | true =>
              rw [hb, cond_true] at hk
              simp only [Bool.and_eq_true, Bool.not_eq_true'] at hb
              obtain ⟨⟨⟨⟨h1, h2⟩, h3⟩, h4⟩, h5⟩ := hb
              have e1 := Nat.eq_of_beq_eq_true h1
              have e3 := Nat.eq_of_beq_eq_true h3
              have e4 := Nat.eq_of_beq_eq_true h4
              subst e1; subst e3; subst e4
              obtain ⟨hi', hk⟩ := hk
              obtain ⟨w', hr, R'⟩ := plug R hdt hx hh (show u = ι q 0 from hy) hq (fun e => by rw [e, Nat.beq_refl] at h5; cases h5) (Nat.eq_of_beq_eq_true h2) (fun k hk' e => by injection e with e; omega)
              exact .inr ⟨w', _, _, _, hr, R', hk⟩
          · exact .inl hk
        · split at hk
          · rename_i l hl
            cases hb : (Nat.beq l.length (C.T.cellsOf t) && Nat.ble (j + l.length) sz && l.all noRef && (Nat.blt o j || Nat.ble (j + l.length) o)) with
            | false => rw [hb] at hk; exact .inl hk
            | true =>
              rw [hb, cond_true] at hk
              simp only [Bool.and_eq_true, Bool.or_eq_true] at hb
              obtain ⟨w', hr, R'⟩ := store_outer R hdt hx hh hy hl (Nat.eq_of_beq_eq_true hb.1.1.1) (Nat.ble_eq ▸ hb.1.1.2) hb.1.2 (hb.2.imp (fun h => by simpa [Nat.blt_eq] using h) (fun h => Nat.ble_eq ▸ h))
              exact .inr ⟨w', _, _, _, hr, R', hk⟩
          · exact .inl hk
      · exact .inl hk
    · exact .inl hk
  · exact .inl hk

/-- A row of empty slices, told as nested rows. -/
theorem Rel.asMat (R : Rel C env h ι a w) (id o ei szi : Nat) {e sz n : Nat} {get : Nat → Nat → AV} (hh : h id = .row e sz n get) (ho : o < sz) (hn : ∀ i, i < n → get i o = .nils) :
    Rel C (scrubIE id env) (upd (upd (scrubIH id h) id .dead) id (.mat e sz n get o ei szi (fun _ => 0) (fun _ _ _ => .u) none)) (upd ι id (nilsL (ι id 0))) a w := by
  have hlive : h id ≠ .dead := by rw [hh]; simp
  have hob := R.obj id
  rw [hh] at hob
  obtain ⟨xs, hxs, hx1, hxc⟩ := hob
  have hsub : ∀ g', owns (.mat e sz n get o ei szi (fun _ => 0) (fun _ _ _ => .u) none) (nilsL (ι id 0)) g' → owns (h id) (ι id) g' := by
    intro g' hg'
    rcases hg' with hg' | ⟨k, hk, _, hg'⟩
    · exact owns_zero hg'
    · rw [nilsL_succ] at hg'; cases hg'
  refine (R.remake (scrubI_scr id) id id (.mat e sz n get o ei szi (fun _ => 0) (fun _ _ _ => .u) none) (nilsL (ι id 0)) w (Below.refl _ _) (fun _ _ => rfl) (fun _ _ _ _ _ _ => rfl)
    (fun k => by unfold nilsL; split <;> first | exact R.one id 0 | rfl) (fun g' hg' => R.base id hlive g' (hsub g' hg')) (fun g' hg' hok => hok.2.2 id hlive (hsub g' hg'))
    (fun id2 hd _ hl g' hg' hg2 => R.apart id2 id hl hlive hd g' hg' (hsub g' hg2))
    (fun hok x v hr => rf_scrubI (z := id) (fun id2 hd => upd_other _ _ hd) (by rw [upd_same]; rfl) (fun id2 hd => by rw [upd_other _ _ hd, upd_other _ _ hd]; exact .inr rfl) (by rw [upd_same, hh]; exact ⟨rfl, rfl⟩) hr) (fun hok => ?_)).1
  refine ⟨ho, ⟨xs, hxs, hx1, fun i j hi hj hne => ?_, fun i hi _ => ?_⟩, fun i hi _ => ⟨fun g _ hg2 => ?_, [], ?_, by simp, fun a2 b2 ha2 => absurd ha2 (Nat.not_lt_zero _)⟩, fun i i' hi hi' _ _ _ g hg => ?_⟩
  · obtain ⟨cv, c1, c3⟩ := hxc i j hi hj
    exact ⟨cv, c1, VR.mono hok (fun _ _ => rfl) _ _ _ _ (fun _ _ h => h) c3⟩
  · obtain ⟨cv, c1, c3⟩ := hxc i o hi ho
    rw [hn i hi] at c3
    have : cv = .slice none 0 0 := c3
    rw [nilsL_succ, c1, this]
  · rw [nilsL_succ] at hg2; cases hg2
  · rw [nilsL_succ]; exact World.ownsRow_nil w C.B ei szi
  · rw [nilsL_succ] at hg; cases hg

def isM (h : Heap) (x : AV) : Bool := match x with
  | .madr .. => true
  | .radr id _ _ _ => match h id with
    | .mat .. => true
    | _ => false
  | _ => false
def astoreA (P : TT) (t : TypeId) (x y : AV) (env : Env) (h : Heap) (K : Env → Heap → Prop) (stop : Prop) : Prop :=
  cond (isM h x) (astoreM P t x y env h K stop) (astore P h t x y (fun h' => K env h') stop)
theorem astoreA_ok (R : Rel C env h ι a w) {t : TypeId} {x y : AV} {v u : Value} {K : Env → Heap → Prop} {stop : Prop} (hx : VR w (okB C h ι w) x (rf h ι) v) (hy : VR w (okB C h ι w) y (rf h ι) u)
    (hk : astoreA C.T t x y env h K stop) : stop ∨ ∃ w' env' h' ι', (Instr.storeAt t v u).run C.P w = .ok () w' ∧ Rel C env' h' ι' a w' ∧ K env' h' := by
  unfold astoreA at hk
  cases hb : isM h x with
  | true => rw [hb] at hk; exact astoreM_ok R hx hy hk
  | false =>
    rw [hb] at hk
    rcases astore_ok (K := fun env h _ => K env h) R hx hy hk with hk | ⟨w', h', hr, R', hk⟩
    · exact .inl hk
    · exact .inr ⟨w', _, _, _, hr, R', hk⟩
end

end Go.Proofs.YtfodjmemdkibpaaDoor.V
