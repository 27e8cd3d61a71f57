/-
make, append, slicing, conversions of numbers, walks over a text.
-/
import Derived.Test.YtfodjmemdkibpaaDoorVg
import Derived.Laws.Slices
namespace Go.Proofs.YtfodjmemdkibpaaDoor.V
open Go Go.RowKit
set_option linter.unusedSimpArgs false
set_option linter.unusedVariables false

section
variable {C : Ctx} {env : Env} {h : Heap} {ι : Loc} {a : Act} {w : World}

def amake (P : TT) (t d : Nat) (l c : AV) (env : Env) (h : Heap) (K : Env → Heap → AV → Prop) (stop : Prop) : Prop :=
  match P.underlying t with
  | some (.slice e) => match l, c, P.underlying e, P.zero e with
    | .int _ n, .int _ m, some _, some z => force (P.cellsOf e) (fun sz => cond (Nat.beq z.length sz && Nat.blt 0 sz)
        (Need (n = m ∧ 0 ≤ n ∧ n.toNat * P.bytesOf e ≤ 140737488355328 ∧ n.toNat ≤ 9223372036854775807) (K (scrubE d env) (upd (upd (scrubH d h) d .dead) d (.row e sz n.toNat (fun i j => z.getD j .u))) (.row d))) stop) stop
    | _, _, _, _ => stop
  | _ => stop

theorem amake_ok (R : Rel C env h ι a w) {t d : Nat} {l c : AV} {vl vc : Value} {K : Env → Heap → AV → Prop} {stop : Prop} (hl : VR w (okB C h ι w) l (rf h ι) vl) (hc : VR w (okB C h ι w) c (rf h ι) vc)
    (hk : amake C.T t d l c env h K stop) : stop ∨ Out C a w (Instr.makeSlice t vl vc) K := by
  unfold amake at hk
  split at hk
  · rename_i e hu
    split at hk
    · rename_i kl n km m de z hue hz
      have e1 : vl = .int kl n := hl
      have e2 : vc = .int km m := hc
      subst e1; subst e2
      rcases force_ok hk with hk | hk
      · cases hbb : (Nat.beq z.length (C.T.cellsOf e) && Nat.blt 0 (C.T.cellsOf e)) with
        | false => rw [hbb] at hk; exact .inl hk
        | true =>
          rw [hbb, cond_true] at hk
          rw [Bool.and_eq_true] at hbb
          have h3 : z.length = C.T.cellsOf e := Nat.eq_of_beq_eq_true hbb.1
          have h4 : 0 < C.T.cellsOf e := by simpa [Nat.blt_eq] using hbb.2
          obtain ⟨⟨hnm, h0, hby, hmx⟩, hk2⟩ := hk
          subst hnm
          obtain ⟨i, zv, hi, hzz, hs, hcz⟩ := zeroL_ok (C.zeroes hz).1
          have hsz : i.size = C.T.cellsOf e := by rw [← (C.zeroes hz).2.1]; simp [Program.cellsOf, hi]
          have hbyt : i.bytes = C.T.bytesOf e := by rw [← (C.zeroes hz).2.2]; simp [Program.bytesOf, hi]
          have hzs : zv.cells.size = C.T.cellsOf e := by rw [hs, h3]
          obtain ⟨k, rfl⟩ : ∃ k : Nat, n = (k : Int) := ⟨n.toNat, by omega⟩
          rw [Int.toNat_natCast] at *
          have hmb : (i.bytes : Int) * (k : Int) ≤ 281474976710656 := by
            have : i.bytes * k ≤ 281474976710656 := by rw [hbyt, Nat.mul_comm]; omega
            have h5 : ((i.bytes * k : Nat) : Int) ≤ 281474976710656 := by omega
            rwa [Int.natCast_mul] at h5
          have hr := run_make (P := C.P) w t e i zv (C.und hu) hi hzz kl km k k (by omega) (Int.le_refl _) hmb (by omega)
          simp only [Int.toNat_natCast, hsz] at hr
          have hcell : ∀ q, q < k * C.T.cellsOf e → ∃ cv, (madeCells zv.cells (k * C.T.cellsOf e))[q]? = some cv ∧ cv.oneCell' = true ∧ VR w (okB C h ι w) (z.getD (q % C.T.cellsOf e) .u) noref cv := by
            intro q hq
            have hlt : q % C.T.cellsOf e < z.length := by rw [h3]; exact Nat.mod_lt _ h4
            obtain ⟨cv, c1, c2, c3⟩ := hcz w (okB C h ι w) noref (q % C.T.cellsOf e) z[q % C.T.cellsOf e] (List.getElem?_eq_getElem hlt)
            refine ⟨cv, ?_, c2, by rw [List.getD, List.getElem?_eq_getElem hlt]; exact c3⟩
            have hlt2 : q % C.T.cellsOf e < zv.cells.size := by rw [hzs]; exact Nat.mod_lt _ h4
            rw [Array.getElem?_eq_getElem hlt2] at c1
            simp only [Option.some.injEq] at c1
            rw [hzs] at hlt2
            have hb : zv.cells[q % C.T.cellsOf e]! = cv := by rw [getElem!_pos _ _ (by rw [hzs]; exact hlt2)]; exact c1
            simp [madeCells, hq, hzs, hb]
          have hsize : (madeCells zv.cells (k * C.T.cellsOf e)).size = k * C.T.cellsOf e := size_madeCells _ _
          have R' := R.newRow d e (C.T.cellsOf e) k (fun i j => z.getD j .u) _ hsize hmx (fun u hu' => by
              obtain ⟨q, hq⟩ := List.getElem?_of_mem hu'
              have hql : q < k * C.T.cellsOf e := by
                rcases Nat.lt_or_ge q (k * C.T.cellsOf e) with h' | h'
                · exact h'
                · rw [List.getElem?_eq_none (by rw [Array.length_toList, hsize]; exact h')] at hq; cases hq
              obtain ⟨cv, c1, c2, _⟩ := hcell q hql
              have : (madeCells zv.cells (k * C.T.cellsOf e)).toList[q]? = some cv := by simpa using c1
              rw [this] at hq; cases hq; exact c2)
            (fun i j hi hj => by
              obtain ⟨cv, c1, _, c3⟩ := hcell (i * C.T.cellsOf e + j) (mul_lt_row hi hj)
              refine ⟨cv, c1, ?_⟩
              have e6 : (i * C.T.cellsOf e + j) % C.T.cellsOf e = j := by rw [Nat.mul_comm, Nat.mul_add_mod, Nat.mod_eq_of_lt hj]
              rwa [e6] at c3)
          refine .inr ⟨_, _, _, _, _, .row d, hr, R', ?_, hk2⟩
          show Value.slice _ _ _ = upd ι d _ d 0
          rw [upd_same]
      · exact .inl hk
    · exact .inl hk
  · exact .inl hk

/-! ### append -/
/-- What is appended: how many, its cells. -/
def srcOf (h : Heap) : AV → Option (Nat × Nat × (Nat → Nat → AV))
  | .sl n sz get => some (n, sz, get)
  | .row id => match h id with | .row _ sz n get => some (n, sz, get) | _ => none
  | _ => none

def joinRow (n : Nat) (get : Nat → Nat → AV) (get2 : Nat → Nat → AV) : Nat → Nat → AV := fun i j => if i < n then get i j else get2 (i - n) j
def pushRow (n : Nat) (get : Nat → Nat → AV) (x : Nat → AV) : Nat → Nat → AV := fun i j => if i = n then x j else get i j

theorem ownsRow_one {B e sz : Nat} {v : Value} {n : Nat} {xs : List Value} (h : w.ownsRow B e sz v n xs) : v.oneCell' = true := by
  rcases h.2 with ⟨rfl, _⟩ | ⟨g, cap, cur, rfl, _⟩ <;> rfl

/-- Behind an append: the new row, the old one given up. -/
theorem Rel.appended (R : Rel C env h ι a w) (d z : Nat) (e sz n m : Nat) (get get2 : Nat → Nat → AV) (v v' : Value) (w' : World) (xs news : List Value)
    (hown : w.ownsRow C.B e sz v n xs) (hx1 : ∀ u ∈ xs, u.oneCell' = true) (hxc : ∀ i j, i < n → j < sz → ∃ cv, xs[i * sz + j]? = some cv ∧ VR w (okB C h ι w) (get i j) noref cv)
    (hz : (v = .slice none 0 0) ∨ (h z ≠ .dead ∧ v = ι z 0)) (hown' : w'.ownsRow C.B e sz v' (n + m) (xs ++ news)) (hg : w.grownBy w' v.ownBlock)
    (hblk : blk v' = blk v ∨ (∀ g, blk v' = some g → w.heap.size ≤ g))
    (hn1 : ∀ u ∈ news, u.oneCell' = true) (hnc : ∀ i j, i < m → j < sz → ∃ cv, news[i * sz + j]? = some cv ∧ VR w (okB C h ι w) (get2 i j) noref cv) (getn : Nat → Nat → AV)
    (hgetn : ∀ i j, i < n + m → j < sz → getn i j = if i < n then get i j else get2 (i - n) j) :
    Rel C (scrubE d env) (upd (upd (scrubH d h) z .dead) d (.row e sz (n + m) getn)) (upd ι d (fun _ => v')) a w' := by
  have hbo : v.ownBlock = blk v ∨ v = .slice none 0 0 := by
    rcases hown.2 with ⟨rfl, _⟩ | ⟨g, cap, cur, rfl, _⟩
    · exact .inr rfl
    · exact .inl rfl
  have hvz : ∀ g, blk v = some g → h z ≠ .dead ∧ v = ι z 0 := by
    intro g hgb
    rcases hz with rfl | hz
    · cases hgb
    · exact hz
  have hsame : ∀ b, b < w.heap.size → blk v ≠ some b → w'.heap[b]? = w.heap[b]? := by
    intro b hb hne
    refine hg.block b hb ?_
    rcases hbo with e | e
    · rw [e]; exact fun e => hne e.symm
    · rw [e]; simp [Value.ownBlock]
  have hokne : ∀ b, okB C h ι w b → blk v ≠ some b := by
    intro b hb e
    obtain ⟨h1, h2⟩ := hvz b e
    exact hb.2.2 z h1 (owns_zero (h2 ▸ e))
  have hbel : Below C.B w w' := ⟨hg.os, hg.tape, hg.output, hg.size, fun k hk => by
    refine hsame k (Nat.lt_of_lt_of_le hk R.below.size) (fun e => ?_)
    obtain ⟨h1, h2⟩ := hvz k e
    have := R.base z h1 k (owns_zero (h2 ▸ e))
    omega⟩
  have hlt' : ∀ g, blk v' = some g → C.B ≤ g ∧ g < w'.heap.size := by
    intro g hgb
    have hb : v'.ownBlock = some g := by
      rcases hown'.2 with ⟨rfl, _⟩ | ⟨g', cap, cur, rfl, _⟩
      · cases hgb
      · exact hgb
    exact hown'.lt g hb
  refine (R.make d z (.row e sz (n + m) getn) v' w' hbel (fun b hb => hsame b hb.1 (hokne b hb)) ?_ (ownsRow_one hown') hlt' ?_ ?_ ?_).1
  · intro id hd hzz hl g hgb
    refine hsame g (R.base id hl g hgb).2 (fun e' => ?_)
    obtain ⟨h1, h2⟩ := hvz g e'
    exact R.apart id z hl h1 hzz g hgb (owns_zero (h2 ▸ e'))
  · intro g hgb hok
    rcases hblk with e' | e'
    · exact hokne g hok (e' ▸ hgb)
    · have := e' g hgb; exact absurd hok.1 (by omega)
  · intro id hd hzz hl g hgb e'
    rcases hblk with e2 | e2
    · rw [e2] at e'
      obtain ⟨h1, h2⟩ := hvz g e'
      exact R.apart id z hl h1 hzz g hgb (owns_zero (h2 ▸ e'))
    · have := e2 g e'
      have := (R.base id hl g hgb).2
      omega
  · intro ok r hok hS hr
    have hxl : xs.length = n * sz := hown.1
    refine ⟨xs ++ news, hown', fun u hu => ?_, fun i j hi hj => ?_⟩
    · rcases List.mem_append.mp hu with h' | h'
      · exact hx1 u h'
      · exact hn1 u h'
    · rw [hgetn i j hi hj]
      by_cases hin : i < n
      · rw [if_pos hin, List.getElem?_append_left (by rw [hxl]; exact mul_lt_row hin hj)]
        obtain ⟨cv, c1, c3⟩ := hxc i j hin hj
        exact ⟨cv, c1, VR.mono hok (fun b hb => hsame b hb.1 (hokne b hb)) _ _ _ _ (fun _ _ h => h) c3⟩
      · rw [if_neg hin]
        have hge : n * sz ≤ i * sz := Nat.mul_le_mul_right _ (by omega)
        rw [List.getElem?_append_right (by rw [hxl]; omega), hxl]
        obtain ⟨cv, c1, c3⟩ := hnc (i - n) j (by omega) hj
        refine ⟨cv, ?_, VR.mono hok (fun b hb => hsame b hb.1 (hokne b hb)) _ _ _ _ (fun _ _ h => h) c3⟩
        rw [← c1, Nat.sub_mul]
        congr 1; omega

/-- The cells of what is appended, as a list; where they lie. -/
theorem src_ok (R : Rel C env h ι a w) {x : AV} {v : Value} {m sz : Nat} {get2 : Nat → Nat → AV} (hs : srcOf h x = some (m, sz, get2)) (hx : VR w (okB C h ι w) x (rf h ι) v) :
    ∃ A c, v = .slice A m c ∧ m ≤ c ∧ (A = none → c = 0 ∧ m = 0) ∧ ∃ news : List Value, news.length = m * sz ∧ (∀ u ∈ news, u.oneCell' = true) ∧
      (∀ ad, A = some ad → ∀ (j : Nat) (u : Value), news[j]? = some u → w.cell? (ad.add j) = some u) ∧
      ∀ i j, i < m → j < sz → ∃ cv, news[i * sz + j]? = some cv ∧ VR w (okB C h ι w) (get2 i j) noref cv := by
  cases x with
  | sl n sz' get =>
    cases hs
    obtain ⟨A, c, rfl, hnc, hc, hA, hcells⟩ := hx
    by_cases h0 : 0 < m
    · obtain ⟨ad, rfl, hb, hcs⟩ := hcells h0
      have key : ∀ q, q < m * sz → ∃ cv, w.cell? (ad.add q) = some cv ∧ cv.oneCell' = true := by
        intro q hq
        have hsz : 0 < sz := by rcases Nat.eq_zero_or_pos sz with e | e
                                · subst e; simp at hq
                                · exact e
        have hqi : q / sz < m := Nat.div_lt_of_lt_mul (by rw [Nat.mul_comm]; exact hq)
        obtain ⟨cv, c1, c2, _⟩ := hcs (q / sz) (q % sz) hqi (Nat.mod_lt _ hsz)
        rw [Nat.mul_comm, Nat.div_add_mod] at c1
        exact ⟨cv, c1, c2⟩
      refine ⟨_, c, rfl, hnc, (fun e => by cases e), (List.range (m * sz)).map (fun q => (w.cell? (ad.add q)).getD undef), by simp, ?_, ?_, ?_⟩
      · intro u hu
        obtain ⟨q, hq, rfl⟩ := List.mem_map.mp hu
        obtain ⟨cv, c1, c2⟩ := key q (List.mem_range.mp hq)
        rw [c1]; exact c2
      · intro ad' e j u hj
        cases e
        rw [List.getElem?_map] at hj
        have hjl : j < m * sz := by
          rcases Nat.lt_or_ge j (m * sz) with h' | h'
          · exact h'
          · rw [List.getElem?_eq_none (by simpa using h')] at hj; cases hj
        rw [List.getElem?_range hjl] at hj
        obtain ⟨cv, c1, _⟩ := key j hjl
        simp only [Option.map_some, Option.some.injEq] at hj
        rw [c1] at hj ⊢; simpa using hj
      · intro i j hi hj
        obtain ⟨cv, c1, c2, c3⟩ := hcs i j hi hj
        exact ⟨cv, by rw [List.getElem?_map, List.getElem?_range (mul_lt_row hi hj)]; simp [c1], c3⟩
    · have hm : m = 0 := by omega
      subst hm
      refine ⟨A, c, rfl, hnc, fun e => ⟨hA e, rfl⟩, [], by simp, by simp, by simp, fun i j hi => by omega⟩
  | row id =>
    simp only [srcOf] at hs
    have ho := R.obj id
    cases hh : h id with
    | row e sz' n get =>
      rw [hh] at hs ho
      cases hs
      obtain ⟨xs, hown, hone, hcells⟩ := ho
      have hv : v = ι id 0 := hx
      rw [hv]
      rcases hown.2 with ⟨hv0, hn0⟩ | ⟨g, cap, cur, hv0, hB, hg, hnc, hcap, hcs, htake⟩
      · subst hn0
        exact ⟨none, 0, hv0, Nat.le_refl _, fun _ => ⟨rfl, rfl⟩, [], by simp, by simp, by simp, fun i j hi => by omega⟩
      · refine ⟨_, cap, hv0, hnc, (fun e => by cases e), xs, hown.1, hone, fun ad e j u hj => ?_, hcells⟩
        cases e
        exact hown.cells (g := g) (by rw [hv0]; rfl) j u hj
    | _ => rw [hh] at hs; cases hs
  | _ => cases hs

theorem append_block {B t ty e sz n m c : Nat} {v v' : Value} {ad : Addr} {w w' : World} {P : Program} {i : TypeInfo} {z : Value} {xs news : List Value} (hu : P.underlying t = some (.slice e))
    (hi : P.info? e = some i) (hz : i.zero = some z) (hsz : i.size = sz) (hown : w.ownsRow B e sz v n xs) (hl : news.length = m * sz) (hn : ∀ (j : Nat) (u : Value), news[j]? = some u → w.cell? (ad.add j) = some u)
    (h1 : ∀ u ∈ news, u.oneCell' = true) (hle : n + m ≤ 140737488355328) (hby : (n + m) * i.bytes ≤ 140737488355328)
    (hr : (Builtin.append_ #[t, t] ty #[v, .slice (some ad) m c]).run P w = .ok v' w') : blk v' = blk v ∨ ∀ g, blk v' = some g → w.heap.size ≤ g := by
  subst hsz
  rcases hown.2 with ⟨rfl, rfl⟩ | ⟨g, cap, cur, rfl, hbg, hg, hnc, hcm, hcs, htake⟩
  · by_cases hm : m = 0
    · subst hm
      have h2 : news = [] := List.eq_nil_of_length_eq_zero (by simpa using hl)
      subst h2
      have h3 : (Builtin.append_ #[t, t] ty #[.slice none 0 0, .slice (some ad) 0 c]).run P w = .ok (.slice none 0 0) w := by
        simp [Builtin.append_, run_underlying hu, sizeOf, typeInfo, hi, Builtin.lenOf, Builtin.firstCells, loadCells, loadCellsFrom]
      rw [h3] at hr; cases hr; exact .inl rfl
    · have h3 := run_append_nil (P := P) w t ty e i z hu hi hz ad m c news hl hn (by omega) (by omega) (by simp only [Nat.zero_add] at hby; omega)
      rw [h3] at hr; cases hr
      exact .inr (fun g hg => by cases hg; exact Nat.le_refl _)
  · by_cases hroom : n + m ≤ cap
    · have hfit : n * i.size + news.length ≤ cur.size := by rw [hl, hcs, ← Nat.add_mul]; exact Nat.mul_le_mul_right _ hroom
      have h3 := run_append_room (P := P) w t ty e i hu hi g n cap cur hg ad m c news hl hn h1 hroom hfit
      rw [h3] at hr; cases hr; exact .inl rfl
    · have holds : ∀ (j : Nat) (u : Value), xs[j]? = some u → w.cell? ((⟨g, 0, none⟩ : Addr).add j) = some u := hown.cells (g := g) rfl
      have h3 := run_append_grow (P := P) w t ty e i z hu hi hz ⟨g, 0, none⟩ n cap xs hown.1 holds ad m c news hl hn (by omega) (by omega) (growslice_fits (by omega) hby)
      rw [h3] at hr; cases hr
      exact .inr (fun g hg => by cases hg; exact Nat.le_refl _)

def aappendTo (P : TT) (t d z e sz n : Nat) (get : Nat → Nat → AV) (x : AV) (env : Env) (h : Heap) (K : Env → Heap → AV → Prop) (stop : Prop) : Prop :=
  match srcOf h x with
  | some (m, sz', get2) => cond (Nat.beq sz' sz && Nat.beq sz (P.cellsOf e) && Nat.blt 0 sz && Nat.blt 0 (P.bytesOf e)) (match P.zero e with
    | some zl => cond (Nat.beq zl.length sz) (Need ((n + m) * P.bytesOf e ≤ 140737488355328)
        (K (scrubE d env) (upd (upd (scrubH d h) z .dead) d (.row e sz (n + m) (joinRow n get get2))) (.row d))) stop
    | none => stop) stop
  | none => stop

def aappend (P : TT) (t t2 d : Nat) (s x : AV) (env : Env) (h : Heap) (K : Env → Heap → AV → Prop) (stop : Prop) : Prop :=
  cond (Nat.beq t t2) (match P.underlying t with
    | some (.slice e) => match s with
      | .nils => match srcOf h x with
        | some (_, sz, _) => aappendTo P t d d e sz 0 (fun _ _ => .u) x env h K stop
        | none => stop
      | .row z => match h z with
        | .row e' sz n get => cond (Nat.beq e e') (aappendTo P t d z e sz n get x env h K stop) stop
        | _ => stop
      | _ => stop
    | _ => stop) stop

theorem aappendTo_ok (R : Rel C env h ι a w) {t d z e sz n : Nat} (ty : TypeId) {get : Nat → Nat → AV} {x : AV} {v u : Value} {xs : List Value} {K : Env → Heap → AV → Prop} {stop : Prop} (hu : C.T.underlying t = some (.slice e))
    (hown : w.ownsRow C.B e sz v n xs) (hx1 : ∀ u ∈ xs, u.oneCell' = true) (hxc : ∀ i j, i < n → j < sz → ∃ cv, xs[i * sz + j]? = some cv ∧ VR w (okB C h ι w) (get i j) noref cv)
    (hz : (v = .slice none 0 0) ∨ (h z ≠ .dead ∧ v = ι z 0)) (hx : VR w (okB C h ι w) x (rf h ι) u) (hk : aappendTo C.T t d z e sz n get x env h K stop) :
    stop ∨ Out C a w (Builtin.append_ #[t, t] ty #[v, u]) K := by
  unfold aappendTo at hk
  split at hk
  · rename_i m sz' get2 hs
    cases hbb : (Nat.beq sz' sz && Nat.beq sz (C.T.cellsOf e) && Nat.blt 0 sz && Nat.blt 0 (C.T.bytesOf e)) with
    | false => rw [hbb] at hk; exact .inl hk
    | true =>
      rw [hbb, cond_true] at hk
      simp only [Bool.and_eq_true] at hbb
      have e1 : sz' = sz := Nat.eq_of_beq_eq_true hbb.1.1.1
      have e2 : sz = C.T.cellsOf e := Nat.eq_of_beq_eq_true hbb.1.1.2
      have e3 : 0 < sz := by simpa [Nat.blt_eq] using hbb.1.2
      have e4 : 0 < C.T.bytesOf e := by simpa [Nat.blt_eq] using hbb.2
      subst e1
      split at hk
      · rename_i zl hzl
        cases hb2 : Nat.beq zl.length sz' with
        | false => rw [hb2] at hk; exact .inl hk
        | true =>
          rw [hb2, cond_true] at hk
          have e5 : zl.length = sz' := Nat.eq_of_beq_eq_true hb2
          obtain ⟨hby, hk⟩ := hk
          obtain ⟨i, zv, hi, hzz, hzs, _⟩ := zeroL_ok (C.zeroes hzl).1
          have hsz : i.size = sz' := by rw [e2, ← (C.zeroes hzl).2.1]; simp [Program.cellsOf, hi]
          have hbyt : i.bytes = C.T.bytesOf e := by rw [← (C.zeroes hzl).2.2]; simp [Program.bytesOf, hi]
          obtain ⟨A, c, rfl, hmc, hA, news, hnl, hn1, hncell, hnc⟩ := src_ok R hs hx
          have hle : n + m ≤ 140737488355328 := Nat.le_trans (Nat.le_mul_of_pos_right _ e4) hby
          have main : ∃ v' w', (Builtin.append_ #[t, t] ty #[v, .slice A m c]).run C.P w = .ok v' w' ∧ w'.ownsRow C.B e sz' v' (n + m) (xs ++ news) ∧ w.grownBy w' v.ownBlock ∧ (blk v' = blk v ∨ ∀ g, blk v' = some g → w.heap.size ≤ g) := by
            cases A with
            | some ad =>
              obtain ⟨v', w', h1, h2, h3, _⟩ := run_append_own (P := C.P) w C.B t ty e i zv sz' (C.T.bytesOf e) (C.und hu) hi hzz hsz hbyt (by rw [hzs, e5]) e3 v n xs hown ad m c news hnl (hncell ad rfl) hn1
                (by simp only [maxLen]; omega) hby R.below.size
              exact ⟨v', w', h1, h2, h3, append_block (C.und hu) hi hzz hsz hown hnl (hncell ad rfl) hn1 hle (by rw [hbyt]; exact hby) h1⟩
            | none =>
              obtain ⟨rfl, rfl⟩ := hA rfl
              have hnews : news = [] := List.eq_nil_of_length_eq_zero (by rw [hnl]; simp)
              subst hnews
              exact ⟨v, w, run_append_owned_none (P := C.P) (w := w) C.B t ty e i sz' (C.und hu) hi v n xs hown, by simpa using hown, ⟨rfl, rfl, rfl, Nat.le_refl _, fun _ _ _ => rfl⟩, .inl rfl⟩
          obtain ⟨v', w', h1, h2, h3, hblk⟩ := main
          have R' := fun getn hgetn => R.appended d z e sz' n m get get2 v v' w' xs news hown hx1 hxc hz h2 h3 hblk hn1 hnc getn hgetn
          refine .inr ⟨v', w', _, _, _, _, h1, R' _ (fun i j _ _ => rfl), by show v' = upd ι d (fun _ => v') d 0; rw [upd_same], hk⟩
      · exact .inl hk
  · exact .inl hk
theorem aappend_ok (R : Rel C env h ι a w) {t t2 d : Nat} (ty : TypeId) {s x : AV} {v u : Value} {K : Env → Heap → AV → Prop} {stop : Prop} (hs : VR w (okB C h ι w) s (rf h ι) v) (hx : VR w (okB C h ι w) x (rf h ι) u)
    (hk : aappend C.T t t2 d s x env h K stop) : stop ∨ Out C a w (Builtin.append_ #[t, t2] ty #[v, u]) K := by
  unfold aappend at hk
  cases hb : Nat.beq t t2 with
  | false => rw [hb] at hk; exact .inl hk
  | true =>
    rw [hb, cond_true] at hk
    have e0 : t = t2 := Nat.eq_of_beq_eq_true hb
    subst e0
    split at hk
    · rename_i e hu
      split at hk
      · split at hk
        · rename_i m sz get2 hsrc
          have hv : v = .slice none 0 0 := hs
          subst hv
          exact aappendTo_ok R ty hu (World.ownsRow_nil w C.B e sz) (by simp) (fun i j hi => by omega) (.inl rfl) hx hk
        · exact .inl hk
      · rename_i z
        split at hk
        · rename_i e' sz n get hh
          cases hb2 : Nat.beq e e' with
          | false => rw [hb2] at hk; exact .inl hk
          | true =>
            rw [hb2, cond_true] at hk
            have e1 : e = e' := Nat.eq_of_beq_eq_true hb2
            subst e1
            have ho := R.obj z
            rw [hh] at ho
            obtain ⟨xs, hown, hone, hcells⟩ := ho
            have hv : v = ι z 0 := hs
            subst hv
            exact aappendTo_ok R ty hu hown hone hcells (.inr ⟨by rw [hh]; simp, rfl⟩) hx hk
        · exact .inl hk
      · exact .inl hk
    · exact .inl hk

/-! ### slicing -/
def aslice (P : TT) (t : TypeId) (x : AV) (lo hi : Option AV) (K : AV → Prop) (stop : Prop) : Prop :=
  match P.underlying t, x with
  | some .string, .str s => match lo, hi with
    | some (.int _ l), some (.int _ r) => Need (0 ≤ l ∧ l ≤ r ∧ r ≤ s.size) (K (.str (s.extract l.toNat r.toNat)))
    | some (.int _ l), none => Need (0 ≤ l ∧ l ≤ s.size) (K (.str (s.extract l.toNat s.size)))
    | none, some (.int _ r) => Need (0 ≤ r ∧ r ≤ s.size) (K (.str (s.extract 0 r.toNat)))
    | none, none => K (.str (s.extract 0 s.size))
    | _, _ => stop
  | some (.slice e), .sl n sz get => match P.underlying e with
    | some _ => cond (Nat.beq (P.cellsOf e) sz) (match lo, hi with
      | some (.int _ l), some (.int _ r) => Need (0 ≤ l ∧ l ≤ r ∧ r ≤ n) (K (.sl (r.toNat - l.toNat) sz (fun i j => get (l.toNat + i) j)))
      | some (.int _ l), none => Need (0 ≤ l ∧ l ≤ n) (K (.sl (n - l.toNat) sz (fun i j => get (l.toNat + i) j)))
      | none, some (.int _ r) => Need (0 ≤ r ∧ r ≤ n) (K (.sl r.toNat sz get))
      | _, _ => stop) stop
    | none => stop
  | _, _ => stop

theorem extract_size (s : ByteArray) (l r : Nat) : (s.extract l r).size ≤ s.size := by
  rw [ByteArray.size_extract]; omega

theorem sl_cut {n sz : Nat} {get : Nat → Nat → AV} {ok : Nat → Prop} {A : Option Addr} {c l m : Nat} (hlm : l + m ≤ n) (hnc : n ≤ c) (hc : c ≤ maxLen) (hA : A = none → c = 0)
    (hcells : 0 < n → ∃ ad : Addr, A = some ad ∧ ok ad.block ∧ ∀ i j, i < n → j < sz → ∃ cv, w.cell? (ad.add (i * sz + j)) = some cv ∧ cv.oneCell' = true ∧ VR w ok (get i j) noref cv) (r : Ref) :
    VR w ok (.sl m sz (fun i j => get (l + i) j)) r (.slice (if c = l then A else A.map (·.add (l * sz))) m (c - l)) := by
  refine ⟨_, _, rfl, by omega, by omega, fun e => ?_, fun hm => ?_⟩
  · split at e
    · have := hA e; omega
    · cases A with
      | none => have := hA rfl; omega
      | some ad => cases e
  · obtain ⟨ad, rfl, hb, hcs⟩ := hcells (by omega)
    rw [if_neg (by omega)]
    refine ⟨_, rfl, by rw [addr_block]; exact hb, fun i j hi hj => ?_⟩
    rw [addr_add]
    obtain ⟨cv, c1, c2, c3⟩ := hcs (l + i) j (by omega) hj
    refine ⟨cv, ?_, c2, c3⟩
    rw [← c1]; congr 2; rw [Nat.add_mul]; omega

theorem aslice_ok (R : Rel C env h ι a w) {t : TypeId} {x : AV} {v : Value} {lo hi : Option AV} {lv hv : Option Value} {K : Env → Heap → AV → Prop} {stop : Prop} (hx : VR w (okB C h ι w) x (rf h ι) v)
    (hlo : lo.isSome = lv.isSome ∧ ∀ y u, lo = some y → lv = some u → VR w (okB C h ι w) y (rf h ι) u) (hhi : hi.isSome = hv.isSome ∧ ∀ y u, hi = some y → hv = some u → VR w (okB C h ι w) y (rf h ι) u)
    (hk : aslice C.T t x lo hi (K env h) stop) : stop ∨ Out C a w (Instr.sliceAt t v lv hv none) K := by
  have int_of : ∀ {o : Option AV} {ov : Option Value} {k : IntKind} {n : Int}, (o.isSome = ov.isSome ∧ ∀ y u, o = some y → ov = some u → VR w (okB C h ι w) y (rf h ι) u) → o = some (.int k n) → ov = some (.int k n) := by
    intro o ov k n ho e
    subst e
    cases ov with
    | none => cases ho.1
    | some u => have := ho.2 _ _ rfl rfl; rw [show u = .int k n from this]
  have none_of : ∀ {o : Option AV} {ov : Option Value}, (o.isSome = ov.isSome ∧ ∀ y u, o = some y → ov = some u → VR w (okB C h ι w) y (rf h ι) u) → o = none → ov = none := by
    intro o ov ho e
    subst e
    cases ov with
    | none => rfl
    | some u => cases ho.1
  unfold aslice at hk
  split at hk
  · rename_i s hu
    obtain ⟨rfl, hs⟩ : v = .string s ∧ s.size ≤ maxLen := hx
    have hsl : ∀ l r, (s.extract l r).size ≤ maxLen := fun l r => Nat.le_trans (extract_size s l r) hs
    split at hk
    · rename_i kl l kr r
      have e1 := int_of hlo rfl
      have e2 := int_of hhi rfl
      subst e1; subst e2
      obtain ⟨⟨h0, h1, h2⟩, hk⟩ := hk
      refine .inr (Out.same R hk (v := .string (s.extract l.toNat r.toNat)) ?_ ⟨rfl, hsl _ _⟩)
      rw [run_sliceAt_string w t _ _ _ _ (C.und hu)]
      simp [Instr.slice, run_und hu, Instr.sliceBounds, Instr.sliceBound, asIntOf, h0, h1, h2, show 0 ≤ r by omega, show l ≤ (r.toNat : Int) by omega]
      intro hh; omega
    · rename_i kl l
      have e1 := int_of hlo rfl
      have e2 := none_of hhi rfl
      subst e1; subst e2
      obtain ⟨⟨h0, h1⟩, hk⟩ := hk
      refine .inr (Out.same R hk (v := .string (s.extract l.toNat s.size)) ?_ ⟨rfl, hsl _ _⟩)
      rw [run_sliceAt_string w t _ _ _ _ (C.und hu)]
      simp [Instr.slice, run_und hu, Instr.sliceBounds, Instr.sliceBound, asIntOf, h0, h1]
    · rename_i kr r
      have e1 := none_of hlo rfl
      have e2 := int_of hhi rfl
      subst e1; subst e2
      obtain ⟨⟨h0, h1⟩, hk⟩ := hk
      refine .inr (Out.same R hk (v := .string (s.extract 0 r.toNat)) ?_ ⟨rfl, hsl _ _⟩)
      rw [run_sliceAt_string w t _ _ _ _ (C.und hu)]
      simp [Instr.slice, run_und hu, Instr.sliceBounds, Instr.sliceBound, asIntOf, h0, h1]
    · have e1 := none_of hlo rfl
      have e2 := none_of hhi rfl
      subst e1; subst e2
      refine .inr (Out.same R hk (v := .string (s.extract 0 s.size)) ?_ ⟨rfl, hsl _ _⟩)
      rw [run_sliceAt_string w t _ _ _ _ (C.und hu)]
      simp [Instr.slice, run_und hu, Instr.sliceBounds, Instr.sliceBound, asIntOf]
    · exact .inl hk
  · rename_i e n sz get hu
    obtain ⟨A, c, rfl, hnc, hc, hA, hcells⟩ := hx
    have hu' : C.P.underlying t = some (.slice (C.P.elem t)) := by simp [Program.elem, C.und hu]
    split at hk
    · rename_i de hue
      cases hb : Nat.beq (C.T.cellsOf e) sz with
      | false => rw [hb] at hk; exact .inl hk
      | true =>
        rw [hb, cond_true] at hk
        have hsz : C.T.cellsOf e = sz := Nat.eq_of_beq_eq_true hb
        split at hk
        · rename_i kl l kr r
          have e1 := int_of hlo rfl
          have e2 := int_of hhi rfl
          subst e1; subst e2
          obtain ⟨⟨h0, h1, h2⟩, hk⟩ := hk
          refine .inr (Out.same R hk (v := .slice (if c = l.toNat then A else A.map (·.add (l.toNat * sz))) (r.toNat - l.toNat) (c - l.toNat)) ?_ (sl_cut (by omega) hnc hc hA hcells _))
          rw [run_sliceAt_slice w t _ _ _ _ hu']
          simp [Instr.slice, run_und hu, Instr.sliceBounds, Instr.sliceBound, asIntOf, h0, h1, show r ≤ (c : Int) by omega, show 0 ≤ r by omega, show l ≤ (r.toNat : Int) by omega, run_sizeOf hue, hsz]
          intro hh; omega
        · rename_i kl l
          have e1 := int_of hlo rfl
          have e2 := none_of hhi rfl
          subst e1; subst e2
          obtain ⟨⟨h0, h1⟩, hk⟩ := hk
          refine .inr (Out.same R hk (v := .slice (if c = l.toNat then A else A.map (·.add (l.toNat * sz))) (n - l.toNat) (c - l.toNat)) ?_ (sl_cut (by omega) hnc hc hA hcells _))
          rw [run_sliceAt_slice w t _ _ _ _ hu']
          simp [Instr.slice, run_und hu, Instr.sliceBounds, Instr.sliceBound, asIntOf, h0, h1, run_sizeOf hue, hsz]
        · rename_i kr r
          have e1 := none_of hlo rfl
          have e2 := int_of hhi rfl
          subst e1; subst e2
          obtain ⟨⟨h0, h1⟩, hk⟩ := hk
          have hcut := sl_cut (w := w) (l := 0) (m := r.toNat) (by omega) hnc hc hA hcells (rf h ι)
          simp only [Nat.zero_add, Nat.zero_mul, Nat.sub_zero] at hcut
          refine .inr (Out.same R hk (v := .slice (if c = 0 then A else A.map (·.add 0)) r.toNat c) ?_ hcut)
          rw [run_sliceAt_slice w t _ _ _ _ hu']
          simp [Instr.slice, run_und hu, Instr.sliceBounds, Instr.sliceBound, asIntOf, h0, show r ≤ (c : Int) by omega, run_sizeOf hue, hsz]
        · exact .inl hk
    · exact .inl hk
  · exact .inl hk

/-! ### numbers turned into others -/
def aconvert (P : TT) (s d : TypeId) (x : AV) (K : AV → Prop) (stop : Prop) : Prop :=
  match P.underlying s, P.underlying d, x with
  | some _, some (.int k), .int _ n => K (.int k (k.wrap n))
  | some _, some .string, .int _ n => K (.str (Utf8.encode n))
  | some _, some .string, .str t => K (.str t)
  | _, _, _ => stop

theorem encode_small (n : Int) : (Utf8.encode n).size ≤ 4 := by
  unfold Utf8.encode
  dsimp only
  repeat' split
  all_goals simp [ByteArray.size]

theorem aconvert_ok (R : Rel C env h ι a w) {s d : TypeId} {x : AV} {v : Value} {K : Env → Heap → AV → Prop} {stop : Prop} (hx : VR w (okB C h ι w) x (rf h ι) v)
    (hk : aconvert C.T s d x (K env h) stop) : stop ∨ Out C a w (convert s d v) K := by
  unfold aconvert at hk
  split at hk
  · rename_i ds k k' n hs hd
    have e : v = .int k' n := hx
    subst e
    exact .inr (Out.same R hk (v := .int k (k.wrap n)) (by simp [convert, run_und hs, run_und hd, Conv.intToInt]) rfl)
  · rename_i ds k' n hs hd
    have e : v = .int k' n := hx
    subst e
    refine .inr (Out.same R hk (v := .string (Utf8.encode n)) (by simp [convert, run_und hs, run_und hd, Conv.intToString]) ⟨rfl, ?_⟩)
    have := encode_small n
    simp only [maxLen]; omega
  · rename_i ds t hs hd
    obtain ⟨rfl, h1⟩ : v = .string t ∧ t.size ≤ maxLen := hx
    exact .inr (Out.same R hk (v := .string t) (by simp [convert, run_und hs, run_und hd]) ⟨rfl, h1⟩)
  · exact .inl hk
end

end Go.Proofs.YtfodjmemdkibpaaDoor.V
