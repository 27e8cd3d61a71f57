/-
The texts V0, VG, MA, of each what the law needs.
-/
import Derived.WalkKit
import Derived.KernelRfl
import Derived.Deep.Draws
import Derived.DataElems
import Derived.Laws.MakeOwn
import Derived.Laws.OwnMore
import Derived.Lib.Builder
import Derived.Lib.AppendStr
import Derived.Maps.Keyed
import Derived.Laws.Slices
namespace Go.Proofs.YteklnpgiloebcaaDoor.V
set_option linter.unusedVariables false
set_option linter.unusedSimpArgs false
open Go Go.RowKit

inductive AV where
  | u | sk | tt | ff
  | bool (b : Bool)
  | int (k : IntKind) (n : Int)
  | str (s : ByteArray)
  | nils
  | sl (n sz : Nat) (get : Nat → Nat → AV)
  | iadr (m : Nat) (get : Nat → AV)
  | agg (n : Nat) (get : Nat → AV)
  | tup (n : Nat) (get : Nat → AV)
  | nilp | nilif
  | row (id : Nat)
  | radr (id sz i j : Nat)
  | box (id off : Nat)
  | obj (id : Nat)
  | mrow (id i : Nat)
  | madr (id i sz a b : Nat)
  | ptr
  | fn (f : Nat)
  | val (c : Value)
  | one
  | gtab (cs : Array Value)

abbrev Ref := AV → Value → Prop
def noref : Ref := fun _ _ => False

def VR (w : World) (ok : Nat → Prop) : AV → Ref → Value → Prop
  | .u, _, _ => True
  | .sk, _, v => v = undef
  | .tt, _, v => v = .bool true
  | .ff, _, v => v = .bool false
  | .bool b, _, v => v = .bool b
  | .int k n, _, v => v = .int k n
  | .str s, _, v => v = .string s ∧ s.size ≤ maxLen
  | .nils, _, v => v = .slice none 0 0
  | .sl n sz get, _, v => ∃ A c, v = .slice A n c ∧ n ≤ c ∧ c ≤ maxLen ∧ (A = none → c = 0) ∧ (0 < n → ∃ ad : Addr, A = some ad ∧ ok ad.block ∧ ∀ i j, i < n → j < sz → ∃ cv, w.cell? (ad.add (i * sz + j)) = some cv ∧ cv.oneCell' = true ∧ VR w ok (get i j) noref cv)
  | .iadr m get, _, v => ∃ ad : Addr, v = .pointer (some ad) ∧ ok ad.block ∧ ∀ j, j < m → ∃ cv, w.cell? (ad.add j) = some cv ∧ cv.oneCell' = true ∧ VR w ok (get j) noref cv
  | .agg n get, r, v => ∃ cs : Array Value, v = .agg cs ∧ cs.size = n ∧ ∀ j, j < n → ∃ cv, cs[j]? = some cv ∧ cv.oneCell' = true ∧ VR w ok (get j) r cv
  | .tup n get, r, v => ∃ cs : Array Value, v = .tuple cs ∧ cs.size = n ∧ ∀ j, j < n → ∃ cv, cs[j]? = some cv ∧ VR w ok (get j) r cv
  | .nilp, _, v => v = .pointer none
  | .nilif, _, v => v = .nilIface
  | .row id, r, v => r (.row id) v
  | .radr id sz i j, r, v => r (.radr id sz i j) v
  | .box id off, r, v => r (.box id off) v
  | .obj id, r, v => r (.obj id) v
  | .mrow id i, r, v => r (.mrow id i) v
  | .madr id i sz a b, r, v => r (.madr id i sz a b) v
  | .ptr, _, v => ∃ p, v = .pointer p
  | .fn f, _, v => v = .func (.func f) #[] #[]
  | .val c, _, v => v = c ∧ c.oneCell' = true
  | .one, _, v => v.oneCell' = true
  | .gtab cs, _, v => ∃ (g : Nat) (t : TypeId) (fz : Nat × Nat), v = .pointer (some ⟨g, 0, none⟩) ∧ ok g ∧ w.heap[g]? = some (.cells cs t fz)

theorem VR.mono {w w' : World} {ok ok' : Nat → Prop} (hok : ∀ b, ok b → ok' b) (hw : ∀ b, ok b → w'.heap[b]? = w.heap[b]?) :
    ∀ (x : AV) (r r' : Ref) (v : Value), (∀ y v, r y v → r' y v) → VR w ok x r v → VR w' ok' x r' v := by
  intro x
  induction x with
  | sl n sz get ih =>
    intro r r' v _ h
    obtain ⟨A, c, e, h1, h2, h4, h3⟩ := h
    refine ⟨A, c, e, h1, h2, h4, fun hn => ?_⟩
    obtain ⟨ad, e, hb, hc⟩ := h3 hn
    refine ⟨ad, e, hok _ hb, fun i j hi hj => ?_⟩
    obtain ⟨cv, c1, c2, c3⟩ := hc i j hi hj
    have hbl : (ad.add (i * sz + j)).block = ad.block := by unfold Addr.add; split <;> rfl
    exact ⟨cv, (World.cell?_of_block (w := w) (by rw [hbl]; exact hw _ hb)).trans c1, c2, ih i j _ _ _ (fun _ _ h => h) c3⟩
  | iadr m get ih =>
    intro r r' v _ h
    obtain ⟨ad, e, hb, hc⟩ := h
    refine ⟨ad, e, hok _ hb, fun j hj => ?_⟩
    obtain ⟨cv, c1, c2, c3⟩ := hc j hj
    have hbl : (ad.add j).block = ad.block := by unfold Addr.add; split <;> rfl
    exact ⟨cv, (World.cell?_of_block (w := w) (by rw [hbl]; exact hw _ hb)).trans c1, c2, ih j _ _ _ (fun _ _ h => h) c3⟩
  | agg n get ih =>
    intro r r' v hr h
    obtain ⟨cs, e, hs, hc⟩ := h
    refine ⟨cs, e, hs, fun j hj => ?_⟩
    obtain ⟨cv, c1, c2, c3⟩ := hc j hj
    exact ⟨cv, c1, c2, ih j _ _ _ hr c3⟩
  | tup n get ih =>
    intro r r' v hr h
    obtain ⟨cs, e, hs, hc⟩ := h
    refine ⟨cs, e, hs, fun j hj => ?_⟩
    obtain ⟨cv, c1, c3⟩ := hc j hj
    exact ⟨cv, c1, ih j _ _ _ hr c3⟩
  | row id => intro r r' v hr h; exact hr _ _ h
  | radr id sz i j => intro r r' v hr h; exact hr _ _ h
  | box id off => intro r r' v hr h; exact hr _ _ h
  | obj id => intro r r' v hr h; exact hr _ _ h
  | mrow id i => intro r r' v hr h; exact hr _ _ h
  | madr id i sz a b => intro r r' v hr h; exact hr _ _ h
  | gtab cs =>
    intro r r' v _ h
    obtain ⟨g, t, fz, e, hb, hc⟩ := h
    exact ⟨g, t, fz, e, hok _ hb, (hw _ hb).trans hc⟩
  | _ => intro r r' v _ h; exact h

end Go.Proofs.YteklnpgiloebcaaDoor.V

namespace Go.Proofs.YteklnpgiloebcaaDoor.V
set_option linter.unusedVariables false
set_option linter.unusedSimpArgs false
/-- utf8.first: what a first byte says. -/
def firstT (b : Nat) : Int :=
  if b < 128 then 240 else if b < 194 then 241 else if b < 224 then 2 else if b < 225 then 19 else if b < 237 then 3 else if b < 238 then 35 else if b < 240 then 3 else if b < 241 then 52 else if b < 244 then 4 else if b < 245 then 68 else 241
/-- utf8.acceptRanges: from which byte on, up to which byte. -/
def accT (j : Nat) : Int := [128, 191, 160, 191, 128, 159, 144, 191, 128, 143].getD j 0
/-- strconv's powers of ten. -/
def powV : Array Value := ((List.range 20).map fun i => Value.int .u64 ((10 ^ i : Nat) : Int)).toArray
def GL : Nat → AV := fun g => match g with
  | 4 => .iadr 256 (fun j => .int .u8 (firstT j))
  | 5 => .iadr 32 (fun j => .int .u8 (accT j))
  | 1 => .iadr 1 (fun _ => .one)
  | 3 => .gtab powV
  | _ => .u
end Go.Proofs.YteklnpgiloebcaaDoor.V

namespace Go.Proofs.YteklnpgiloebcaaDoor.V
set_option linter.unusedVariables false
set_option linter.unusedSimpArgs false
open Go Go.RowKit
/-- The block's cells; none is frozen. -/
def cellsX (w : World) (g : Nat) (cur : Array Value) (e : TypeId) : Prop := ∃ fz : Nat × Nat, w.heap[g]? = some (.cells cur e fz) ∧ (fz.2 = 0 ∨ cur.size ≤ fz.1)
theorem cellsX.lt {w : World} {g : Nat} {cur : Array Value} {e : TypeId} (h : cellsX w g cur e) : g < w.heap.size := by
  obtain ⟨fz, hg, _⟩ := h
  exact (Array.getElem?_eq_some_iff.1 hg).1
theorem cellsX.cell {w : World} {g : Nat} {cur : Array Value} {e : TypeId} (h : cellsX w g cur e) (j : Nat) : w.cell? ⟨g, j, none⟩ = cur[j]? := by
  obtain ⟨fz, hg, _⟩ := h
  exact cell_of_row w g j cur e fz hg
theorem cellsX.shape {w : World} {g : Nat} {cur : Array Value} {e : TypeId} (h : cellsX w g cur e) : w.shape? g = some (e, cur.size) := by
  obtain ⟨fz, hg, _⟩ := h
  simp [World.shape?, hg]
theorem cellsX.keep {w w' : World} {g : Nat} {cur : Array Value} {e : TypeId} (h : cellsX w g cur e) (hb : w'.heap[g]? = w.heap[g]?) : cellsX w' g cur e := by
  obtain ⟨fz, hg, hf⟩ := h
  exact ⟨fz, hb.trans hg, hf⟩
theorem cellsX.set {w : World} {g : Nat} {cur cs : Array Value} {e : TypeId} (h : cellsX w g cur e) (hs : cs.size = cur.size) : cellsX (w.setRow g cs) g cs e := by
  obtain ⟨fz, hg, hf⟩ := h
  exact ⟨fz, setRow_heap w g cur cs e fz hg, by rw [hs]; exact hf⟩
theorem cellsX.of {w : World} {g : Nat} {cur : Array Value} {e : TypeId} (h : w.heap[g]? = some (.cells cur e (0, 0))) : cellsX w g cur e := ⟨(0, 0), h, .inl rfl⟩
theorem cellsX.thaw {w : World} {g j : Nat} {cur : Array Value} {e : TypeId} (h : cellsX w g cur e) (hj : j < cur.size) : w.frozen? ⟨g, j, none⟩ = false := by
  obtain ⟨⟨lo, hi⟩, hg, hf⟩ := h
  simp only [World.frozen?, hg]
  simp only at hf
  rcases hf with hf | hf
  · subst hf; simp
  · rw [show decide (lo ≤ j) = false from decide_eq_false (by omega)]; rfl
theorem run_storeCells_atX (P : Program) (g o : Nat) (t : TypeId) : ∀ (vs : List Value) (i : Nat) (cur : Array Value) (w : World), cellsX w g cur t → o + i + vs.length ≤ cur.size → (∀ v ∈ vs, v.oneCell' = true) →
    (storeCells ⟨g, o, none⟩ vs i).run P w = .ok () (w.setRow g (cur.toList.take (o + i) ++ vs ++ cur.toList.drop (o + i + vs.length)).toArray)
  | [], i, cur, w, hg, _, _ => by
    simp only [storeCells, List.append_nil, List.length_nil, Nat.add_zero, List.take_append_drop, Array.toArray_toList]
    obtain ⟨fz, hg, _⟩ := hg
    rw [setRow_self w g cur t fz hg]
    rfl
  | v :: rest, i, cur, w, hg, hl, h1 => by
    have hi : o + i < cur.size := by simp at hl; omega
    have hadd : (⟨g, o, none⟩ : Addr).add i = ⟨g, o + i, none⟩ := by unfold Addr.add; split <;> simp_all
    have hcell : w.cell? ⟨g, o + i, none⟩ = some cur[o + i] := by rw [hg.cell]; simp [hi]
    have hfro : w.frozen? ⟨g, o + i, none⟩ = false := hg.thaw hi
    have hst : (store ((⟨g, o, none⟩ : Addr).add i) v).run P w = .ok () (w.setRow g (cur.setIfInBounds (o + i) v)) := by
      rw [hadd, run_store P w _ v _ (h1 v (by simp)), hcell]
      obtain ⟨fz, hg', _⟩ := hg
      simp [hfro, setCell_eq_setRow w g (o + i) cur t fz v hg']
    have ih := run_storeCells_atX P g o t rest (i + 1) (cur.setIfInBounds (o + i) v) (w.setRow g (cur.setIfInBounds (o + i) v)) (hg.set (by simp)) (by simp at hl ⊢; omega) (fun x hx => h1 x (by simp [hx]))
    simp only [storeCells, Sem.run_bind, hst, Result.andThen_ok, ih, setRow_setRow]
    congr 3
    have e := list_seg_step cur.toList (o + i) v rest (by simp at hl ⊢; omega)
    simpa [Array.toList_setIfInBounds, Nat.add_assoc] using e
/-- The slice 'v' of 'n' elements of 'size' cells owns the cells 'xs'. -/
def ownsX (w : World) (base : Nat) (e : TypeId) (size : Nat) (v : Value) (n : Nat) (xs : List Value) : Prop :=
  xs.length = n * size ∧
  ((v = .slice none 0 0 ∧ n = 0) ∨
   ∃ g cap cur, v = .slice (some ⟨g, 0, none⟩) n cap ∧ base ≤ g ∧ cellsX w g cur e ∧ n ≤ cap ∧ cap ≤ maxLen ∧ cur.size = cap * size ∧ cur.toList.take (n * size) = xs)
section
variable {w : World} {base : Nat} {e : TypeId} {size : Nat} {v : Value} {n : Nat} {xs : List Value}
theorem ownsX_of (h : w.ownsRow base e size v n xs) : ownsX w base e size v n xs := by
  refine ⟨h.1, ?_⟩
  rcases h.2 with hn | ⟨g, cap, cur, hv, hb, hg, rest⟩
  · exact .inl hn
  · exact .inr ⟨g, cap, cur, hv, hb, .of hg, rest⟩
theorem ownsX_nil (w : World) (base : Nat) (e : TypeId) (size : Nat) : ownsX w base e size (.slice none 0 0) 0 [] := ⟨by simp, .inl ⟨rfl, rfl⟩⟩
theorem ownsX.lt (h : ownsX w base e size v n xs) : ∀ k, v.ownBlock = some k → base ≤ k ∧ k < w.heap.size := by
  intro k hk
  rcases h.2 with ⟨rfl, _⟩ | ⟨g, cap, cur, rfl, hb, hg, _⟩
  · simp [Value.ownBlock] at hk
  · simp [Value.ownBlock] at hk
    subst hk
    exact ⟨hb, hg.lt⟩
theorem ownsX.cells (h : ownsX w base e size v n xs) {g : Nat} (hg : v.ownBlock = some g) : ∀ j u, xs[j]? = some u → w.cell? ((⟨g, 0, none⟩ : Addr).add j) = some u := by
  intro j u hu
  rcases h.2 with ⟨rfl, _⟩ | ⟨g', cap, cur, rfl, _, hgg, _, _, _, htake⟩
  · simp [Value.ownBlock] at hg
  · simp [Value.ownBlock] at hg
    subst hg
    have hadd : (⟨g', 0, none⟩ : Addr).add j = ⟨g', j, none⟩ := by unfold Addr.add; split <;> simp_all
    rw [hadd, hgg.cell]
    rw [← htake, List.getElem?_take] at hu
    split at hu
    · simpa using hu
    · cases hu
end
section
variable {P : Program} (w : World)
theorem run_append_roomX (t ty e : TypeId) (i : TypeInfo) (ht : P.underlying t = some (.slice e)) (hi : P.info? e = some i)
    (g sLen sCap : Nat) (cur : Array Value) (hg : cellsX w g cur e)
    (a : Addr) (m c : Nat) (news : List Value) (hl : news.length = m * i.size) (hnews : ∀ j u, news[j]? = some u → w.cell? (a.add j) = some u) (h1 : ∀ u ∈ news, u.oneCell' = true)
    (hroom : sLen + m ≤ sCap) (hfit : sLen * i.size + news.length ≤ cur.size) :
    (Builtin.append_ #[t, t] ty #[.slice (some ⟨g, 0, none⟩) sLen sCap, .slice (some a) m c]).run P w =
      .ok (.slice (some ⟨g, 0, none⟩) (sLen + m) sCap) (w.setRow g (cur.toList.take (sLen * i.size) ++ news ++ cur.toList.drop (sLen * i.size + news.length)).toArray) := by
  have hf := run_firstCells_some (P := P) w i.size m a m c news hl hnews
  have hst := run_storeCells_atX P g (sLen * i.size) e news 0 cur w hg (by simpa using hfit) h1
  simp only [Nat.add_zero] at hst
  simp [Builtin.append_, run_underlying ht, sizeOf, typeInfo, hi, Builtin.lenOf, hroom, hf, Addr.add_lit, hst]
theorem room_kept {g cap n m size : Nat} {cur : Array Value} {e : TypeId} {xs news : List Value} {base : Nat} (hbg : base ≤ g) (hg : cellsX w g cur e) (hcm : cap ≤ maxLen) (hcs : cur.size = cap * size) (htake : cur.toList.take (n * size) = xs)
    (hl : news.length = m * size) (hroom : n + m ≤ cap) (hlen : (xs ++ news).length = (n + m) * size) :
    ownsX (w.setRow g (cur.toList.take (n * size) ++ news ++ cur.toList.drop (n * size + news.length)).toArray) base e size (.slice (some ⟨g, 0, none⟩) (n + m) cap) (n + m) (xs ++ news) := by
  have h5 : (n + m) * size ≤ cap * size := Nat.mul_le_mul_right _ hroom
  rw [Nat.add_mul] at h5
  have hz : (cur.toList.take (n * size) ++ news ++ cur.toList.drop (n * size + news.length)).toArray.size = cur.size := by
    simp only [List.size_toArray, List.length_append, List.length_take, List.length_drop, Array.length_toList]
    omega
  refine ⟨hlen, .inr ⟨g, cap, _, rfl, hbg, hg.set hz, hroom, hcm, by rw [hz]; exact hcs, ?_⟩⟩
  rw [htake, ← hlen]
  exact List.take_left
theorem run_append_ownX (base : Nat) (t ty e : TypeId) (i : TypeInfo) (z : Value) (size bytes : Nat) (ht : P.underlying t = some (.slice e)) (hi : P.info? e = some i) (hz : i.zero = some z)
    (hsize : i.size = size) (hby : i.bytes = bytes) (hzs : z.cells.size = size) (hsz : 0 < size)
    (v : Value) (n : Nat) (xs : List Value) (hown : ownsX w base e size v n xs)
    (a : Addr) (m c : Nat) (news : List Value) (hl : news.length = m * size) (hnews : ∀ j u, news[j]? = some u → w.cell? (a.add j) = some u) (h1 : ∀ u ∈ news, u.oneCell' = true)
    (h63 : n + m ≤ maxLen) (hbytes : (n + m) * bytes ≤ 140737488355328) (hbase : base ≤ w.heap.size) :
    ∃ v' w', (Builtin.append_ #[t, t] ty #[v, .slice (some a) m c]).run P w = .ok v' w' ∧ ownsX w' base e size v' (n + m) (xs ++ news) ∧ w.grownBy w' v.ownBlock := by
  subst hsize
  subst hby
  have hsmall : n + m ≤ 9223372036854775807 := by simp only [maxLen] at h63; omega
  have hlen : (xs ++ news).length = (n + m) * i.size := by rw [List.length_append, hown.1, hl, Nat.add_mul]
  rcases hown.2 with ⟨rfl, rfl⟩ | ⟨g, cap, cur, rfl, hbg, hg, hnc, hcm, hcs, htake⟩
  · have hx : xs = [] := List.eq_nil_of_length_eq_zero (by simpa using hown.1)
    subst hx
    obtain ⟨v', w', k1, k2, k3, _⟩ := run_append_own (P := P) w base t ty e i z i.size i.bytes ht hi hz rfl rfl hzs hsz (.slice none 0 0) 0 [] (World.ownsRow_nil w base e i.size) a m c news hl hnews h1 h63 hbytes hbase
    exact ⟨v', w', k1, ownsX_of k2, k3⟩
  · by_cases hroom : n + m ≤ cap
    · have hfit : n * i.size + news.length ≤ cur.size := by rw [hl, hcs, ← Nat.add_mul]; exact Nat.mul_le_mul_right _ hroom
      have hr := run_append_roomX (P := P) w t ty e i ht hi g n cap cur hg a m c news hl hnews h1 hroom hfit
      exact ⟨_, _, hr, room_kept w hbg hg hcm hcs htake hl hroom hlen, ⟨rfl, rfl, rfl, by simp, fun k _ hk => setRow_other w g k _ (fun e => hk (by simp [Value.ownBlock, e]))⟩⟩
    · have holds : ∀ j u, xs[j]? = some u → w.cell? ((⟨g, 0, none⟩ : Addr).add j) = some u := hown.cells (g := g) rfl
      have hr := run_append_grow (P := P) w t ty e i z ht hi hz ⟨g, 0, none⟩ n cap xs hown.1 holds a m c news hl hnews (by omega) (by omega) (growslice_fits (by omega) hbytes)
      have hge := grownCap_ge w (n + m) cap e
      have hcm2 : grownCap w (n + m) cap e ≤ maxLen := grownCap_le_maxLen w (n + m) cap e h63
      refine ⟨_, _, hr, ⟨hlen, .inr ⟨w.heap.size, _, _, rfl, hbase, .of (heap_alloc_new w.drew _), hge, hcm2, ?_, ?_⟩⟩, ⟨rfl, rfl, rfl, by simp, fun k hk _ => heap_alloc_old w.drew _ hk⟩⟩
      · simp only [Array.size_append, List.size_toArray, size_zeroCells, hzs, hown.1, hl, ← Nat.add_mul]
        congr 1
        omega
      · simp only [Array.toList_append, List.append_assoc]
        rw [← List.append_assoc, ← hlen]
        exact List.take_left
theorem run_append_noneX (base : Nat) (t ty e : TypeId) (i : TypeInfo) (size : Nat) (ht : P.underlying t = some (.slice e)) (hi : P.info? e = some i) (v : Value) (n : Nat) (xs : List Value) (hown : ownsX w base e size v n xs) :
    (Builtin.append_ #[t, t] ty #[v, .slice none 0 0]).run P w = .ok v w := by
  rcases hown.2 with ⟨rfl, rfl⟩ | ⟨g, cap, cur, rfl, hbg, hg, hnc, hcm, hcs, htake⟩
  · exact run_append_owned_none (P := P) (w := w) base t ty e i size ht hi (.slice none 0 0) 0 [] (World.ownsRow_nil w base e size)
  · simp [Builtin.append_, run_underlying ht, sizeOf, typeInfo, hi, Builtin.lenOf, hnc, Builtin.firstCells, loadCells, loadCellsFrom, storeCells]
theorem run_append_room_stringX (t u ty e : TypeId) (i : TypeInfo) (ht : P.underlying t = some (.slice e)) (hu : P.underlying u = some .string) (hi : P.info? e = some i) (hs1 : i.size = 1)
    (g sLen sCap : Nat) (cur : Array Value) (hg : cellsX w g cur e) (s : ByteArray)
    (hroom : sLen + s.size ≤ sCap) (hfit : sLen + s.size ≤ cur.size) :
    (Builtin.append_ #[t, u] ty #[.slice (some ⟨g, 0, none⟩) sLen sCap, .string s]).run P w =
      .ok (.slice (some ⟨g, 0, none⟩) (sLen + s.size) sCap) (w.setRow g (cur.toList.take sLen ++ Lib.strCells s ++ cur.toList.drop (sLen + s.size)).toArray) := by
  have hf := Lib.run_firstCells_string (P := P) w 1 s
  have hst := run_storeCells_atX P g sLen e (Lib.strCells s) 0 cur w hg (by simpa [Lib.strCells_length] using hfit) (Lib.strCells_oneCell s)
  simp only [Nat.add_zero, Lib.strCells_length] at hst
  simp [Builtin.append_, run_underlying ht, run_underlying hu, sizeOf, typeInfo, hi, hs1, Builtin.lenOf, hroom, hf, Addr.add_lit, hst]
theorem run_append_own_stringX (base : Nat) (t u ty e : TypeId) (i : TypeInfo) (ht : P.underlying t = some (.slice e)) (hu : P.underlying u = some .string) (hi : P.info? e = some i) (hz : i.zero = some (.int .u8 0))
    (hsize : i.size = 1) (hby : i.bytes = 1)
    (v : Value) (n : Nat) (xs : List Value) (hown : ownsX w base e 1 v n xs) (s : ByteArray)
    (h63 : n + s.size ≤ maxLen) (hbytes : n + s.size ≤ 140737488355328) (hbase : base ≤ w.heap.size) :
    ∃ v' w', (Builtin.append_ #[t, u] ty #[v, .string s]).run P w = .ok v' w' ∧ ownsX w' base e 1 v' (n + s.size) (xs ++ Lib.strCells s) ∧ w.grownBy w' v.ownBlock := by
  have hsmall : n + s.size ≤ 9223372036854775807 := by simp only [maxLen] at h63; omega
  have hxl : xs.length = n := by simpa using hown.1
  have hlen : (xs ++ Lib.strCells s).length = (n + s.size) * 1 := by rw [List.length_append, hxl, Lib.strCells_length, Nat.mul_one]
  rcases hown.2 with ⟨rfl, rfl⟩ | ⟨g, cap, cur, rfl, hbg, hg, hnc, hcm, hcs, htake⟩
  · have hx : xs = [] := List.eq_nil_of_length_eq_zero hxl
    subst hx
    obtain ⟨v', w', k1, k2, k3, _⟩ := Lib.run_append_own_string (P := P) w base t u ty e i ht hu hi hz hsize hby (.slice none 0 0) 0 [] (World.ownsRow_nil w base e 1) s h63 hbytes hbase
    exact ⟨v', w', k1, ownsX_of k2, k3⟩
  · by_cases hroom : n + s.size ≤ cap
    · have hcs' : cur.size = cap := by simpa using hcs
      have hr := run_append_room_stringX (P := P) w t u ty e i ht hu hi hsize g n cap cur hg s hroom (by omega)
      have hk := room_kept w (n := n) (m := s.size) (size := 1) (base := base) (news := Lib.strCells s) hbg hg hcm hcs htake (by rw [Lib.strCells_length, Nat.mul_one]) hroom hlen
      simp only [Nat.mul_one, Lib.strCells_length] at hk
      exact ⟨_, _, hr, hk, ⟨rfl, rfl, rfl, by simp, fun k _ hk => setRow_other w g k _ (fun e => hk (by simp [Value.ownBlock, e]))⟩⟩
    · have holds : ∀ (j : Nat) (u : Value), xs[j]? = some u → w.cell? ((⟨g, 0, none⟩ : Addr).add j) = some u := hown.cells (g := g) rfl
      have hr := Lib.run_append_grow_string (P := P) w t u ty e i (.int .u8 0) ht hu hi hz ⟨g, 0, none⟩ n cap xs (by rw [hsize]; exact hown.1) holds s (by omega) (by omega) (growslice_fits (by omega) (by rw [hby]; omega))
      have hge := grownCap_ge w (n + s.size) cap e
      have hcm2 : grownCap w (n + s.size) cap e ≤ maxLen := grownCap_le_maxLen w (n + s.size) cap e h63
      refine ⟨_, _, hr, ⟨hlen, .inr ⟨w.heap.size, _, _, rfl, hbase, .of (heap_alloc_new w.drew _), hge, hcm2, ?_, ?_⟩⟩, ⟨rfl, rfl, rfl, by simp, fun k hk _ => heap_alloc_old w.drew _ hk⟩⟩
      · have hz1 : (Value.int IntKind.u8 0).cells.size = 1 := rfl
        simp only [Array.size_append, List.size_toArray, size_zeroCells, hz1, hxl, Lib.strCells_length]
        omega
      · simp only [Array.toList_append, List.append_assoc]
        rw [← List.append_assoc, ← hlen]
        exact List.take_left
end
end Go.Proofs.YteklnpgiloebcaaDoor.V

namespace Go.Proofs.YteklnpgiloebcaaDoor.V
set_option linter.unusedVariables false
set_option linter.unusedSimpArgs false
open Go Go.RowKit

/-- The maps that are told of: sets of numbers and of texts, numbers by numbers and by texts. -/
inductive MK where
  | ib (l : List Int)
  | sb (l : List ByteArray)
  | ii (l : List (Int × Int))
  | si (l : List (ByteArray × Int))
def MK.entries : MK → List (Value × Value)
  | .ib l => l.map fun n => (.int .i64 n, .bool true)
  | .sb l => l.map fun s => (.string s, .bool true)
  | .ii l => l.map fun p => (.int .i64 p.1, .int .i64 p.2)
  | .si l => l.map fun p => (.string p.1, .int .i64 p.2)

def MK.size : MK → Nat
  | .ib l => l.length
  | .sb l => l.length
  | .ii l => l.length
  | .si l => l.length
theorem MK.size_eq (m : MK) : m.entries.length = m.size := by cases m <;> simp [MK.entries, MK.size]

/-- The objects that a call has made and may still change. -/
inductive MO where
  | dead
  | box (t : TypeId) (l : List AV)
  | row (e : TypeId) (sz n : Nat) (get : Nat → Nat → AV)
  | iter (s : ByteArray) (p : Nat)
  | mp (m : MK)
  | frame (vs : Array Value) (E : Nat → AV)
  | clo (f : FuncId) (l : List AV)
  | raw (w1 : World) (lo hi : Nat)
  | mat (e sz n : Nat) (get0 : Nat → Nat → AV) (o ei szi : Nat) (len : Nat → Nat) (get : Nat → Nat → Nat → AV) (hole : Option Nat)

/-- What an object's id stands for: the value that leads to it (at 0) and those that lead to its inner rows (at i + 1). -/
abbrev Loc := Nat → Nat → Value

def blk : Value → Option Nat
  | .slice (some a) _ _ => some a.block
  | .pointer (some a) => some a.block
  | .map r => r
  | _ => none

def MR (B : Nat) (w : World) (ok : Nat → Prop) (r : Ref) : MO → (Nat → Value) → Prop
  | .dead, _ => True
  | .box t l, v => ∃ g cs, v 0 = .pointer (some ⟨g, 0, none⟩) ∧ w.heap[g]? = some (.cells cs t (0, 0)) ∧ cs.size = l.length ∧
      ∀ (j : Nat) (x : AV), l[j]? = some x → ∃ cv, cs[j]? = some cv ∧ cv.oneCell' = true ∧ VR w ok x r cv
  | .row e sz n get, v => ∃ xs, ownsX w B e sz (v 0) n xs ∧ (∀ u ∈ xs, u.oneCell' = true) ∧
      ∀ i j, i < n → j < sz → ∃ cv, xs[i * sz + j]? = some cv ∧ VR w ok (get i j) noref cv
  | .iter s p, v => ∃ g, v 0 = .pointer (some ⟨g, 0, none⟩) ∧ w.heap[g]? = some (.stringIter s p)
  | .frame vs E, _ => ∀ i, VR w ok (E i) r (vs.getD i undef)
  | .clo f l, v => ∃ cs, v 0 = .func (.func f) #[] cs ∧ cs.size = l.length ∧ ∀ (j : Nat) (x : AV), l[j]? = some x → ∃ cv, cs[j]? = some cv ∧ VR w ok x r cv
  | .raw w1 lo hi, v => blk (v 0) = none ∧ ∀ b, lo ≤ b → b < hi → w.heap[b]? = w1.heap[b]?
  | .mp m, v => ∃ g es clock, v 0 = .map (some g) ∧ w.heap[g]? = some (.map es clock) ∧ es.toList.map (fun e => (e.key, e.val)) = m.entries
  | .mat e sz n get0 o ei szi len get hole, v => o < sz ∧ (∃ xs, ownsX w B e sz (v 0) n xs ∧ (∀ u ∈ xs, u.oneCell' = true) ∧
      (∀ i j, i < n → j < sz → j ≠ o → ∃ cv, xs[i * sz + j]? = some cv ∧ VR w ok (get0 i j) noref cv) ∧
      (∀ i, i < n → hole ≠ some i → xs[i * sz + o]? = some (v (i + 1)))) ∧
      (∀ i, i < n → hole ≠ some i → (∀ g, blk (v 0) = some g → blk (v (i + 1)) ≠ some g) ∧ ∃ ys, ownsX w B ei szi (v (i + 1)) (len i) ys ∧ (∀ u ∈ ys, u.oneCell' = true) ∧
        ∀ a b, a < len i → b < szi → ∃ u, ys[a * szi + b]? = some u ∧ VR w ok (get i a b) noref u) ∧
      (∀ i i', i < n → i' < n → i ≠ i' → hole ≠ some i → hole ≠ some i' → ∀ g, blk (v (i + 1)) = some g → blk (v (i' + 1)) ≠ some g)

/-- The blocks that are an object's own. -/
def owns : MO → (Nat → Value) → Nat → Prop
  | .mat _ _ n _ _ _ _ _ _ hole, v, g => blk (v 0) = some g ∨ ∃ i, i < n ∧ hole ≠ some i ∧ blk (v (i + 1)) = some g
  | .raw _ lo hi, v, g => blk (v 0) = some g ∨ (lo ≤ g ∧ g < hi)
  | _, v, g => blk (v 0) = some g
theorem owns_zero {m : MO} {v : Nat → Value} {g : Nat} (h : blk (v 0) = some g) : owns m v g := by
  cases m <;> first | exact h | exact .inl h

abbrev Env := Nat → AV
abbrev Heap := Nat → MO
def upd {α : Type} (f : Nat → α) (d : Nat) (x : α) : Nat → α := fun i => cond (Nat.beq i d) x (f i)
theorem upd_same {α : Type} (f : Nat → α) (d : Nat) (x : α) : upd f d x d = x := by simp [upd]
theorem upd_other {α : Type} (f : Nat → α) {d i : Nat} (x : α) (h : i ≠ d) : upd f d x i = f i := by
  have : Nat.beq i d = false := by rw [Bool.eq_false_iff]; intro e; exact h (Nat.eq_of_beq_eq_true e)
  simp [upd, this]

def rf (h : Heap) (ι : Loc) : Ref
  | .row id, v => v = ι id 0
  | .radr id sz i j, v => ∃ g n c, ι id 0 = .slice (some ⟨g, 0, none⟩) n c ∧ v = .pointer (some ((⟨g, 0, none⟩ : Addr).add (i * sz + j))) ∧
      (match h id with | .row _ sz' n' _ => sz' = sz ∧ i < n' | .mat _ sz' n' _ _ _ _ _ _ _ => sz' = sz ∧ i < n' | _ => True)
  | .box id off, v => ∃ g, ι id 0 = .pointer (some ⟨g, 0, none⟩) ∧ v = .pointer (some ((⟨g, 0, none⟩ : Addr).add off))
  | .obj id, v => v = ι id 0
  | .mrow id i, v => v = ι id (i + 1) ∧ (match h id with | .mat _ _ n _ _ _ _ _ _ hole => i < n ∧ hole ≠ some i | _ => True)
  | .madr id i sz a b, v => ∃ g n c, ι id (i + 1) = .slice (some ⟨g, 0, none⟩) n c ∧ v = .pointer (some ((⟨g, 0, none⟩ : Addr).add (a * sz + b))) ∧
      (match h id with | .mat _ _ n' _ _ _ szi len _ hole => szi = sz ∧ i < n' ∧ hole ≠ some i ∧ a < len i | _ => True)
  | _, _ => False

/-- What is known of a type: what it is, how many cells and bytes a value has, the cells of its zero value. -/
structure TI where
  d : TypeDesc
  cells : Nat
  bytes : Nat
  zero : Option (List AV)
  one : Bool
  peq : Bool := false
inductive TT where
  | nil
  | node (k : Nat) (v : TI) (l r : TT)
def TT.get : TT → Nat → Option TI
  | .nil, _ => none
  | .node k v l r, t => cond (Nat.beq t k) (some v) (cond (Nat.blt t k) (l.get t) (r.get t))
def TT.underlying (T : TT) (t : Nat) : Option TypeDesc := match T.get t with | some v => some v.d | none => none
def TT.cellsOf (T : TT) (t : Nat) : Nat := match T.get t with | some v => v.cells | none => 0
def TT.bytesOf (T : TT) (t : Nat) : Nat := match T.get t with | some v => v.bytes | none => 0
def TT.one (T : TT) (t : Nat) : Bool := match T.get t with | some v => v.one | none => false
def TT.zero (T : TT) (t : Nat) : Option (List AV) := match T.get t with | some v => v.zero | none => none

def cv : Value → AV
  | .bool true => .tt
  | .bool false => .ff
  | .int k n => .int k n
  | .string s => bif Nat.ble s.size maxLen then .str s else .u
  | .slice none 0 0 => .nils
  | .pointer none => .nilp
  | .nilIface => .nilif
  | _ => .u

def zeroL (P : Program) (t : TypeId) : Option (List AV) :=
  match (P.info? t).bind (·.zero) with
  | some z => cond (z.cells.toList.all (·.oneCell')) (some (z.cells.toList.map cv)) none
  | none => none

/-- Is the zero value one cell by itself? -/
def zeroOne (P : Program) (t : TypeId) : Bool :=
  match (P.info? t).bind (·.zero) with
  | some (.agg _) => false
  | some _ => true
  | none => false

def TT.peq (T : TT) (t : Nat) : Bool := match T.get t with | some v => v.peq | none => false
/-- Structs that are held against one another field by field. -/
def peqP (P : Program) (t : TypeId) : Bool := match P.underlying t with
  | some (.struct fs) => fs.toList.all (fun f => f.name != "_") && !P.stoodInHeld t && !P.eqGuardType P.depth t
  | _ => false

/-- The table says what the program says. -/
structure TOk (P : Program) (T : TT) : Prop where
  pe : ∀ t v, T.get t = some v → v.peq = true → peqP P t = true
  ok : ∀ t v, T.get t = some v → P.underlying t = some v.d ∧ P.cellsOf t = v.cells ∧ P.bytesOf t = v.bytes ∧ (∀ l, v.zero = some l → zeroL P t = some l) ∧ zeroOne P t = v.one

theorem TOk.nil {P : Program} : TOk P .nil := ⟨fun _ _ h => (by cases h), fun _ _ h => (by cases h)⟩
theorem TOk.node {P : Program} {k : Nat} {v : TI} {l r : TT} (h : (P.underlying k, P.cellsOf k, P.bytesOf k, zeroL P k, zeroOne P k) = (some v.d, v.cells, v.bytes, v.zero, v.one)) (hpe : (v.peq && !peqP P k) = false) (hl : TOk P l) (hr : TOk P r) : TOk P (.node k v l r) := by
  refine ⟨fun t u hu hq => ?_, fun t u hu => ?_⟩
  · unfold TT.get at hu
    cases hb : Nat.beq t k with
    | true =>
      rw [hb, cond_true] at hu
      cases hu
      have := Nat.eq_of_beq_eq_true hb
      subst this
      rw [hq] at hpe
      simpa using hpe
    | false =>
      rw [hb, cond_false] at hu
      cases hc : Nat.blt t k with
      | true => rw [hc] at hu; exact hl.pe t u hu hq
      | false => rw [hc] at hu; exact hr.pe t u hu hq
  unfold TT.get at hu
  cases hb : Nat.beq t k with
  | true =>
    rw [hb, cond_true] at hu
    cases hu
    have := Nat.eq_of_beq_eq_true hb
    subst this
    have h1 := congrArg (fun p => p.1) h
    have h2 := congrArg (fun p => p.2.1) h
    have h3 := congrArg (fun p => p.2.2.1) h
    have h4 := congrArg (fun p => p.2.2.2.1) h
    have h5 := congrArg (fun p => p.2.2.2.2) h
    exact ⟨h1, h2, h3, fun l hl => by rw [← hl]; exact h4, h5⟩
  | false =>
    rw [hb, cond_false] at hu
    cases hc : Nat.blt t k with
    | true => rw [hc] at hu; exact hl.ok t u hu
    | false => rw [hc] at hu; exact hr.ok t u hu

/-- The tables that the package variables hold, where a call may read them. -/
def GlobOk (S : Nat → Prop) (w : World) : Prop := ∀ g : Nat, VR w (fun b => b < w.heap.size ∧ S b) (GL g) noref (.pointer (some ⟨g, 0, none⟩))
/-- What waits to be called when the body is left, and slots whose values are known and stay. -/
structure Kept where
  ds : List Deferred
  keep : List (Nat × Value)
  kd : CallKind
/-- What is fixed while one function's body is walked: the program, its number of slots, the world in which it began, which blocks its arguments lead to. -/
structure Ctx where
  P : Program
  T : TT
  tok : TOk P T
  N : Nat
  w0 : World
  S : Nat → Prop
  glob : GlobOk S w0
  f : FuncId
  R : Ending → World → Prop
  kp : Kept := ⟨[], [], .normal⟩

theorem Ctx.und (C : Ctx) {t : TypeId} {d : TypeDesc} (h : C.T.underlying t = some d) : C.P.underlying t = some d := by
  unfold TT.underlying at h
  split at h
  · rename_i v hv; cases h; exact (C.tok.ok t v hv).1
  · cases h
theorem Ctx.cells (C : Ctx) {t : TypeId} {d : TypeDesc} (h : C.T.underlying t = some d) : C.P.cellsOf t = C.T.cellsOf t := by
  unfold TT.underlying at h
  split at h
  · rename_i v hv; unfold TT.cellsOf; rw [hv]; exact (C.tok.ok t v hv).2.1
  · cases h
theorem Ctx.zeroes (C : Ctx) {t : TypeId} {l : List AV} (h : C.T.zero t = some l) : zeroL C.P t = some l ∧ C.P.cellsOf t = C.T.cellsOf t ∧ C.P.bytesOf t = C.T.bytesOf t := by
  unfold TT.zero at h
  split at h
  · rename_i v hv
    have := C.tok.ok t v hv
    unfold TT.cellsOf TT.bytesOf
    rw [hv]
    exact ⟨this.2.2.2.1 l h, this.2.1, this.2.2.1⟩
  · cases h
theorem Ctx.ones (C : Ctx) {t : TypeId} (h : C.T.one t = true) : zeroOne C.P t = true := by
  unfold TT.one at h
  split at h
  · rename_i v hv; rw [(C.tok.ok t v hv).2.2.2.2]; exact h
  · cases h
def Ctx.B (C : Ctx) : Nat := C.w0.heap.size
def okB (C : Ctx) (h : Heap) (ι : Loc) (w : World) (b : Nat) : Prop :=
  b < w.heap.size ∧ (C.S b ∨ C.B ≤ b) ∧ ∀ id, h id ≠ .dead → ¬ owns (h id) (ι id) b

def DK (kp : Kept) (a : Act) : Prop := a.defers = kp.ds ∧ ∀ p ∈ kp.keep, a.tmps.getD p.1 undef = p.2
structure Rel (C : Ctx) (env : Env) (h : Heap) (ι : Loc) (a : Act) (w : World) : Prop where
  below : Below C.B C.w0 w
  defers : DK C.kp a
  size : a.tmps.size = C.N
  env : ∀ i, VR w (okB C h ι w) (env i) (rf h ι) (a.tmps.getD i undef)
  obj : ∀ id, MR C.B w (okB C h ι w) (rf h ι) (h id) (ι id)
  one : ∀ id i, (ι id i).oneCell' = true
  base : ∀ id, h id ≠ .dead → ∀ g, owns (h id) (ι id) g → C.B ≤ g ∧ g < w.heap.size
  apart : ∀ id id', h id ≠ .dead → h id' ≠ .dead → id ≠ id' → ∀ g, owns (h id) (ι id) g → ¬ owns (h id') (ι id') g

def putE (env : Env) (d : Option Nat) (x : AV) : Env := match d with | some d => upd env d x | none => env
def notKept (d : Nat) : List (Nat × Value) → Bool
  | [] => true
  | p :: r => cond (Nat.beq p.1 d) false (notKept d r)
theorem notKept_ok {d : Nat} : ∀ {l : List (Nat × Value)}, notKept d l = true → ∀ p ∈ l, p.1 ≠ d
  | [], _, p, hp => by cases hp
  | q :: r, h, p, hp => by
    unfold notKept at h
    cases hb : Nat.beq q.1 d with
    | true => rw [hb] at h; cases h
    | false =>
      rw [hb, cond_false] at h
      rcases List.mem_cons.mp hp with rfl | hp
      · intro e; rw [e, Nat.beq_refl] at hb; cases hb
      · exact notKept_ok h p hp
def okD (C : Ctx) : Option Nat → Bool | some d => cond (Nat.blt d C.N) (notKept d C.kp.keep) false | none => true

theorem Rel.put {C : Ctx} {env : Env} {h : Heap} {ι : Loc} {a : Act} {w : World} (R : Rel C env h ι a w) {x : AV} {v : Value}
    (hv : VR w (okB C h ι w) x (rf h ι) v) {d : Option Nat} (hd : okD C d = true) : Rel C (putE env d x) h ι (a.put d v) w := by
  cases d with
  | none => exact R
  | some d =>
    replace hd : (cond (Nat.blt d C.N) (notKept d C.kp.keep) false) = true := hd
    have hd0 : Nat.blt d C.N = true := by cases hb : Nat.blt d C.N with | true => rfl | false => rw [hb] at hd; cases hd
    rw [hd0, cond_true] at hd
    have hd' : d < a.tmps.size := by rw [R.size]; simpa [Nat.blt_eq] using hd0
    refine { R with size := ?_, env := ?_ , defers := ⟨R.defers.1, fun p hp => ?_⟩ }
    · have h1 := R.defers.2 p hp
      rw [← h1]
      have h2 := (notKept_ok hd p hp).symm
      simp [Act.put, Array.getD_eq_getD_getElem?, Array.getElem?_setIfInBounds, h2]
    · simp [Act.put, R.size]
    · intro i
      by_cases e : i = d
      · subst e
        simp only [putE, upd_same, Act.put]
        simpa [hd'] using hv
      · simp only [putE, upd_other _ _ e, Act.put]
        have := R.env i
        have h2 : (a.tmps.setIfInBounds d v).getD i undef = a.tmps.getD i undef := by
          simp [Array.getD_eq_getD_getElem?, Array.getElem?_setIfInBounds, Ne.symm e]
        rw [h2]; exact this

theorem ownsRow_keep {w w' : World} {B e sz : Nat} {v : Value} {n : Nat} {xs : List Value} (h : ownsX w B e sz v n xs) (hb : ∀ g, blk v = some g → w'.heap[g]? = w.heap[g]?) : ownsX w' B e sz v n xs := by
  refine ⟨h.1, ?_⟩
  rcases h.2 with hn | ⟨g, cap, cur, rfl, hB, hg, rest⟩
  · exact .inl hn
  · exact .inr ⟨g, cap, cur, rfl, hB, hg.keep (hb g rfl), rest⟩

theorem MR.keepR {r r' : Ref} {w w' : World} {ok ok' : Nat → Prop} (hr : ∀ x v, r x v → r' x v) (hok : ∀ b, ok b → ok' b) (hw : ∀ b, ok b → w'.heap[b]? = w.heap[b]?)
    {B : Nat} {m : MO} {v : Nat → Value} (hb : ∀ g, owns m v g → w'.heap[g]? = w.heap[g]?) (hm : MR B w ok r m v) : MR B w' ok' r' m v := by
  cases m with
  | dead => trivial
  | box t l =>
    obtain ⟨g, cs, e, hg, hs, hc⟩ := hm
    refine ⟨g, cs, e, (hb g (owns_zero (by rw [e]; rfl))).trans hg, hs, fun j x hx => ?_⟩
    obtain ⟨cv, c1, c2, c3⟩ := hc j x hx
    exact ⟨cv, c1, c2, VR.mono hok hw _ _ _ _ hr c3⟩
  | row e sz n get =>
    obtain ⟨xs, ho, h1, hc⟩ := hm
    refine ⟨xs, ownsRow_keep ho (fun g hg => hb g (owns_zero hg)), h1, fun i j hi hj => ?_⟩
    obtain ⟨cv, c1, c3⟩ := hc i j hi hj
    exact ⟨cv, c1, VR.mono hok hw _ _ _ _ (fun _ _ h => h) c3⟩
  | iter s p =>
    obtain ⟨g, e, hg⟩ := hm
    exact ⟨g, e, (hb g (owns_zero (by rw [e]; rfl))).trans hg⟩
  | frame vs E => exact fun i => VR.mono hok hw _ _ _ _ hr (hm i)
  | clo f l =>
    obtain ⟨cs, e, hs, hc⟩ := hm
    refine ⟨cs, e, hs, fun j x hx => ?_⟩
    obtain ⟨cv, c1, c3⟩ := hc j x hx
    exact ⟨cv, c1, VR.mono hok hw _ _ _ _ hr c3⟩
  | raw w1 lo hi => exact ⟨hm.1, fun b h1 h2 => (hb b (.inr ⟨h1, h2⟩)).trans (hm.2 b h1 h2)⟩
  | mp m =>
    obtain ⟨g, es, clock, e, hg, he⟩ := hm
    exact ⟨g, es, clock, e, (hb g (owns_zero (by rw [e]; rfl))).trans hg, he⟩
  | mat e sz n get0 o ei szi len get hole =>
    obtain ⟨ho, ⟨xs, hx, h1, hc0, hin⟩, hrows, hap⟩ := hm
    refine ⟨ho, ⟨xs, ownsRow_keep hx (fun g hg => hb g (owns_zero hg)), h1, fun i j hi hj hne => ?_, hin⟩, fun i hi hh => ?_, hap⟩
    · obtain ⟨cv, c1, c3⟩ := hc0 i j hi hj hne
      exact ⟨cv, c1, VR.mono hok hw _ _ _ _ (fun _ _ h => h) c3⟩
    · obtain ⟨h2, ys, hy, hy1, hyc⟩ := hrows i hi hh
      refine ⟨h2, ys, ownsRow_keep hy (fun g hg => hb g (.inr ⟨i, hi, hh, hg⟩)), hy1, fun a b ha hb' => ?_⟩
      obtain ⟨u, u1, u3⟩ := hyc a b ha hb'
      exact ⟨u, u1, VR.mono hok hw _ _ _ _ (fun _ _ h => h) u3⟩

/-- The world has grown; what lay in it stays. -/
theorem Rel.grow {C : Ctx} {env : Env} {h : Heap} {ι : Loc} {a : Act} {w w' : World} (R : Rel C env h ι a w) (hb : Below w.heap.size w w') : Rel C env h ι a w' := by
  have hsz := hb.size
  have hok : ∀ b, okB C h ι w b → okB C h ι w' b := fun b hb' => ⟨by have := hb'.1; omega, hb'.2⟩
  have hw : ∀ b, okB C h ι w b → w'.heap[b]? = w.heap[b]? := fun b hb' => hb.block b hb'.1
  have hB : C.B ≤ w.heap.size := R.below.size
  refine { below := R.below.trans (hb.mono hB), defers := R.defers, size := R.size, env := fun i => VR.mono hok hw _ _ _ _ (fun _ _ h => h) (R.env i), obj := ?_, one := R.one, base := ?_, apart := R.apart }
  · intro id
    by_cases hl : h id = .dead
    · rw [hl]; trivial
    · exact MR.keepR (fun _ _ h => h) hok hw (fun g hg => hb.block g (R.base id hl g hg).2) (R.obj id)
  · intro id hl g hg
    have := R.base id hl g hg
    exact ⟨this.1, by omega⟩

end Go.Proofs.YteklnpgiloebcaaDoor.V

namespace Go.Proofs.YteklnpgiloebcaaDoor.V
set_option linter.unusedVariables false
set_option linter.unusedSimpArgs false
open Go Go.RowKit

structure AskB (b : Bool) (p q : Prop) : Prop where
  t : b = true → p
  f : b = false → q
structure Need (p q : Prop) : Prop where
  l : p
  r : q
structure Know (p q : Prop) : Prop where
  h : p → q

/-- A truth that is not known. -/
structure Any (F : Bool → Prop) : Prop where
  all : ∀ b, F b

def ev (env : Env) : Operand → AV
  | .tmp t => env t
  | .const v => cv v
  | .global g => GL g
  | .func f => .fn f

theorem cv_ok {w : World} {ok : Nat → Prop} {r : Ref} (v : Value) : VR w ok (cv v) r v := by
  unfold cv
  split <;> try rfl
  rename_i s
  cases h : Nat.ble s.size maxLen with
  | true => exact ⟨rfl, Nat.ble_eq ▸ h⟩
  | false => trivial
  trivial

theorem ev_ok {C : Ctx} {env : Env} {h : Heap} {ι : Loc} {a : Act} {w : World} (R : Rel C env h ι a w) (x : Operand) :
    VR w (okB C h ι w) (ev env x) (rf h ι) (a.eval x) := by
  cases x with
  | tmp t => exact R.env t
  | const v => exact cv_ok v
  | global g => exact VR.mono (fun b hb => ⟨Nat.lt_of_lt_of_le hb.1 R.below.size, .inl hb.2, fun id hl hg => Nat.not_lt.mpr (R.base id hl b hg).1 hb.1⟩) (fun b hb => R.below.block b hb.1) _ _ _ _ (fun _ _ h => False.elim h) (C.glob g)
  | func f => rfl

/-- A value, looked at before it is handed on. -/
def fv (x : AV) (K : AV → Prop) : Prop := match x with
  | .u => K .u | .sk => K .sk | .tt => K .tt | .ff => K .ff | .bool b => K (.bool b) | .int k n => K (.int k n) | .str s => K (.str s) | .nils => K .nils
  | .sl n sz get => K (.sl n sz get) | .iadr m get => K (.iadr m get) | .agg n get => K (.agg n get) | .tup n get => K (.tup n get)
  | .nilp => K .nilp | .nilif => K .nilif | .row id => K (.row id) | .radr id sz i j => K (.radr id sz i j) | .box id off => K (.box id off) | .obj id => K (.obj id) | .mrow id i => K (.mrow id i) | .madr id i sz a b => K (.madr id i sz a b) | .ptr => K .ptr | .val c => K (.val c) | .one => K .one | .fn f => K (.fn f) | .gtab cs => K (.gtab cs)
theorem fv_eq (x : AV) (K : AV → Prop) : fv x K = K x := by cases x <;> rfl

/-! ### numbers, bools, strings -/
def avB : AV → Option Bool
  | .tt => some true
  | .ff => some false
  | .bool b => some b
  | _ => none
theorem avB_ok {w : World} {ok : Nat → Prop} {r : Ref} {x : AV} {v : Value} {b : Bool} (h : avB x = some b) (hv : VR w ok x r v) : v = .bool b := by
  cases x <;> simp [avB] at h <;> subst h <;> exact hv

def abin (op : BinOp) (x y : AV) (K : AV → Prop) (stop : Prop) : Prop :=
  match x, y with
  | .int k a, .int k' b =>
    match op with
    | .shl => Need (0 ≤ b) (K (.int k (k.wrap (a * 2 ^ (min b.toNat k.bits)))))
    | .shr => Need (0 ≤ b) (K (.int k (a.fdiv (2 ^ (min b.toNat k.bits)))))
    | _ => if k = k' then
      match op with
      | .add => K (.int k (k.wrap (a + b)))
      | .sub => K (.int k (k.wrap (a - b)))
      | .mul => K (.int k (k.wrap (a * b)))
      | .quo => Need (b ≠ 0) (K (.int k (k.wrap (a.tdiv b))))
      | .rem => Need (b ≠ 0) (K (.int k (a.tmod b)))
      | .and => K (.int k (k.wrap ((BitVec.ofInt k.bits a) &&& (BitVec.ofInt k.bits b)).toNat))
      | .or => K (.int k (k.wrap ((BitVec.ofInt k.bits a) ||| (BitVec.ofInt k.bits b)).toNat))
      | .xor => K (.int k (k.wrap ((BitVec.ofInt k.bits a) ^^^ (BitVec.ofInt k.bits b)).toNat))
      | .andNot => K (.int k (k.wrap ((BitVec.ofInt k.bits a) &&& ~~~(BitVec.ofInt k.bits b)).toNat))
      | .eql => K (.bool (decide (a = b)))
      | .neq => K (.bool (!decide (a = b)))
      | .lss => K (.bool (decide (a < b)))
      | .leq => K (.bool (decide (a ≤ b)))
      | .gtr => K (.bool (decide (b < a)))
      | .geq => K (.bool (decide (b ≤ a)))
      | _ => stop
      else stop
  | .str a, .str b =>
    match op with
    | .add => Need (a.size + b.size ≤ 9223372036854775807) (K (.str (a ++ b)))
    | .eql => K (.bool (decide (a = b)))
    | .neq => K (.bool (!decide (a = b)))
    | .lss => K (.bool (Op.bytesLess a.data.toList b.data.toList))
    | .geq => K (.bool (!Op.bytesLess a.data.toList b.data.toList))
    | .leq => K (.bool (Op.bytesLess a.data.toList b.data.toList || decide (a = b)))
    | .gtr => K (.bool (!(Op.bytesLess a.data.toList b.data.toList || decide (a = b))))
    | _ => stop
  | x, y => match avB x, avB y, op with
    | some a, some b, .eql => K (.bool (a == b))
    | some a, some b, .neq => K (.bool (a != b))
    | _, _, _ => stop

theorem bytes_eq (a b : ByteArray) : (a.toList == b.toList) = decide (a = b) := by
  rw [ByteArray.toList_eq, ByteArray.toList_eq]
  by_cases h : a = b
  · simp [h]
  · have h2 : ¬ a.data.toList = b.data.toList := fun e => h (ByteArray.ext (Array.ext' e))
    rw [decide_eq_false h]; exact beq_eq_false_iff_ne.mpr h2

section
variable {P : Program} {w : World} {ok : Nat → Prop} {r : Ref} {K : AV → Prop} {stop : Prop} {s : Sem Value}
theorem got_int {k : IntKind} {n : Int} (hk : K (.int k n)) (hr : s.run P w = .ok (.int k n) w) : stop ∨ ∃ z m, s.run P w = .ok m w ∧ VR w ok z r m ∧ K z := .inr ⟨.int k n, _, hr, rfl, hk⟩
theorem got_bool {b : Bool} (hk : K (.bool b)) (hr : s.run P w = .ok (.bool b) w) : stop ∨ ∃ z m, s.run P w = .ok m w ∧ VR w ok z r m ∧ K z := .inr ⟨.bool b, _, hr, rfl, hk⟩
theorem got_str {b : ByteArray} (hk : K (.str b)) (hs : b.size ≤ maxLen) (hr : s.run P w = .ok (.string b) w) : stop ∨ ∃ z m, s.run P w = .ok m w ∧ VR w ok z r m ∧ K z := .inr ⟨.str b, _, hr, ⟨rfl, hs⟩, hk⟩
end

def boolTy (P : TT) (t : TypeId) : Bool := match P.underlying t with | some .bool => true | _ => false
theorem boolTy_ok {C : Ctx} {t : TypeId} (h : boolTy C.T t = true) : C.P.underlying t = some .bool := by
  unfold boolTy at h
  split at h
  · rename_i hu; exact C.und hu
  · cases h

theorem abin_ok {P : Program} {w : World} {ok : Nat → Prop} {r : Ref} {op : BinOp} {x y : AV} {K : AV → Prop} {stop : Prop} (t : TypeId) (hb : P.underlying t = some .bool ∨ avB x = none)
    (h : abin op x y K stop) {v u : Value} (hx : VR w ok x r v) (hy : VR w ok y r u) (X Y : Operand) :
    stop ∨ ∃ z m, (do eqGuard op t X Y v u; binOp op t v u : Sem Value).run P w = .ok m w ∧ VR w ok z r m ∧ K z := by
  unfold abin at h
  split at h
  · rename_i k a k' b
    have hx' : v = .int k a := hx
    have hy' : u = .int k' b := hy
    subst hx'; subst hy'
    have hg : ∀ op, (eqGuard op t X Y (.int k a) (.int k' b)).run P w = .ok () w := by
      intro op; cases op <;> simp [eqGuard]
    simp only [Sem.run_bind, hg, Result.andThen_ok]
    split at h
    · have h0 := h.l
      exact got_int h.r (by simp [binOp, Op.shift, Int.not_lt.mpr h0])
    · have h0 := h.l
      exact got_int h.r (by simp [binOp, Op.shift, Int.not_lt.mpr h0])
    · split at h
      · rename_i hne1 hne2 hk
        subst hk
        split at h
        · exact got_int h (by simp [binOp, Op.intArith])
        · exact got_int h (by simp [binOp, Op.intArith])
        · exact got_int h (by simp [binOp, Op.intArith])
        · exact got_int h.r (by simp [binOp, Op.intDiv, h.l])
        · exact got_int h.r (by simp [binOp, Op.intDiv, h.l])
        · exact got_int h (by simp [binOp, Op.intBits])
        · exact got_int h (by simp [binOp, Op.intBits])
        · exact got_int h (by simp [binOp, Op.intBits])
        · exact got_int h (by simp [binOp, Op.intBits])
        · refine got_bool h ?_
          by_cases e : a = b <;> simp [binOp, Op.intCmp, e]
        · refine got_bool h ?_
          by_cases e : a = b <;> simp [binOp, Op.intCmp, e]
        · exact got_bool h (by simp [binOp, Op.intCmp])
        · exact got_bool h (by simp [binOp, Op.intCmp])
        · exact got_bool h (by simp [binOp, Op.intCmp])
        · exact got_bool h (by simp [binOp, Op.intCmp])
        · exact .inl h
      · exact .inl h
  · rename_i a b
    obtain ⟨rfl, ha⟩ : v = .string a ∧ a.size ≤ maxLen := hx
    obtain ⟨rfl, hbb⟩ : u = .string b ∧ b.size ≤ maxLen := hy
    have hg : ∀ op, (eqGuard op t X Y (.string a) (.string b)).run P w = .ok () w := by
      intro op; cases op <;> simp [eqGuard]
    simp only [Sem.run_bind, hg, Result.andThen_ok]
    split at h
    · have h0 := h.l
      refine got_str h.r (by simpa [maxLen] using h0) ?_
      have : ¬ ((a.size + b.size : Nat) : Int) > IntKind.i64.max := by
        have : IntKind.i64.max = 9223372036854775807 := by decide
        omega
      simp only [binOp, Op.stringOp]
      rw [if_neg this]; rfl
    · exact got_bool h (by simp only [binOp, Op.stringOp, bytes_eq]; rfl)
    · exact got_bool h (by simp only [binOp, Op.stringOp, bytes_eq]; rfl)
    · exact got_bool h (by simp only [binOp, Op.stringOp]; rw [ByteArray.toList_eq, ByteArray.toList_eq]; rfl)
    · exact got_bool h (by simp only [binOp, Op.stringOp]; rw [ByteArray.toList_eq, ByteArray.toList_eq]; rfl)
    · exact got_bool h (by simp only [binOp, Op.stringOp]; rw [bytes_eq, ByteArray.toList_eq, ByteArray.toList_eq]; rfl)
    · exact got_bool h (by simp only [binOp, Op.stringOp]; rw [bytes_eq, ByteArray.toList_eq, ByteArray.toList_eq]; rfl)
    · exact .inl h
  · split at h
    · rename_i hxa _ a b h1 h2 
      have := avB_ok h1 hx; subst this
      have := avB_ok h2 hy; subst this
      have ht : P.underlying t = some .bool := by
        rcases hb with hb | hb
        · exact hb
        · rw [hb] at h1; cases h1
      exact got_bool h (by simp [eqGuard, binOp, run_equal_bool w t a b ht])
    · rename_i hxa _ a b h1 h2
      have := avB_ok h1 hx; subst this
      have := avB_ok h2 hy; subst this
      have ht : P.underlying t = some .bool := by
        rcases hb with hb | hb
        · exact hb
        · rw [hb] at h1; cases h1
      exact got_bool h (by cases a <;> cases b <;> simp [eqGuard, binOp, run_equal_bool w t _ _ ht])
    · exact .inl h

end Go.Proofs.YteklnpgiloebcaaDoor.V

namespace Go.Proofs.YteklnpgiloebcaaDoor.V
set_option linter.unusedVariables false
set_option linter.unusedSimpArgs false
open Go Go.RowKit

def scrub (d : Nat) : AV → AV
  | .row id => cond (Nat.beq id d) .u (.row id)
  | .radr id sz i j => cond (Nat.beq id d) .u (.radr id sz i j)
  | .box id off => cond (Nat.beq id d) .u (.box id off)
  | .obj id => cond (Nat.beq id d) .u (.obj id)
  | .mrow id i => cond (Nat.beq id d) .u (.mrow id i)
  | .madr id i sz a b => cond (Nat.beq id d) .u (.madr id i sz a b)
  | .agg n get => .agg n (fun j => scrub d (get j))
  | .tup n get => .tup n (fun j => scrub d (get j))
  | x => x
def scrM (σ : AV → AV) : MO → MO
  | .box t l => .box t (l.map σ)
  | .frame vs E => .frame vs (fun i => σ (E i))
  | .clo f l => .clo f (l.map σ)
  | m => m
def scrubM (d : Nat) : MO → MO := scrM (scrub d)
def scrubE (d : Nat) (env : Env) : Env := fun i => scrub d (env i)
def scrubH (d : Nat) (h : Heap) : Heap := fun id => scrubM d (h id)

theorem beq_ne {i d : Nat} (h : i ≠ d) : Nat.beq i d = false := by
  rw [Bool.eq_false_iff]; intro e; exact h (Nat.eq_of_beq_eq_true e)

theorem owns_scrM {σ : AV → AV} {m : MO} {v : Nat → Value} {g : Nat} : owns (scrM σ m) v g ↔ owns m v g := by
  cases m <;> exact Iff.rfl

/-- What the ids but 'd' mean has not changed. -/
structure Same (d : Nat) (h h' : Heap) (ι ι' : Loc) : Prop where
  val : ∀ id, id ≠ d → ι' id = ι id
  mem : ∀ id, id ≠ d → h' id = .dead ∨ h' id = scrubM d (h id)

theorem Same.radr {d : Nat} {h h' : Heap} {ι ι' : Loc} (S : Same d h h' ι ι') {id sz i : Nat} (e : id ≠ d) (h3 : match h id with | .row _ sz' n' _ => sz' = sz ∧ i < n' | .mat _ sz' n' _ _ _ _ _ _ _ => sz' = sz ∧ i < n' | _ => True) :
    match h' id with | .row _ sz' n' _ => sz' = sz ∧ i < n' | .mat _ sz' n' _ _ _ _ _ _ _ => sz' = sz ∧ i < n' | _ => True := by
  rcases S.mem id e with e2 | e2
  · rw [e2]; trivial
  · rw [e2]
    cases hq : h id <;> rw [hq] at h3 <;> first | trivial | exact h3
theorem Same.mrow {d : Nat} {h h' : Heap} {ι ι' : Loc} (S : Same d h h' ι ι') {id i : Nat} (e : id ≠ d) (h3 : match h id with | .mat _ _ n _ _ _ _ _ _ hole => i < n ∧ hole ≠ some i | _ => True) :
    match h' id with | .mat _ _ n _ _ _ _ _ _ hole => i < n ∧ hole ≠ some i | _ => True := by
  rcases S.mem id e with e2 | e2
  · rw [e2]; trivial
  · rw [e2]
    cases hq : h id <;> rw [hq] at h3 <;> first | trivial | exact h3
theorem Same.madr {d : Nat} {h h' : Heap} {ι ι' : Loc} (S : Same d h h' ι ι') {id i sz a : Nat} (e : id ≠ d) (h3 : match h id with | .mat _ _ n' _ _ _ szi len _ hole => szi = sz ∧ i < n' ∧ hole ≠ some i ∧ a < len i | _ => True) :
    match h' id with | .mat _ _ n' _ _ _ szi len _ hole => szi = sz ∧ i < n' ∧ hole ≠ some i ∧ a < len i | _ => True := by
  rcases S.mem id e with e2 | e2
  · rw [e2]; trivial
  · rw [e2]
    cases hq : h id <;> rw [hq] at h3 <;> first | trivial | exact h3

theorem rf_scrub {d : Nat} {h h' : Heap} {ι ι' : Loc} (S : Same d h h' ι ι') {w : World} {ok : Nat → Prop} {x : AV} {v : Value} (hr : rf h ι x v) : VR w ok (scrub d x) (rf h' ι') v := by
  cases x with
  | row id =>
    by_cases e : id = d
    · subst e; simp [scrub, VR]
    · simp only [scrub, beq_ne e, cond_false, VR]
      exact (show v = ι id 0 from hr).trans (by rw [S.val id e])
  | radr id sz i j =>
    by_cases e : id = d
    · subst e; simp [scrub, VR]
    · simp only [scrub, beq_ne e, cond_false, VR]
      obtain ⟨g, n, c, h1, h2, h3⟩ := hr
      exact ⟨g, n, c, by rw [S.val id e]; exact h1, h2, S.radr e h3⟩
  | box id off =>
    by_cases e : id = d
    · subst e; simp [scrub, VR]
    · simp only [scrub, beq_ne e, cond_false, VR]
      obtain ⟨g, h1, h2⟩ := hr
      exact ⟨g, by rw [S.val id e]; exact h1, h2⟩
  | obj id =>
    by_cases e : id = d
    · subst e; simp [scrub, VR]
    · simp only [scrub, beq_ne e, cond_false, VR]
      exact (show v = ι id 0 from hr).trans (by rw [S.val id e])
  | mrow id i =>
    by_cases e : id = d
    · subst e; simp [scrub, VR]
    · simp only [scrub, beq_ne e, cond_false, VR]
      exact ⟨hr.1.trans (by rw [S.val id e]), S.mrow e hr.2⟩
  | madr id i sz a b =>
    by_cases e : id = d
    · subst e; simp [scrub, VR]
    · simp only [scrub, beq_ne e, cond_false, VR]
      obtain ⟨g, n, c, h1, h2, h3⟩ := hr
      exact ⟨g, n, c, by rw [S.val id e]; exact h1, h2, S.madr e h3⟩
  | _ => exact absurd hr (by simp [rf])

/-- A way to forget some references. -/
structure Scr (σ : AV → AV) : Prop where
  agg : ∀ n get, σ (.agg n get) = .agg n (fun j => σ (get j))
  tup : ∀ n get, σ (.tup n get) = .tup n (fun j => σ (get j))
  plain : ∀ x, (∀ h ι v, ¬ rf h ι x v) → (∀ n get, x ≠ .agg n get) → (∀ n get, x ≠ .tup n get) → σ x = x

theorem VR.scr {σ : AV → AV} (S : Scr σ) {h : Heap} {ι : Loc} {r' : Ref} {w w' : World} {ok ok' : Nat → Prop} (hσ : ∀ x v, rf h ι x v → VR w' ok' (σ x) r' v) (hok : ∀ b, ok b → ok' b) (hw : ∀ b, ok b → w'.heap[b]? = w.heap[b]?) :
    ∀ (x : AV) (v : Value), VR w ok x (rf h ι) v → VR w' ok' (σ x) r' v := by
  intro x
  have pl : ∀ x : AV, (∀ h ι v, ¬ rf h ι x v) → (∀ n get, x ≠ .agg n get) → (∀ n get, x ≠ .tup n get) → (∀ v, VR w ok x (rf h ι) v → VR w' ok' x r' v) → ∀ v, VR w ok x (rf h ι) v → VR w' ok' (σ x) r' v :=
    fun x h1 h2 h3 h4 v hv => by rw [S.plain x h1 h2 h3]; exact h4 v hv
  induction x with
  | agg n get ih =>
    intro v ⟨cs, e, hs, hc⟩
    rw [S.agg]
    refine ⟨cs, e, hs, fun j hj => ?_⟩
    obtain ⟨cv, c1, c2, c3⟩ := hc j hj
    exact ⟨cv, c1, c2, ih j _ c3⟩
  | tup n get ih =>
    intro v ⟨cs, e, hs, hc⟩
    rw [S.tup]
    refine ⟨cs, e, hs, fun j hj => ?_⟩
    obtain ⟨cv, c1, c3⟩ := hc j hj
    exact ⟨cv, c1, ih j _ c3⟩
  | row id => intro v hv; exact hσ _ _ hv
  | radr id sz i j => intro v hv; exact hσ _ _ hv
  | box id off => intro v hv; exact hσ _ _ hv
  | obj id => intro v hv; exact hσ _ _ hv
  | mrow id i => intro v hv; exact hσ _ _ hv
  | madr id i sz a b => intro v hv; exact hσ _ _ hv
  | sl n sz get _ => exact pl _ (fun _ _ _ h => by simp [rf] at h) (fun _ _ e => by cases e) (fun _ _ e => by cases e) (fun v hv => VR.mono hok hw (.sl n sz get) noref r' v (fun _ _ h => absurd h id) hv)
  | iadr m get _ => exact pl _ (fun _ _ _ h => by simp [rf] at h) (fun _ _ e => by cases e) (fun _ _ e => by cases e) (fun v hv => VR.mono hok hw (.iadr m get) noref r' v (fun _ _ h => absurd h id) hv)
  | gtab cs => exact pl _ (fun _ _ _ h => by simp [rf] at h) (fun _ _ e => by cases e) (fun _ _ e => by cases e) (fun v hv => VR.mono hok hw (.gtab cs) noref r' v (fun _ _ h => absurd h id) hv)
  | _ => exact pl _ (fun _ _ _ h => by simp [rf] at h) (fun _ _ e => by cases e) (fun _ _ e => by cases e) (fun v hv => hv)

theorem MR.scr {σ : AV → AV} (S : Scr σ) {h : Heap} {ι : Loc} {r' : Ref} {w w' : World} {ok ok' : Nat → Prop} (hσ : ∀ x v, rf h ι x v → VR w' ok' (σ x) r' v) (hok : ∀ b, ok b → ok' b) (hw : ∀ b, ok b → w'.heap[b]? = w.heap[b]?)
    {B : Nat} {m : MO} {v : Nat → Value} (hb : ∀ g, owns m v g → w'.heap[g]? = w.heap[g]?) (hm : MR B w ok (rf h ι) m v) : MR B w' ok' r' (scrM σ m) v := by
  have key : ∀ m' : MO, (∀ t l, m' ≠ .box t l) → (∀ vs E, m' ≠ .frame vs E) → (∀ f l, m' ≠ .clo f l) → m = m' → MR B w' ok' r' m' v := by
    intro m' hne hne2 hne3 e
    subst e
    have : MR B w ok noref m v := by cases m <;> first | exact hm | exact absurd rfl (hne _ _) | exact absurd rfl (hne2 _ _) | exact absurd rfl (hne3 _ _)
    exact MR.keepR (r := noref) (fun _ _ h => False.elim h) hok hw hb this
  cases m with
  | box t l =>
    obtain ⟨g, cs, e, hg, hs, hc⟩ := hm
    refine ⟨g, cs, e, (hb g (owns_zero (by rw [e]; rfl))).trans hg, by simp [hs], fun j x hx => ?_⟩
    rw [List.getElem?_map] at hx
    cases hl : l[j]? with
    | none => rw [hl] at hx; cases hx
    | some y =>
      rw [hl] at hx
      cases hx
      obtain ⟨cv, c1, c2, c3⟩ := hc j y hl
      exact ⟨cv, c1, c2, VR.scr S hσ hok hw _ _ c3⟩
  | frame vs E => exact fun i => VR.scr S hσ hok hw _ _ (hm i)
  | clo f l =>
    obtain ⟨cs, e, hs, hc⟩ := hm
    refine ⟨cs, e, by simp [hs], fun j x hx => ?_⟩
    rw [List.getElem?_map] at hx
    cases hl : l[j]? with
    | none => rw [hl] at hx; cases hx
    | some y =>
      rw [hl] at hx
      cases hx
      obtain ⟨cv, c1, c3⟩ := hc j y hl
      exact ⟨cv, c1, VR.scr S hσ hok hw _ _ c3⟩
  | _ => exact key _ (fun t l e => by cases e) (fun t l e => by cases e) (fun t l e => by cases e) rfl

theorem scrub_scr (d : Nat) : Scr (scrub d) := by
  refine ⟨fun _ _ => rfl, fun _ _ => rfl, fun x h1 h2 h3 => ?_⟩
  cases x <;> first
    | rfl
    | exact absurd rfl (h2 _ _)
    | exact absurd rfl (h3 _ _)
    | exact absurd rfl (h1 (fun _ => .dead) (fun _ _ => .nilIface) _)
    | (exfalso; exact h1 (fun _ => .dead) (fun _ _ => .nilIface) _ ⟨rfl, trivial⟩)
    | (exfalso; exact h1 (fun _ => .dead) (fun _ _ => .slice (some ⟨0, 0, none⟩) 0 0) _ ⟨0, 0, 0, rfl, rfl, trivial⟩)
    | (exfalso; exact h1 (fun _ => .dead) (fun _ _ => .pointer (some ⟨0, 0, none⟩)) _ ⟨0, rfl, rfl⟩)

theorem VR.scrub {d : Nat} {h h' : Heap} {ι ι' : Loc} (S : Same d h h' ι ι') {w w' : World} {ok ok' : Nat → Prop} (hok : ∀ b, ok b → ok' b) (hw : ∀ b, ok b → w'.heap[b]? = w.heap[b]?)
    (x : AV) (v : Value) (hx : VR w ok x (rf h ι) v) : VR w' ok' (scrub d x) (rf h' ι') v := VR.scr (scrub_scr d) (fun _ _ hr => rf_scrub S hr) hok hw x v hx

theorem MR.keep {h h' : Heap} {ι ι' : Loc} {w w' : World} {ok ok' : Nat → Prop} (hr : ∀ x v, rf h ι x v → rf h' ι' x v) (hok : ∀ b, ok b → ok' b) (hw : ∀ b, ok b → w'.heap[b]? = w.heap[b]?)
    {B : Nat} {m : MO} {v : Nat → Value} (hb : ∀ g, owns m v g → w'.heap[g]? = w.heap[g]?) (hm : MR B w ok (rf h ι) m v) : MR B w' ok' (rf h' ι') m v := MR.keepR hr hok hw hb hm

theorem scrM_dead {σ : AV → AV} {m : MO} : scrM σ m = .dead ↔ m = .dead := by cases m <;> simp [scrM]

def Plain : MO → Prop
  | .mat .. => False
  | .raw .. => False
  | _ => True
theorem Plain.owns {m : MO} (hp : Plain m) {v : Nat → Value} {g : Nat} (h : V.owns m v g) : blk (v 0) = some g := by
  cases m <;> first | exact h | exact hp.elim

section
variable {C : Ctx} {env : Env} {h : Heap} {ι : Loc} {a : Act} {w : World}

/-- An object is made under the id 'd' (what 'd' meant before is forgotten); the object 'z' is given up. -/
theorem Rel.remake {σ : AV → AV} (S : Scr σ) (R : Rel C env h ι a w) (d z : Nat) (mo : MO) (f0 : Nat → Value) (w' : World) (hbel : Below C.B w w')
    (hw : ∀ b, okB C h ι w b → w'.heap[b]? = w.heap[b]?)
    (hobj : ∀ id, id ≠ d → id ≠ z → h id ≠ .dead → ∀ g, owns (h id) (ι id) g → w'.heap[g]? = w.heap[g]?)
    (h1 : ∀ i, (f0 i).oneCell' = true) (hb : ∀ g, owns mo f0 g → C.B ≤ g ∧ g < w'.heap.size)
    (hnew : ∀ g, owns mo f0 g → ¬ okB C h ι w g) (hap : ∀ id, id ≠ d → id ≠ z → h id ≠ .dead → ∀ g, owns (h id) (ι id) g → ¬ owns mo f0 g)
    (hσ : (∀ b, okB C h ι w b → okB C (upd (upd (fun id => scrM σ (h id)) z .dead) d mo) (upd ι d f0) w' b) → ∀ x v, rf h ι x v → VR w' (okB C (upd (upd (fun id => scrM σ (h id)) z .dead) d mo) (upd ι d f0) w') (σ x) (rf (upd (upd (fun id => scrM σ (h id)) z .dead) d mo) (upd ι d f0)) v)
    (hm : (∀ b, okB C h ι w b → okB C (upd (upd (fun id => scrM σ (h id)) z .dead) d mo) (upd ι d f0) w' b) → MR C.B w' (okB C (upd (upd (fun id => scrM σ (h id)) z .dead) d mo) (upd ι d f0) w') (rf (upd (upd (fun id => scrM σ (h id)) z .dead) d mo) (upd ι d f0)) mo f0) :
    Rel C (fun i => σ (env i)) (upd (upd (fun id => scrM σ (h id)) z .dead) d mo) (upd ι d f0) a w' ∧
      (∀ b, okB C h ι w b → okB C (upd (upd (fun id => scrM σ (h id)) z .dead) d mo) (upd ι d f0) w' b) := by
  have hsz := hbel.size
  have hlive : ∀ id, id ≠ d → upd (upd (fun id => scrM σ (h id)) z .dead) d mo id ≠ .dead → (h id ≠ .dead ∧ id ≠ z) ∧ upd (upd (fun id => scrM σ (h id)) z .dead) d mo id = scrM σ (h id) := by
    intro id hd hl
    rw [upd_other _ _ hd] at hl ⊢
    by_cases hz : id = z
    · subst hz; rw [upd_same] at hl; exact absurd rfl hl
    · rw [upd_other _ _ hz] at hl ⊢
      exact ⟨⟨fun e => hl (scrM_dead.mpr e), hz⟩, rfl⟩
  have hok : ∀ b, okB C h ι w b → okB C (upd (upd (fun id => scrM σ (h id)) z .dead) d mo) (upd ι d f0) w' b := by
    intro b hb'
    refine ⟨by have := hb'.1; omega, hb'.2.1, fun id hl => ?_⟩
    by_cases hd : id = d
    · subst hd
      rw [upd_same, upd_same]
      intro e
      exact hnew b e hb'
    · rw [(hlive id hd hl).2, upd_other _ _ hd, owns_scrM]
      exact hb'.2.2 id (hlive id hd hl).1.1
  refine ⟨?_, hok⟩
  constructor
  · exact R.below.trans hbel
  · exact R.defers
  · exact R.size
  · exact fun i => VR.scr S (hσ hok) hok hw _ _ (R.env i)
  · intro id
    by_cases hd : id = d
    · subst hd; rw [upd_same, upd_same]
      exact hm hok
    · by_cases hl : upd (upd (fun id => scrM σ (h id)) z .dead) d mo id = .dead
      · rw [hl]; trivial
      · obtain ⟨⟨hl1, hz⟩, e1⟩ := hlive id hd hl
        rw [e1, upd_other _ _ hd]
        exact MR.scr S (hσ hok) hok hw (hobj id hd hz hl1) (R.obj id)
  · intro id i
    by_cases hd : id = d
    · subst hd; rw [upd_same]; exact h1 i
    · rw [upd_other _ _ hd]; exact R.one id i
  · intro id hl g hg
    by_cases hd : id = d
    · subst hd; rw [upd_same, upd_same] at hg; exact hb g hg
    · obtain ⟨⟨l1, z1⟩, e1⟩ := hlive id hd hl
      rw [e1, upd_other _ _ hd, owns_scrM] at hg
      have := R.base id l1 g hg
      exact ⟨this.1, by omega⟩
  · intro id id' hl hl' hne g hg
    by_cases hd : id = d
    · subst hd
      rw [upd_same, upd_same] at hg
      have hd' : id' ≠ id := fun e => hne e.symm
      obtain ⟨⟨l1, z1⟩, e1⟩ := hlive id' hd' hl'
      rw [e1, upd_other _ _ hd', owns_scrM]
      exact fun hg' => hap id' hd' z1 l1 g hg' hg
    · obtain ⟨⟨l1, z1⟩, e1⟩ := hlive id hd hl
      rw [e1, upd_other _ _ hd, owns_scrM] at hg
      by_cases hd' : id' = d
      · subst hd'
        rw [upd_same, upd_same]
        exact hap id hd z1 l1 g hg
      · obtain ⟨⟨l2, z2⟩, e2⟩ := hlive id' hd' hl'
        rw [e2, upd_other _ _ hd', owns_scrM]
        exact R.apart id id' l1 l2 hne g hg

theorem Rel.makeG (R : Rel C env h ι a w) (d z : Nat) (mo : MO) (f0 : Nat → Value) (w' : World) (hbel : Below C.B w w')
    (hw : ∀ b, okB C h ι w b → w'.heap[b]? = w.heap[b]?)
    (hobj : ∀ id, id ≠ d → id ≠ z → h id ≠ .dead → ∀ g, owns (h id) (ι id) g → w'.heap[g]? = w.heap[g]?)
    (h1 : ∀ i, (f0 i).oneCell' = true) (hb : ∀ g, owns mo f0 g → C.B ≤ g ∧ g < w'.heap.size)
    (hnew : ∀ g, owns mo f0 g → ¬ okB C h ι w g) (hap : ∀ id, id ≠ d → id ≠ z → h id ≠ .dead → ∀ g, owns (h id) (ι id) g → ¬ owns mo f0 g)
    (hm : ∀ ok r, (∀ b, okB C h ι w b → ok b) → Same d h (upd (upd (scrubH d h) z .dead) d mo) ι (upd ι d f0) →
      r = rf (upd (upd (scrubH d h) z .dead) d mo) (upd ι d f0) → MR C.B w' ok r mo f0) :
    Rel C (scrubE d env) (upd (upd (scrubH d h) z .dead) d mo) (upd ι d f0) a w' ∧
      (∀ b, okB C h ι w b → okB C (upd (upd (scrubH d h) z .dead) d mo) (upd ι d f0) w' b) ∧
      Same d h (upd (upd (scrubH d h) z .dead) d mo) ι (upd ι d f0) := by
  have hS : Same d h (upd (upd (scrubH d h) z .dead) d mo) ι (upd ι d f0) := by
    refine ⟨fun id hd => upd_other _ _ hd, fun id hd => ?_⟩
    rw [upd_other _ _ hd]
    by_cases hz : id = z
    · subst hz; rw [upd_same]; exact .inl rfl
    · rw [upd_other _ _ hz]; exact .inr rfl
  have := R.remake (scrub_scr d) d z mo f0 w' hbel hw hobj h1 hb hnew hap (fun _ _ _ hr => rf_scrub hS hr) (fun hok => hm _ _ hok hS rfl)
  exact ⟨this.1, this.2, hS⟩

theorem Rel.make (R : Rel C env h ι a w) (d z : Nat) (mo : MO) (v0 : Value) (w' : World) (hbel : Below C.B w w')
    (hw : ∀ b, okB C h ι w b → w'.heap[b]? = w.heap[b]?)
    (hobj : ∀ id, id ≠ d → id ≠ z → h id ≠ .dead → ∀ g, owns (h id) (ι id) g → w'.heap[g]? = w.heap[g]?)
    (h1 : v0.oneCell' = true) (hb : ∀ g, blk v0 = some g → C.B ≤ g ∧ g < w'.heap.size)
    (hnew : ∀ g, blk v0 = some g → ¬ okB C h ι w g) (hap : ∀ id, id ≠ d → id ≠ z → h id ≠ .dead → ∀ g, owns (h id) (ι id) g → blk v0 ≠ some g)
    (hm : ∀ ok r, (∀ b, okB C h ι w b → ok b) → Same d h (upd (upd (scrubH d h) z .dead) d mo) ι (upd ι d (fun _ => v0)) →
      r = rf (upd (upd (scrubH d h) z .dead) d mo) (upd ι d (fun _ => v0)) → MR C.B w' ok r mo (fun _ => v0)) (hp : Plain mo := by trivial) :
    Rel C (scrubE d env) (upd (upd (scrubH d h) z .dead) d mo) (upd ι d (fun _ => v0)) a w' ∧
      (∀ b, okB C h ι w b → okB C (upd (upd (scrubH d h) z .dead) d mo) (upd ι d (fun _ => v0)) w' b) ∧
      Same d h (upd (upd (scrubH d h) z .dead) d mo) ι (upd ι d (fun _ => v0)) :=
  R.makeG d z mo (fun _ => v0) w' hbel hw hobj (fun _ => h1) (fun g hg => hb g (hp.owns hg)) (fun g hg => hnew g (hp.owns hg)) (fun id a1 a2 a3 g hg hg' => hap id a1 a2 a3 g hg (hp.owns hg')) hm

/-- What may be said of an object's memory without harm to what leads into it. -/
def Fits (m m' : MO) : Prop := match m' with
  | .row _ sz n _ => (match m with | .row _ sz0 n0 _ => sz0 = sz ∧ n0 = n | _ => False)
  | .mat _ sz n _ _ _ szi len _ hole => (match m with | .mat _ sz0 n0 _ _ _ szi0 len0 _ hole0 => sz0 = sz ∧ n0 = n ∧ szi0 = szi ∧ hole0 = hole ∧ len0 = len | _ => False)
  | _ => True

theorem rf_upd {d : Nat} {mo : MO} (hrow : Fits (h d) mo) : ∀ x v, rf h ι x v → rf (upd h d mo) ι x v := by
  intro x v hx
  cases x with
  | radr id sz i j =>
    obtain ⟨g, n, c, h1, h2, h3⟩ := hx
    refine ⟨g, n, c, h1, h2, ?_⟩
    by_cases e : id = d
    · subst e
      rw [upd_same]
      unfold Fits at hrow
      cases mo <;> first
        | trivial
        | (cases hq : h id <;> rw [hq] at h3 hrow <;> first
            | exact hrow.elim
            | (obtain ⟨e1, e2⟩ := hrow; exact ⟨e1 ▸ h3.1, e2 ▸ h3.2⟩)
            | (obtain ⟨e1, e2, _⟩ := hrow; exact ⟨e1 ▸ h3.1, e2 ▸ h3.2⟩))
    · rw [upd_other _ _ e]; exact h3
  | mrow id i =>
    obtain ⟨h1, h3⟩ := hx
    refine ⟨h1, ?_⟩
    by_cases e : id = d
    · subst e
      rw [upd_same]
      unfold Fits at hrow
      cases mo <;> first
        | trivial
        | (cases hq : h id <;> rw [hq] at h3 hrow <;> first
            | exact hrow.elim
            | (obtain ⟨e1, e2, e3, e4, e5⟩ := hrow; subst e2; subst e4; exact h3))
    · rw [upd_other _ _ e]; exact h3
  | madr id i sz a b =>
    obtain ⟨g, n, c, h1, h2, h3⟩ := hx
    refine ⟨g, n, c, h1, h2, ?_⟩
    by_cases e : id = d
    · subst e
      rw [upd_same]
      unfold Fits at hrow
      cases mo <;> first
        | trivial
        | (cases hq : h id <;> rw [hq] at h3 hrow <;> first
            | exact hrow.elim
            | (obtain ⟨e1, e2, e3, e4, e5⟩ := hrow; subst e2; subst e3; subst e4; subst e5; exact h3))
    · rw [upd_other _ _ e]; exact h3
  | row id => exact hx
  | box id off => exact hx
  | obj id => exact hx
  | _ => exact absurd hx (by simp [rf])

/-- An object's memory is written; what leads to it stays. -/
theorem Rel.setG (R : Rel C env h ι a w) (d : Nat) (mo : MO) (w' : World) (hbel : Below C.B w w') (hlive : h d ≠ .dead)
    (hw : ∀ b, ¬ owns (h d) (ι d) b → b < w.heap.size → w'.heap[b]? = w.heap[b]?)
    (hrow : Fits (h d) mo) (hown : ∀ g, owns mo (ι d) g → owns (h d) (ι d) g)
    (hm : ∀ r ok, (∀ x v, rf h ι x v → r x v) → (∀ b, okB C h ι w b → ok b) → (∀ b, okB C h ι w b → w'.heap[b]? = w.heap[b]?) → MR C.B w' ok r mo (ι d)) :
    Rel C env (upd h d mo) ι a w' := by
  have hsz := hbel.size
  have hr := rf_upd (ι := ι) hrow
  have hdead : ∀ id, upd h d mo id ≠ .dead → h id ≠ .dead := by
    intro id hl
    by_cases e : id = d
    · subst e; exact hlive
    · rwa [upd_other _ _ e] at hl
  have hsub : ∀ id g, owns (upd h d mo id) (ι id) g → owns (h id) (ι id) g := by
    intro id g hg
    by_cases e : id = d
    · subst e; rw [upd_same] at hg; exact hown g hg
    · rwa [upd_other _ _ e] at hg
  have hok : ∀ b, okB C h ι w b → okB C (upd h d mo) ι w' b := fun b hb => ⟨by have := hb.1; omega, hb.2.1, fun id hl hg => hb.2.2 id (hdead id hl) (hsub id b hg)⟩
  have hwb : ∀ b, okB C h ι w b → w'.heap[b]? = w.heap[b]? := fun b hb => hw b (hb.2.2 d hlive) hb.1
  constructor
  · exact R.below.trans hbel
  · exact R.defers
  · exact R.size
  · exact fun i => VR.mono hok hwb _ _ _ _ hr (R.env i)
  · intro id
    by_cases e : id = d
    · subst e; rw [upd_same]; exact hm _ _ hr hok hwb
    · rw [upd_other _ _ e]
      by_cases hl : h id = .dead
      · rw [hl]; trivial
      · exact MR.keep hr hok hwb (fun g hg => hw g (R.apart id d hl hlive e g hg) (R.base id hl g hg).2) (R.obj id)
  · exact R.one
  · intro id hl g hg
    have := R.base id (hdead id hl) g (hsub id g hg)
    exact ⟨this.1, by omega⟩
  · exact fun id id' hl hl' hne g hg hg' => R.apart id id' (hdead id hl) (hdead id' hl') hne g (hsub id g hg) (hsub id' g hg')

theorem Rel.set (R : Rel C env h ι a w) (d : Nat) (mo : MO) (w' : World) (hbel : Below C.B w w') (hlive : h d ≠ .dead)
    (hw : ∀ b, (∀ g, blk (ι d 0) = some g → b ≠ g) → b < w.heap.size → w'.heap[b]? = w.heap[b]?)
    (hrow : Fits (h d) mo)
    (hm : ∀ r ok, (∀ x v, rf h ι x v → r x v) → (∀ b, okB C h ι w b → ok b) → (∀ b, okB C h ι w b → w'.heap[b]? = w.heap[b]?) → MR C.B w' ok r mo (ι d)) (hp : Plain mo := by trivial) :
    Rel C env (upd h d mo) ι a w' :=
  R.setG d mo w' hbel hlive (fun b hb => hw b (fun g hg e => hb (owns_zero (e ▸ hg)))) hrow (fun g hg => owns_zero (hp.owns hg)) hm

/-- An object is given up: what it holds can no longer be changed, and may be read as it is from now on. -/
theorem Rel.kill (R : Rel C env h ι a w) (z : Nat) : Rel C env (upd h z .dead) ι a w ∧ (∀ b, okB C h ι w b → okB C (upd h z .dead) ι w b) ∧ (∀ x v, rf h ι x v → rf (upd h z .dead) ι x v) := by
  have hdead : ∀ id, upd h z .dead id ≠ .dead → h id ≠ .dead ∧ id ≠ z := by
    intro id hl
    by_cases e : id = z
    · subst e; rw [upd_same] at hl; exact absurd rfl hl
    · rw [upd_other _ _ e] at hl; exact ⟨hl, e⟩
  have hr : ∀ x v, rf h ι x v → rf (upd h z .dead) ι x v := rf_upd (by trivial)
  have hok : ∀ b, okB C h ι w b → okB C (upd h z .dead) ι w b := fun b hb => ⟨hb.1, hb.2.1, fun id hl => by rw [upd_other _ _ (hdead id hl).2]; exact hb.2.2 id (hdead id hl).1⟩
  refine ⟨?_, hok, hr⟩
  constructor
  · exact R.below
  · exact R.defers
  · exact R.size
  · exact fun i => VR.mono hok (fun _ _ => rfl) _ _ _ _ hr (R.env i)
  · intro id
    by_cases e : id = z
    · subst e; rw [upd_same]; trivial
    · rw [upd_other _ _ e]; exact MR.keep hr hok (fun _ _ => rfl) (fun _ _ => rfl) (R.obj id)
  · exact R.one
  · intro id hl; rw [upd_other _ _ (hdead id hl).2]; exact R.base id (hdead id hl).1
  · intro id id' hl hl'; rw [upd_other _ _ (hdead id hl).2, upd_other _ _ (hdead id' hl').2]; exact R.apart id id' (hdead id hl).1 (hdead id' hl').1

/-- Slots may be forgotten, or told otherwise. -/
theorem Rel.env_ {env' : Env} (R : Rel C env h ι a w) (he : ∀ i, VR w (okB C h ι w) (env' i) (rf h ι) (a.tmps.getD i undef)) : Rel C env' h ι a w := { R with env := he }
end

end Go.Proofs.YteklnpgiloebcaaDoor.V

namespace Go.Proofs.YteklnpgiloebcaaDoor.V
set_option linter.unusedVariables false
set_option linter.unusedSimpArgs false
open Go Go.RowKit

def force (s : Nat) (K : Nat → Prop) (stop : Prop) : Prop :=
  match s with
  | 0 => K 0 | 1 => K 1 | 2 => K 2 | 3 => K 3 | 4 => K 4 | 5 => K 5 | 6 => K 6 | 7 => K 7 | 8 => K 8 | 9 => K 9 | 10 => K 10
  | 11 => K 11 | 12 => K 12 | 13 => K 13 | 14 => K 14 | 15 => K 15 | 16 => K 16
  | _ => stop
theorem force_ok {s : Nat} {K : Nat → Prop} {stop : Prop} (h : force s K stop) : K s ∨ stop := by
  unfold force at h
  split at h <;> first | exact .inl h | exact .inr h

def isAggT (P : TT) (t : TypeId) : Option Bool :=
  match P.underlying t with
  | some (.struct _) | some (.array _ _) => some true
  | some _ => some false
  | none => none

theorem isAggT_und {P : TT} {t : TypeId} {b : Bool} (h : isAggT P t = some b) : ∃ d, P.underlying t = some d := by
  unfold isAggT at h
  cases hu : P.underlying t with
  | some d => exact ⟨d, rfl⟩
  | none => rw [hu] at h; cases h

theorem info_some {P : Program} {t : TypeId} {d : TypeDesc} (h : P.underlying t = some d) : ∃ i, P.info? t = some i := by
  unfold Program.underlying at h
  cases hi : P.info? t with
  | some i => exact ⟨i, rfl⟩
  | none => rw [hi] at h; cases h

theorem run_und {C : Ctx} {t : TypeId} {d : TypeDesc} (h : C.T.underlying t = some d) (w : World) : (underlying t).run C.P w = .ok d w := run_underlying (C.und h) w
theorem run_sizeOf {C : Ctx} {t : TypeId} {d : TypeDesc} (h : C.T.underlying t = some d) (w : World) : (sizeOf t).run C.P w = .ok (C.T.cellsOf t) w := by
  obtain ⟨i, hi⟩ := info_some (C.und h)
  rw [← C.cells h]
  simp [sizeOf, typeInfo, hi, Program.cellsOf]

theorem run_isAgg {C : Ctx} {t : TypeId} {b : Bool} (h : isAggT C.T t = some b) (w : World) : (isAgg t).run C.P w = .ok b w := by
  unfold isAggT at h
  unfold isAgg
  rw [Sem.run_bind]
  split at h
  · rename_i hu; rw [run_und hu]; cases h; simp
  · rename_i hu; rw [run_und hu]; cases h; simp
  · rename_i d h1 h2 hu
    rw [run_und hu]; cases h
    cases d <;> first | rfl | exact absurd rfl (h1 _) | exact absurd rfl (h2 _ _)
  · cases h

theorem run_loadVar_agg {C : Ctx} {t : TypeId} (h : isAggT C.T t = some true) {w : World} {ad : Addr} (f : Nat → Value) (hc : ∀ j, j < C.T.cellsOf t → w.cell? (ad.add j) = some (f j)) :
    (loadVar t ad).run C.P w = .ok (.agg ((List.range (C.T.cellsOf t)).map f).toArray) w := by
  obtain ⟨d, hd⟩ := isAggT_und h
  simp [loadVar, run_isAgg h, run_sizeOf hd, run_loadCells w ad _ f hc]

theorem run_loadVar_one {C : Ctx} {t : TypeId} (h : isAggT C.T t = some false) {w : World} {ad : Addr} {v : Value} (hc : w.cell? ad = some v) :
    (loadVar t ad).run C.P w = .ok v w := by
  simp [loadVar, run_isAgg h, run_load, hc]

/-- What a place holds: its cells from there on, told one by one. -/
def placeAt (h : Heap) : AV → Option (Nat × (Nat → AV))
  | .iadr m get => some (m, get)
  | .radr id sz i j => match h id with
    | .row _ _ _ get => some (sz - j, fun q => get i (j + q))
    | .mat _ _ _ get0 o _ _ _ _ none => some (sz - j, fun q => cond (Nat.beq (j + q) o) (.mrow id i) (get0 i (j + q)))
    | _ => none
  | .madr id i sz a b => match h id with
    | .mat _ _ _ _ _ _ _ _ get _ => some (sz - b, fun q => get i a (b + q))
    | _ => none
  | .box id off => match h id with
    | .box _ l => some (l.length - off, fun q => l.getD (off + q) .u)
    | _ => none
  | _ => none

theorem addr_add (a : Addr) (i j : Nat) : (a.add i).add j = a.add (i + j) := by
  unfold Addr.add
  by_cases hi : i = 0 <;> by_cases hj : j = 0 <;> simp [hi, hj, Nat.add_assoc]
theorem addr_block (a : Addr) (n : Nat) : (a.add n).block = a.block := by unfold Addr.add; split <;> rfl
theorem addr_lit (g o n : Nat) : (⟨g, o, none⟩ : Addr).add n = ⟨g, o + n, none⟩ := by unfold Addr.add; split <;> simp_all

theorem placeAt_ok {C : Ctx} {env : Env} {h : Heap} {ι : Loc} {a : Act} {w : World} (R : Rel C env h ι a w) {x : AV} {v : Value} {m : Nat} {get : Nat → AV}
    (hp : placeAt h x = some (m, get)) (hx : VR w (okB C h ι w) x (rf h ι) v) :
    ∃ ad : Addr, v = .pointer (some ad) ∧ ∀ j, j < m → ∃ cv, w.cell? (ad.add j) = some cv ∧ cv.oneCell' = true ∧ VR w (okB C h ι w) (get j) (rf h ι) cv := by
  cases x with
  | iadr m' get' =>
    cases hp
    obtain ⟨ad, e, hb, hc⟩ := hx
    refine ⟨ad, e, fun j hj => ?_⟩
    obtain ⟨cv, c1, c2, c3⟩ := hc j hj
    exact ⟨cv, c1, c2, VR.mono (fun _ h => h) (fun _ _ => rfl) _ _ _ _ (fun _ _ h => False.elim h) c3⟩
  | radr id sz i j =>
    simp only [placeAt] at hp
    have ho := R.obj id
    obtain ⟨g, n, c, h1, h2, h3⟩ := hx
    cases hh : h id with
    | row e sz' n' get' =>
      rw [hh] at hp ho h3
      cases hp
      obtain ⟨rfl, hi⟩ := h3
      obtain ⟨xs, hown, hone, hcells⟩ := ho
      refine ⟨_, h2, fun q hq => ?_⟩
      obtain ⟨cv, c1, c2⟩ := hcells i (j + q) hi (by omega)
      refine ⟨cv, ?_, hone cv (List.mem_of_getElem? c1), VR.mono (fun _ h => h) (fun _ _ => rfl) _ _ _ _ (fun _ _ h => False.elim h) c2⟩
      rw [addr_add, Nat.add_assoc]
      exact hown.cells (g := g) (by rw [h1]; rfl) _ _ c1
    | mat e sz' n' get0 o ei szi len get' hole =>
      cases hole with
      | some _ => rw [hh] at hp; cases hp
      | none =>
      rw [hh] at hp ho h3
      cases hp
      obtain ⟨rfl, hi⟩ := h3
      obtain ⟨_, ⟨xs, hown, hone, hcells, hin⟩, _, _⟩ := ho
      refine ⟨_, h2, fun q hq => ?_⟩
      by_cases hjo : j + q = o
      · have c1 := hin i hi (by simp)
        rw [← hjo] at c1
        refine ⟨ι id (i + 1), ?_, R.one id (i + 1), ?_⟩
        · rw [addr_add, Nat.add_assoc]
          exact hown.cells (g := g) (by rw [h1]; rfl) _ _ c1
        · show VR w (okB C h ι w) (cond (Nat.beq (j + q) o) (.mrow id i) (get0 i (j + q))) (rf h ι) _
          rw [show Nat.beq (j + q) o = true by rw [hjo]; exact Nat.beq_refl o, cond_true]
          exact ⟨rfl, by rw [hh]; exact ⟨hi, by simp⟩⟩
      · obtain ⟨cv, c1, c2⟩ := hcells i (j + q) hi (by omega) hjo
        refine ⟨cv, ?_, hone cv (List.mem_of_getElem? c1), ?_⟩
        · rw [addr_add, Nat.add_assoc]
          exact hown.cells (g := g) (by rw [h1]; rfl) _ _ c1
        · show VR w (okB C h ι w) (cond (Nat.beq (j + q) o) (.mrow id i) (get0 i (j + q))) (rf h ι) _
          rw [beq_ne hjo, cond_false]
          exact VR.mono (fun _ h => h) (fun _ _ => rfl) _ _ _ _ (fun _ _ h => False.elim h) c2
    | _ => rw [hh] at hp; cases hp
  | madr id i sz p q0 =>
    simp only [placeAt] at hp
    have ho := R.obj id
    obtain ⟨g, n, c, h1, h2, h3⟩ := hx
    cases hh : h id with
    | mat e sz' n' get0 o ei szi len get' hole =>
      rw [hh] at hp ho h3
      cases hp
      obtain ⟨rfl, hi, hho, ha⟩ := h3
      obtain ⟨_, _, hrows, _⟩ := ho
      obtain ⟨_, ys, hy, hy1, hyc⟩ := hrows i hi hho
      refine ⟨_, h2, fun q hq => ?_⟩
      obtain ⟨cv, c1, c2⟩ := hyc p (q0 + q) ha (by omega)
      refine ⟨cv, ?_, hy1 cv (List.mem_of_getElem? c1), VR.mono (fun _ h => h) (fun _ _ => rfl) _ _ _ _ (fun _ _ h => False.elim h) c2⟩
      rw [addr_add, Nat.add_assoc]
      exact hy.cells (g := g) (by rw [h1]; rfl) _ _ c1
    | _ => rw [hh] at hp; cases hp
  | box id off =>
    simp only [placeAt] at hp
    have ho := R.obj id
    obtain ⟨g, h1, h2⟩ := hx
    cases hh : h id with
    | box t l =>
      rw [hh] at hp ho
      cases hp
      obtain ⟨g', cs, e, hg, hs, hc⟩ := ho
      rw [h1] at e
      cases e
      refine ⟨_, h2, fun q hq => ?_⟩
      have hlt : off + q < l.length := by omega
      obtain ⟨cv, c1, c2, c3⟩ := hc (off + q) l[off + q] (List.getElem?_eq_getElem hlt)
      refine ⟨cv, ?_, c2, ?_⟩
      · rw [addr_add, addr_lit, Nat.zero_add, cell_of_row w g _ cs t (0, 0) hg]; exact c1
      · simpa [List.getD, List.getElem?_eq_getElem hlt] using c3
    | _ => rw [hh] at hp; cases hp
  | _ => cases hp

/-- What an operation leaves: a value; the world may have changed. -/
def Out (C : Ctx) (a : Act) (w : World) (s : Sem Value) (K : Env → Heap → AV → Prop) : Prop :=
  ∃ v w' ι' env' h' x, s.run C.P w = .ok v w' ∧ Rel C env' h' ι' a w' ∧ VR w' (okB C h' ι' w') x (rf h' ι') v ∧ K env' h' x

section
variable {C : Ctx} {env : Env} {h : Heap} {ι : Loc} {a : Act} {w : World}

theorem Out.same (R : Rel C env h ι a w) {s : Sem Value} {K : Env → Heap → AV → Prop} {x : AV} {v : Value} (hk : K env h x) (hr : s.run C.P w = .ok v w)
    (hv : VR w (okB C h ι w) x (rf h ι) v) : Out C a w s K := ⟨v, w, ι, env, h, x, hr, R, hv, hk⟩

/-! ### load -/
def aload (P : TT) (h : Heap) (t : TypeId) (x : AV) (K : AV → Prop) (stop : Prop) : Prop :=
  match placeAt h x, isAggT P t with
  | some (m, get), some true => force (P.cellsOf t) (fun s => cond (Nat.ble s m) (K (.agg s get)) stop) stop
  | some (m, get), some false => cond (Nat.blt 0 m) (K (get 0)) stop
  | _, _ => stop

theorem aload_ok (R : Rel C env h ι a w) {t : TypeId} {x : AV} {v : Value} {K : Env → Heap → AV → Prop} {stop : Prop} (hx : VR w (okB C h ι w) x (rf h ι) v)
    (hk : aload C.T h t x (K env h) stop) : stop ∨ Out C a w (Instr.loadAt t v) K := by
  unfold aload at hk
  split at hk
  · rename_i m get hp ht
    rcases force_ok hk with hk | hk
    · cases hb : Nat.ble (C.T.cellsOf t) m with
      | false => rw [hb] at hk; exact .inl hk
      | true =>
        rw [hb] at hk
        have hle : C.T.cellsOf t ≤ m := Nat.ble_eq ▸ hb
        obtain ⟨ad, rfl, hc⟩ := placeAt_ok R hp hx
        refine .inr (Out.same R hk (v := .agg ((List.range (C.T.cellsOf t)).map fun j => (w.cell? (ad.add j)).getD undef).toArray) ?_ ⟨_, rfl, by simp, fun j hj => ?_⟩)
        · simp only [Instr.loadAt, Instr.sureAddr, Sem.run_bind, Sem.run_pure, Result.andThen_ok]
          exact run_loadVar_agg ht _ (fun j hj => by obtain ⟨cv, c1, _⟩ := hc j (by omega); rw [c1]; rfl)
        · obtain ⟨cv, c1, c2, c3⟩ := hc j (by omega)
          exact ⟨cv, by simp [hj, c1], c2, c3⟩
    · exact .inl hk
  · rename_i m get hp ht
    cases hb : Nat.blt 0 m with
    | false => rw [hb] at hk; exact .inl hk
    | true =>
      rw [hb] at hk
      have hlt : 0 < m := by simpa [Nat.blt_eq] using hb
      obtain ⟨ad, rfl, hc⟩ := placeAt_ok R hp hx
      obtain ⟨cv, c1, c2, c3⟩ := hc 0 hlt
      refine .inr (Out.same R hk (v := cv) ?_ c3)
      simp only [Instr.loadAt, Instr.sureAddr, Sem.run_bind, Sem.run_pure, Result.andThen_ok]
      exact run_loadVar_one ht (by simpa [Addr.add] using c1)
  · exact .inl hk

/-! ### the place of a field, an element -/
def fieldOf (P : TT) (s : TypeId) (f : Nat) : Option (Nat × TypeId) :=
  match P.underlying s with
  | some (.struct fs) => (fs.toList[f]?).map fun F => (F.offset, F.type)
  | _ => none

def moved (x : AV) (o : Nat) : Option AV :=
  match x with
  | .iadr m get => some (.iadr (m - o) (fun q => get (o + q)))
  | .radr id sz i j => some (.radr id sz i (j + o))
  | .box id off => some (.box id (off + o))
  | .madr id i sz a b => some (.madr id i sz a (b + o))
  | _ => none

theorem moved_ok {x : AV} {v : Value} {o : Nat} {y : AV} (hm : moved x o = some y) (hx : VR w (okB C h ι w) x (rf h ι) v) :
    ∃ ad, v = .pointer (some ad) ∧ VR w (okB C h ι w) y (rf h ι) (.pointer (some (ad.add o))) := by
  cases x with
  | iadr m get =>
    cases hm
    obtain ⟨ad, e, hb, hc⟩ := hx
    refine ⟨ad, e, ⟨_, rfl, by rw [addr_block]; exact hb, fun j hj => ?_⟩⟩
    rw [addr_add]
    exact hc (o + j) (by omega)
  | radr id sz i j =>
    cases hm
    obtain ⟨g, n, c, h1, h2, h3⟩ := hx
    exact ⟨_, h2, ⟨g, n, c, h1, by rw [addr_add, Nat.add_assoc], h3⟩⟩
  | box id off =>
    cases hm
    obtain ⟨g, h1, h2⟩ := hx
    exact ⟨_, h2, ⟨g, h1, by rw [addr_add]⟩⟩
  | madr id i sz p q =>
    cases hm
    obtain ⟨g, n, c, h1, h2, h3⟩ := hx
    exact ⟨_, h2, ⟨g, n, c, h1, by rw [addr_add, Nat.add_assoc], h3⟩⟩
  | _ => cases hm

def afieldAddr (P : TT) (s : TypeId) (x : AV) (f : Nat) (K : AV → Prop) (stop : Prop) : Prop :=
  match fieldOf P s f with
  | some (o, t) => match P.underlying t with
    | some _ => cond (Nat.blt 0 (P.cellsOf t)) (force o (fun o => match moved x o with | some y => K y | none => stop) stop) stop
    | none => stop
  | none => stop

theorem afieldAddr_ok (R : Rel C env h ι a w) {s : TypeId} {f : Nat} {x : AV} {v : Value} {K : Env → Heap → AV → Prop} {stop : Prop} (hx : VR w (okB C h ι w) x (rf h ι) v)
    (hk : afieldAddr C.T s x f (K env h) stop) : stop ∨ Out C a w (Instr.fieldAt s v f) K := by
  unfold afieldAddr at hk
  split at hk
  · rename_i o t hf
    split at hk
    · rename_i d hd
      cases hb : Nat.blt 0 (C.T.cellsOf t) with
      | false => rw [hb] at hk; exact .inl hk
      | true =>
        rw [hb, cond_true] at hk
        rcases force_ok hk with hk | hk
        · split at hk
          · rename_i y hm
            obtain ⟨ad, rfl, hy⟩ := moved_ok hm hx
            refine .inr (Out.same R hk ?_ hy)
            have hp0 : 0 < C.T.cellsOf t := by simpa [Nat.blt_eq] using hb
            have hpos : ¬ C.T.cellsOf t = 0 := by omega
            unfold fieldOf at hf
            split at hf
            · rename_i fs hu
              cases hq : fs.toList[f]? with
              | none => rw [hq] at hf; cases hf
              | some F =>
                rw [hq] at hf; cases hf
                have hq' : fs[f]? = some F := by simpa using hq
                simp [Instr.fieldAt, run_und hu, hq', Instr.sureAddr, fieldPlace, run_sizeOf hd, hpos]
            · cases hf
          · exact .inl hk
        · exact .inl hk
    · exact .inl hk
  · exact .inl hk

/-- The q-th cell of the i-th element. -/
def idx (i sz q : Nat) : Nat := match sz, q with
  | 1, 0 => i
  | sz, q => i * sz + q
theorem idx_eq (i sz q : Nat) : idx i sz q = i * sz + q := by
  unfold idx
  split
  · simp
  · rfl
def aindexAddr (P : TT) (h : Heap) (t : TypeId) (x ix : AV) (K : AV → Prop) (stop : Prop) : Prop :=
  match P.underlying t, ix with
  | some (.slice e), .int _ i => match P.underlying e with
    | some _ => match x with
      | .sl n sz get => cond (Nat.beq (P.cellsOf e) sz) (Need (0 ≤ i ∧ i < n) (K (.iadr sz (get i.toNat)))) stop
      | .row id => match h id with
        | .row _ sz n _ => cond (Nat.beq (P.cellsOf e) sz) (Need (0 ≤ i ∧ i < n) (K (.radr id sz i.toNat 0))) stop
        | .mat _ sz n _ _ _ _ _ _ _ => cond (Nat.beq (P.cellsOf e) sz) (Need (0 ≤ i ∧ i < n) (K (.radr id sz i.toNat 0))) stop
        | _ => stop
      | .mrow id k => match h id with
        | .mat _ _ _ _ _ _ szi len _ _ => cond (Nat.beq (P.cellsOf e) szi) (Need (0 ≤ i ∧ i < len k) (K (.madr id k szi i.toNat 0))) stop
        | _ => stop
      | _ => stop
    | none => stop
  | some (.array len e), .int _ i => match P.underlying e with
    | some _ => match x with
      | .iadr m get => cond (Nat.beq m (len * P.cellsOf e)) (Need (0 ≤ i ∧ i < len) (force (P.cellsOf e) (fun sz => K (.iadr sz (fun q => get (idx i.toNat sz q)))) stop)) stop
      | .box id off => Need (0 ≤ i ∧ i < len) (force (P.cellsOf e) (fun sz => K (.box id (off + idx i.toNat sz 0))) stop)
      | _ => stop
    | none => stop
  | _, _ => stop

theorem aindexAddr_ok (R : Rel C env h ι a w) {t : TypeId} {x ix : AV} {v u : Value} {K : Env → Heap → AV → Prop} {stop : Prop} (hx : VR w (okB C h ι w) x (rf h ι) v)
    (hi : VR w (okB C h ι w) ix (rf h ι) u) (hk : aindexAddr C.T h t x ix (K env h) stop) : stop ∨ Out C a w (Instr.indexAt t v u) K := by
  unfold aindexAddr at hk
  split at hk
  · rename_i e k i hu
    have hui : u = .int k i := hi
    subst hui
    split at hk
    · rename_i d hd
      split at hk
      · rename_i n sz get
        cases hb : Nat.beq (C.T.cellsOf e) sz with
        | false => rw [hb] at hk; exact .inl hk
        | true =>
          rw [hb] at hk
          have hsz : C.T.cellsOf e = sz := Nat.eq_of_beq_eq_true hb
          obtain ⟨⟨h0, h1⟩, hk⟩ := hk
          obtain ⟨A, c, rfl, hnc, hc, _, hcells⟩ := hx
          obtain ⟨ad, rfl, hbk, hcs⟩ := hcells (by omega)
          refine .inr (Out.same R hk (v := .pointer (some (ad.add (i.toNat * sz)))) ?_ ⟨_, rfl, by rw [addr_block]; exact hbk, fun j hj => ?_⟩)
          · simp [Instr.indexAt, asIntOf, run_und hu, h0, h1, run_sizeOf hd, hsz]
          · rw [addr_add]
            exact hcs i.toNat j (by omega) hj
      · rename_i id
        split at hk
        · rename_i e' sz n get hh
          cases hb : Nat.beq (C.T.cellsOf e) sz with
          | false => rw [hb] at hk; exact .inl hk
          | true =>
            rw [hb] at hk
            have hsz : C.T.cellsOf e = sz := Nat.eq_of_beq_eq_true hb
            obtain ⟨⟨h0, h1⟩, hk⟩ := hk
            have ho := R.obj id
            rw [hh] at ho
            obtain ⟨xs, hown, hone, hcells⟩ := ho
            have hvv : v = ι id 0 := hx
            rcases hown.2 with ⟨_, hn0⟩ | ⟨g, cap, cur, hv, hB, hg, hnc, hcap, hcs, htake⟩
            · omega
            · refine .inr (Out.same R hk (v := .pointer (some ((⟨g, 0, none⟩ : Addr).add (i.toNat * sz)))) ?_ ⟨g, n, cap, hv, by rw [Nat.add_zero], ?_⟩)
              · rw [hvv, hv]
                simp [Instr.indexAt, asIntOf, run_und hu, h0, h1, run_sizeOf hd, hsz]
              · rw [hh]; exact ⟨rfl, by omega⟩
        · rename_i e' sz n get0 o ei szi len get hole hh
          cases hb : Nat.beq (C.T.cellsOf e) sz with
          | false => rw [hb] at hk; exact .inl hk
          | true =>
            rw [hb] at hk
            have hsz : C.T.cellsOf e = sz := Nat.eq_of_beq_eq_true hb
            obtain ⟨⟨h0, h1⟩, hk⟩ := hk
            have ho := R.obj id
            rw [hh] at ho
            obtain ⟨_, ⟨xs, hown, hone, _⟩, _⟩ := ho
            have hvv : v = ι id 0 := hx
            rcases hown.2 with ⟨_, hn0⟩ | ⟨g, cap, cur, hv, hB, hg, hnc, hcap, hcs, htake⟩
            · omega
            · refine .inr (Out.same R hk (v := .pointer (some ((⟨g, 0, none⟩ : Addr).add (i.toNat * sz)))) ?_ ⟨g, n, cap, hv, by rw [Nat.add_zero], ?_⟩)
              · rw [hvv, hv]
                simp [Instr.indexAt, asIntOf, run_und hu, h0, h1, run_sizeOf hd, hsz]
              · rw [hh]; exact ⟨rfl, by omega⟩
        · exact .inl hk
      · rename_i id k0
        split at hk
        · rename_i e' sz n get0 o ei szi len get hole hh
          cases hb : Nat.beq (C.T.cellsOf e) szi with
          | false => rw [hb] at hk; exact .inl hk
          | true =>
            rw [hb] at hk
            have hsz : C.T.cellsOf e = szi := Nat.eq_of_beq_eq_true hb
            obtain ⟨⟨h0, h1⟩, hk⟩ := hk
            have ho := R.obj id
            obtain ⟨hvv, h3⟩ := hx
            rw [hh] at ho h3
            obtain ⟨_, _, hrows, _⟩ := ho
            obtain ⟨_, ys, hy, hy1, hyc⟩ := hrows k0 h3.1 h3.2
            rcases hy.2 with ⟨_, hn0⟩ | ⟨g, cap, cur, hv, hB, hg, hnc, hcap, hcs, htake⟩
            · omega
            · refine .inr (Out.same R hk (v := .pointer (some ((⟨g, 0, none⟩ : Addr).add (i.toNat * szi)))) ?_ ⟨g, _, cap, hv, by rw [Nat.add_zero], ?_⟩)
              · rw [hvv, hv]
                simp [Instr.indexAt, asIntOf, run_und hu, h0, h1, run_sizeOf hd, hsz]
              · rw [hh]; exact ⟨rfl, h3.1, h3.2, by omega⟩
        · exact .inl hk
      · exact .inl hk
    · exact .inl hk
  · rename_i len e k i hu
    have hui : u = .int k i := hi
    subst hui
    split at hk
    · rename_i d hd
      split at hk
      · rename_i m get
        cases hb : Nat.beq m (len * C.T.cellsOf e) with
        | false => rw [hb] at hk; exact .inl hk
        | true =>
          rw [hb] at hk
          have hm : m = len * C.T.cellsOf e := Nat.eq_of_beq_eq_true hb
          obtain ⟨⟨h0, h1⟩, hk⟩ := hk
          rcases force_ok hk with hk | hk
          case inr => exact .inl hk
          obtain ⟨ad, rfl, hbk, hcs⟩ := hx
          refine .inr (Out.same R hk (v := .pointer (some (ad.add (i.toNat * C.T.cellsOf e)))) ?_ ⟨_, rfl, by rw [addr_block]; exact hbk, fun j hj => ?_⟩)
          · simp [Instr.indexAt, Instr.sureAddr, asIntOf, run_und hu, h0, h1, run_sizeOf hd]
          · rw [addr_add]
            show ∃ cv, _ = some cv ∧ _ ∧ VR w (okB C h ι w) (get (idx i.toNat (C.T.cellsOf e) j)) noref cv
            rw [idx_eq]
            refine hcs _ ?_
            rw [hm]
            have h2 : i.toNat + 1 ≤ len := by omega
            have h3 := Nat.mul_le_mul_right (C.T.cellsOf e) h2
            rw [Nat.add_mul] at h3
            omega
      · rename_i id off
        obtain ⟨⟨h0, h1⟩, hk⟩ := hk
        rcases force_ok hk with hk | hk
        case inr => exact .inl hk
        obtain ⟨g, h2, rfl⟩ := hx
        refine .inr (Out.same R hk (v := .pointer (some (((⟨g, 0, none⟩ : Addr).add off).add (i.toNat * C.T.cellsOf e)))) ?_ ⟨g, h2, by rw [addr_add, idx_eq, Nat.add_zero]⟩)
        simp [Instr.indexAt, Instr.sureAddr, asIntOf, run_und hu, h0, h1, run_sizeOf hd]
      · exact .inl hk
    · exact .inl hk
  · exact .inl hk

/-! ### parts of values -/
def apart (P : TT) (t : TypeId) (n : Nat) (get : Nat → AV) (o : Nat) (K : AV → Prop) (stop : Prop) : Prop :=
  match isAggT P t with
  | some true => force (P.cellsOf t) (fun s => cond (Nat.ble (o + s) n) (K (.agg s (fun q => get (o + q)))) stop) stop
  | some false => cond (Nat.blt o n) (K (get o)) stop
  | none => stop

theorem apart_ok (R : Rel C env h ι a w) {t : TypeId} {n : Nat} {get : Nat → AV} {o : Nat} {cs : Array Value} {K : Env → Heap → AV → Prop} {stop : Prop}
    (hs : cs.size = n) (hc : ∀ j, j < n → ∃ cv, cs[j]? = some cv ∧ cv.oneCell' = true ∧ VR w (okB C h ι w) (get j) (rf h ι) cv)
    (hk : apart C.T t n get o (K env h) stop) : stop ∨ Out C a w (part t cs o) K := by
  unfold apart at hk
  split at hk
  · rename_i ht
    obtain ⟨d, hd⟩ := isAggT_und ht
    rcases force_ok hk with hk | hk
    · cases hb : Nat.ble (o + C.T.cellsOf t) n with
      | false => rw [hb] at hk; exact .inl hk
      | true =>
        rw [hb] at hk
        have hle : o + C.T.cellsOf t ≤ n := Nat.ble_eq ▸ hb
        refine .inr (Out.same R hk (v := .agg (cs.extract o (o + C.T.cellsOf t))) (by simp [part, run_isAgg ht, run_sizeOf hd]) ⟨_, rfl, by simp; omega, fun j hj => ?_⟩)
        obtain ⟨cv, c1, c2, c3⟩ := hc (o + j) (by omega)
        exact ⟨cv, by rw [Array.getElem?_extract]; rw [if_pos (by omega)]; exact c1, c2, c3⟩
    · exact .inl hk
  · rename_i ht
    cases hb : Nat.blt o n with
    | false => rw [hb] at hk; exact .inl hk
    | true =>
      rw [hb] at hk
      have hlt : o < n := by simpa [Nat.blt_eq] using hb
      obtain ⟨cv, c1, c2, c3⟩ := hc o hlt
      exact .inr (Out.same R hk (v := cv) (by simp [part, run_isAgg ht, c1]) c3)
  · exact .inl hk

def afield (P : TT) (s : TypeId) (x : AV) (f : Nat) (K : AV → Prop) (stop : Prop) : Prop :=
  match fieldOf P s f, x with
  | some (o, t), .agg n get => force o (fun o => apart P t n get o K stop) stop
  | _, _ => stop

theorem afield_ok (R : Rel C env h ι a w) {s : TypeId} {f : Nat} {x : AV} {v : Value} {K : Env → Heap → AV → Prop} {stop : Prop} (hx : VR w (okB C h ι w) x (rf h ι) v)
    (hk : afield C.T s x f (K env h) stop) : stop ∨ Out C a w (Instr.field s v f) K := by
  unfold afield at hk
  split at hk
  · rename_i o t n get hf
    obtain ⟨cs, rfl, hs, hc⟩ := hx
    rcases force_ok hk with hk | hk
    · rcases apart_ok R hs hc hk with hk | hk
      · exact .inl hk
      · refine .inr ?_
        unfold fieldOf at hf
        split at hf
        · rename_i fs hu
          cases hq : fs.toList[f]? with
          | none => rw [hq] at hf; cases hf
          | some F =>
            rw [hq] at hf; cases hf
            have hq' : fs[f]? = some F := by simpa using hq
            obtain ⟨v', w', ι', env', h', x', hr, rest⟩ := hk
            exact ⟨v', w', ι', env', h', x', by simp [Instr.field, run_und hu, hq', asAgg, hr], rest⟩
        · cases hf
    · exact .inl hk
  · exact .inl hk

def aextract (x : AV) (i : Nat) (K : AV → Prop) (stop : Prop) : Prop :=
  match x with
  | .tup n get => cond (Nat.blt i n) (K (get i)) stop
  | _ => stop

theorem aextract_ok (R : Rel C env h ι a w) {i : Nat} {x : AV} {v : Value} {K : Env → Heap → AV → Prop} {stop : Prop} (hx : VR w (okB C h ι w) x (rf h ι) v)
    (hk : aextract x i (K env h) stop) : stop ∨ Out C a w (Instr.extract v i) K := by
  unfold aextract at hk
  split at hk
  · rename_i n get
    obtain ⟨cs, rfl, hs, hc⟩ := hx
    cases hb : Nat.blt i n with
    | false => rw [hb] at hk; exact .inl hk
    | true =>
      rw [hb] at hk
      have hlt : i < n := by simpa [Nat.blt_eq] using hb
      obtain ⟨cv, c1, c3⟩ := hc i hlt
      exact .inr (Out.same R hk (v := cv) (by simp [Instr.extract, c1]) c3)
  · exact .inl hk

/-- The byte at a place of a text. -/
def bt (s : ByteArray) (n : Nat) : Int := ((s.data.toList.getD n 0).toNat : Int)

def aindex (P : TT) (t : TypeId) (x ix : AV) (K : AV → Prop) (stop : Prop) : Prop :=
  match P.underlying t, x, ix with
  | some .string, .str s, .int _ i => Need (0 ≤ i ∧ i < s.size) (K (.int .u8 (bt s i.toNat)))
  | some (.array len e), .agg n get, .int _ i => match P.underlying e with
    | some _ => cond (Nat.beq n (len * P.cellsOf e)) (Need (0 ≤ i ∧ i < len) (apart P e n get (i.toNat * P.cellsOf e) K stop)) stop
    | none => stop
  | _, _, _ => stop

theorem aindex_ok (R : Rel C env h ι a w) {t : TypeId} {x ix : AV} {v u : Value} {K : Env → Heap → AV → Prop} {stop : Prop} (hx : VR w (okB C h ι w) x (rf h ι) v)
    (hi : VR w (okB C h ι w) ix (rf h ι) u) (hk : aindex C.T t x ix (K env h) stop) : stop ∨ Out C a w (Instr.index t v u) K := by
  unfold aindex at hk
  split at hk
  · rename_i s k i hu
    have hui : u = .int k i := hi
    subst hui
    obtain ⟨rfl, hs⟩ : v = .string s ∧ s.size ≤ maxLen := hx
    obtain ⟨⟨h0, h1⟩, hk⟩ := hk
    have hlt : i.toNat < s.size := by omega
    refine .inr (Out.same R hk (v := .int .u8 (bt s i.toNat)) ?_ rfl)
    have hg : s[i.toNat]? = some s[i.toNat] := ByteArray.getElem?_lt' s _ hlt
    have hb : bt s i.toNat = (s[i.toNat].toNat : Int) := by
      unfold bt
      have : i.toNat < s.data.toList.length := by simpa using hlt
      rw [List.getD, List.getElem?_eq_getElem this]
      rfl
    simp [Instr.index, asIntOf, run_und hu, h0, hg, hb]
  · rename_i len e n get k i hu
    have hui : u = .int k i := hi
    subst hui
    obtain ⟨cs, rfl, hs, hc⟩ := hx
    split at hk
    · rename_i d hd
      cases hb : Nat.beq n (len * C.T.cellsOf e) with
      | false => rw [hb] at hk; exact .inl hk
      | true =>
        rw [hb] at hk
        obtain ⟨⟨h0, h1⟩, hk⟩ := hk
        rcases apart_ok R hs hc hk with hk | hk
        · exact .inl hk
        · obtain ⟨v', w', ι', env', h', x', hr, rest⟩ := hk
          exact .inr ⟨v', w', ι', env', h', x', by simp [Instr.index, asIntOf, run_und hu, h0, h1, run_sizeOf hd, hr], rest⟩
    · exact .inl hk
  · exact .inl hk

/-! ### len -/
def alen (P : TT) (h : Heap) (t : TypeId) (x : AV) (K : AV → Prop) (stop : Prop) : Prop :=
  match P.underlying t, x with
  | some .string, .str s => Know (s.size ≤ 9223372036854775807) (K (.int .i64 s.size))
  | some (.slice _), .sl n _ _ => Know (n ≤ 9223372036854775807) (K (.int .i64 n))
  | some (.slice _), .nils => K (.int .i64 0)
  | some (.slice _), .row id => match h id with
    | .row _ _ n _ => Know (n ≤ 9223372036854775807) (K (.int .i64 n))
    | .mat _ _ n _ _ _ _ _ _ _ => Know (n ≤ 9223372036854775807) (K (.int .i64 n))
    | _ => stop
  | some (.slice _), .mrow id i => match h id with
    | .mat _ _ _ _ _ _ _ len _ _ => Know (len i ≤ 9223372036854775807) (K (.int .i64 (len i)))
    | _ => stop
  | some (.map _ _), .obj id => match h id with
    | .mp m => K (.int .i64 m.size)
    | _ => stop
  | _, _ => stop

theorem alen_ok (R : Rel C env h ι a w) {t : TypeId} {x : AV} {v : Value} {K : Env → Heap → AV → Prop} {stop : Prop} (ty : TypeId) (hx : VR w (okB C h ι w) x (rf h ι) v)
    (hk : alen C.T h t x (K env h) stop) : stop ∨ Out C a w (Builtin.len_ #[t] ty #[v]) K := by
  unfold alen at hk
  split at hk
  · rename_i s hu
    obtain ⟨rfl, hs⟩ : v = .string s ∧ s.size ≤ maxLen := hx
    exact .inr (Out.same R (hk.h hs) (by simp [Builtin.len_, run_und hu]; rfl) rfl)
  · rename_i e n sz get hu
    obtain ⟨A, c, rfl, hnc, hc, _, _⟩ := hx
    exact .inr (Out.same R (hk.h (by simp only [maxLen] at hc; omega)) (by simp [Builtin.len_, run_und hu]; rfl) rfl)
  · rename_i e hu
    have hv : v = .slice none 0 0 := hx
    subst hv
    exact .inr (Out.same R hk (by simp [Builtin.len_, run_und hu]; rfl) rfl)
  · rename_i e id hu
    split at hk
    · rename_i e' sz n get hh
      have ho := R.obj id
      rw [hh] at ho
      obtain ⟨xs, hown, hone, hcells⟩ := ho
      have hvv : v = ι id 0 := hx
      rcases hown.2 with ⟨hv, hn0⟩ | ⟨g, cap, cur, hv, hB, hg, hnc, hcap, hcs, htake⟩
      · rw [hvv, hv]; subst hn0
        exact .inr (Out.same R (hk.h (by omega)) (by simp [Builtin.len_, run_und hu]; rfl) rfl)
      · rw [hvv, hv]
        exact .inr (Out.same R (hk.h (by simp only [maxLen] at hcap; omega)) (by simp [Builtin.len_, run_und hu]; rfl) rfl)
    · rename_i e' sz n get0 o ei szi len get hole hh
      have ho := R.obj id
      rw [hh] at ho
      obtain ⟨_, ⟨xs, hown, hone, _⟩, _⟩ := ho
      have hvv : v = ι id 0 := hx
      rcases hown.2 with ⟨hv, hn0⟩ | ⟨g, cap, cur, hv, hB, hg, hnc, hcap, hcs, htake⟩
      · rw [hvv, hv]; subst hn0
        exact .inr (Out.same R (hk.h (by omega)) (by simp [Builtin.len_, run_und hu]; rfl) rfl)
      · rw [hvv, hv]
        exact .inr (Out.same R (hk.h (by simp only [maxLen] at hcap; omega)) (by simp [Builtin.len_, run_und hu]; rfl) rfl)
    · exact .inl hk
  · rename_i e id k0 hu
    split at hk
    · rename_i e' sz n get0 o ei szi len get hole hh
      have ho := R.obj id
      obtain ⟨hvv, h3⟩ := hx
      rw [hh] at ho h3
      obtain ⟨_, _, hrows, _⟩ := ho
      obtain ⟨_, ys, hy, hy1, hyc⟩ := hrows k0 h3.1 h3.2
      rcases hy.2 with ⟨hv, hn0⟩ | ⟨g, cap, cur, hv, hB, hg, hnc, hcap, hcs, htake⟩
      · rw [hvv, hv]
        exact .inr (Out.same R (hk.h (by omega)) (by simp [Builtin.len_, run_und hu]; rfl) (by rw [hn0]; rfl))
      · rw [hvv, hv]
        exact .inr (Out.same R (hk.h (by simp only [maxLen] at hcap; omega)) (by simp [Builtin.len_, run_und hu]; rfl) rfl)
    · exact .inl hk
  · rename_i kt vt id hu
    split at hk
    · rename_i m hh
      have ho := R.obj id
      rw [hh] at ho
      obtain ⟨g, es, clock, hv, hg, he⟩ := ho
      have hvv : v = ι id 0 := hx
      have hsz : es.size = m.size := by rw [← m.size_eq, ← he]; simp
      refine .inr (Out.same R hk ?_ rfl)
      rw [hvv, hv]
      simp [Builtin.len_, run_und hu, MapKept.run_getObj_map hg, hsz]; rfl
    · exact .inl hk
  · exact .inl hk
end

end Go.Proofs.YteklnpgiloebcaaDoor.V

namespace Go.Proofs.YteklnpgiloebcaaDoor.V
set_option linter.unusedVariables false
set_option linter.unusedSimpArgs false
open Go Go.RowKit

/-- A value's cells, one by one. -/
def cellsAV : AV → Option (List AV)
  | .agg n get => some ((List.range n).map get)
  | .u => none
  | .sk => none
  | .tup _ _ => none
  | x => some [x]

def noRef : AV → Bool
  | .row _ => false
  | .radr .. => false
  | .box .. => false
  | .obj _ => false
  | .mrow .. => false
  | .madr .. => false
  | .agg .. => false
  | .tup .. => false
  | _ => true

theorem noRef_ok {w : World} {ok : Nat → Prop} {r r' : Ref} {x : AV} {v : Value} (hn : noRef x = true) (h : VR w ok x r v) : VR w ok x r' v := by
  cases x <;> first | exact h | cases hn

theorem oneCell_cells {v : Value} (h : v.oneCell' = true) : v.cells = #[v] := by cases v <;> first | rfl | cases h

section
variable {C : Ctx} {env : Env} {h : Heap} {ι : Loc} {a : Act} {w : World}

theorem one_of (R : Rel C env h ι a w) {x : AV} {v : Value} (hx : VR w (okB C h ι w) x (rf h ι) v) (h1 : ∀ n get, x ≠ .agg n get) (h2 : ∀ n get, x ≠ .tup n get) (h3 : x ≠ .u) (h4 : x ≠ .sk) : v.oneCell' = true := by
  cases x with
  | u => exact absurd rfl h3
  | sk => exact absurd rfl h4
  | agg n get => exact absurd rfl (h1 n get)
  | tup n get => exact absurd rfl (h2 n get)
  | str s => obtain ⟨rfl, _⟩ := hx; rfl
  | sl n sz get => obtain ⟨A, c, rfl, _⟩ := hx; rfl
  | iadr m get => obtain ⟨ad, rfl, _⟩ := hx; rfl
  | row id => have : v = ι id 0 := hx; rw [this]; exact R.one id 0
  | obj id => have : v = ι id 0 := hx; rw [this]; exact R.one id 0
  | mrow id i => have : v = ι id (i + 1) := hx.1; rw [this]; exact R.one id (i + 1)
  | madr id i sz p q => obtain ⟨g, n, c, _, rfl, _⟩ := hx; rfl
  | radr id sz i j => obtain ⟨g, n, c, _, rfl, _⟩ := hx; rfl
  | box id off => obtain ⟨g, _, rfl⟩ := hx; rfl
  | ptr => obtain ⟨p, rfl⟩ := hx; rfl
  | val c => obtain ⟨rfl, h⟩ := hx; exact h
  | one => exact hx
  | gtab cs => obtain ⟨g, t, fz, rfl, _⟩ := hx; rfl
  | _ => have : v = _ := hx; rw [this]; rfl

theorem cellsAV_ok (R : Rel C env h ι a w) {x : AV} {v : Value} {l : List AV} (hl : cellsAV x = some l) (hx : VR w (okB C h ι w) x (rf h ι) v) :
    v.cells.size = l.length ∧ ∀ (j : Nat) (y : AV), l[j]? = some y → ∃ cv, v.cells[j]? = some cv ∧ cv.oneCell' = true ∧ VR w (okB C h ι w) y (rf h ι) cv := by
  by_cases hagg : ∃ n get, x = .agg n get
  · obtain ⟨n, get, rfl⟩ := hagg
    cases hl
    obtain ⟨cs, rfl, hs, hc⟩ := hx
    refine ⟨by simp [Value.cells, hs], fun j y hy => ?_⟩
    have hj : j < n := by
      rcases Nat.lt_or_ge j n with h' | h'
      · exact h'
      · rw [List.getElem?_eq_none (by simpa using h')] at hy; cases hy
    obtain ⟨cv, c1, c2, c3⟩ := hc j hj
    rw [List.getElem?_map, List.getElem?_range hj] at hy
    cases hy
    exact ⟨cv, c1, c2, c3⟩
  · have ho : v.oneCell' = true := one_of R hx (fun n get e => hagg ⟨n, get, e⟩) (fun n get e => by subst e; cases hl) (fun e => by subst e; cases hl) (fun e => by subst e; cases hl)
    have hl' : l = [x] := by
      cases x <;> first | (cases hl; rfl) | exact absurd ⟨_, _, rfl⟩ hagg | cases hl
    subst hl'
    rw [oneCell_cells ho]
    refine ⟨rfl, fun j y hy => ?_⟩
    cases j with
    | zero => cases hy; exact ⟨v, rfl, ho, hx⟩
    | succ j => cases hy

/-! ### boxes -/
theorem below_alloc (C : Ctx) (hR : Below C.B C.w0 w) (o : Obj) : Below C.B w (w.alloc o) := (Below.refl _ _).alloc hR.size o

theorem Rel.newBox (R : Rel C env h ι a w) (d : Nat) (t : TypeId) (l : List AV) (cs : Array Value) (hs : cs.size = l.length)
    (hc : ∀ (j : Nat) (y : AV), l[j]? = some y → ∃ cv, cs[j]? = some cv ∧ cv.oneCell' = true ∧ VR w (okB C h ι w) y (rf h ι) cv) :
    Rel C (scrubE d env) (upd (upd (scrubH d h) d .dead) d (.box t (l.map (scrub d)))) (upd ι d (fun _ => .pointer (some ⟨w.heap.size, 0, none⟩))) a (w.alloc (.cells cs t)) := by
  refine (R.make d d (.box t (l.map (scrub d))) _ _ (below_alloc C R.below _) (fun b hb => Below.heap_alloc _ _ _ hb.1)
    (fun id _ _ hl g hg => Below.heap_alloc _ _ _ (R.base id hl g hg).2) rfl (fun g hg => by cases hg; exact ⟨R.below.size, by simp⟩)
    (fun g hg hb => by cases hg; exact absurd hb.1 (Nat.lt_irrefl _)) (fun id _ _ hl g hg e => by cases e; exact absurd (R.base id hl _ hg).2 (Nat.lt_irrefl _)) ?_).1
  intro ok r hok hS hr
  subst hr
  refine ⟨_, _, rfl, heap_alloc_new w _, by simp [hs], fun j x hx => ?_⟩
  rw [List.getElem?_map] at hx
  cases hl : l[j]? with
  | none => rw [hl] at hx; cases hx
  | some y =>
    rw [hl] at hx; cases hx
    obtain ⟨cv, c1, c2, c3⟩ := hc j y hl
    exact ⟨cv, c1, c2, VR.scrub hS hok (fun b hb => Below.heap_alloc _ _ _ hb.1) _ _ c3⟩

def abox (t d : Nat) (x : AV) (env : Env) (h : Heap) (K : Env → Heap → AV → Prop) (stop : Prop) : Prop :=
  match cellsAV x with
  | some l => K (scrubE d env) (upd (upd (scrubH d h) d .dead) d (.box t (l.map (scrub d)))) (.box d 0)
  | none => stop

theorem abox_ok (R : Rel C env h ι a w) {t d : Nat} {x : AV} {v : Value} {K : Env → Heap → AV → Prop} {stop : Prop} (hx : VR w (okB C h ι w) x (rf h ι) v)
    (hk : abox t d x env h K stop) : stop ∨ Out C a w (Instr.box t v) K := by
  unfold abox at hk
  split at hk
  · rename_i l hl
    obtain ⟨hs, hc⟩ := cellsAV_ok R hl hx
    have R' := R.newBox d t l v.cells hs hc
    refine .inr ⟨.pointer (some ⟨w.heap.size, 0, none⟩), _, _, _, _, _, ?_, R', ?_, hk⟩
    · simp [Instr.box, newVar, newRow, newObj, Sem.run]
    · exact ⟨w.heap.size, by rw [upd_same], by simp [Addr.add]⟩
  · exact .inl hk

theorem zeroL_ok {P : Program} {t : TypeId} {l : List AV} (hz : zeroL P t = some l) : ∃ i z, P.info? t = some i ∧ i.zero = some z ∧ z.cells.size = l.length ∧
    ∀ (w : World) (ok : Nat → Prop) (r : Ref) (j : Nat) (y : AV), l[j]? = some y → ∃ c, z.cells[j]? = some c ∧ c.oneCell' = true ∧ VR w ok y r c := by
  unfold zeroL at hz
  split at hz
  · rename_i z hzz
    cases hi : P.info? t with
    | none => rw [hi] at hzz; cases hzz
    | some i =>
      rw [hi] at hzz
      cases hb : z.cells.toList.all (·.oneCell') with
      | false => rw [hb] at hz; cases hz
      | true =>
        rw [hb] at hz; cases hz
        refine ⟨i, z, rfl, hzz, by simp, fun w ok r j y hy => ?_⟩
        rw [List.getElem?_map] at hy
        cases hc : z.cells.toList[j]? with
        | none => rw [hc] at hy; cases hy
        | some c =>
          rw [hc] at hy; cases hy
          exact ⟨c, by simpa using hc, by simpa using List.all_eq_true.mp hb c (List.mem_of_getElem? hc), cv_ok c⟩
  · cases hz

def aalloc (P : TT) (t d : Nat) (env : Env) (h : Heap) (K : Env → Heap → AV → Prop) (stop : Prop) : Prop :=
  match P.zero t with
  | some l => K (scrubE d env) (upd (upd (scrubH d h) d .dead) d (.box t l)) (.box d 0)
  | none => stop

theorem scrub_cv (d : Nat) (v : Value) : scrub d (cv v) = cv v := by
  unfold cv
  split <;> try rfl
  rename_i s
  cases Nat.ble s.size maxLen <;> rfl

theorem aalloc_ok (R : Rel C env h ι a w) {t d : Nat} {K : Env → Heap → AV → Prop} {stop : Prop} (o : Value) (hk : aalloc C.T t d env h K stop) : stop ∨ Out C a w (Instr.alloc t true o) K := by
  unfold aalloc at hk
  split at hk
  · rename_i l hl
    obtain ⟨i, z, hi, hz, hs, hc⟩ := zeroL_ok (C.zeroes hl).1
    have R' := R.newBox d t l z.cells hs (fun j y hy => hc w _ _ j y hy)
    have hl2 : l.map (scrub d) = l := by
      have hl := (C.zeroes hl).1
      unfold zeroL at hl
      split at hl
      · rename_i z' _
        cases hb : z'.cells.toList.all (·.oneCell') with
        | false => rw [hb] at hl; cases hl
        | true => rw [hb] at hl; cases hl; rw [List.map_map]; exact List.map_congr_left (fun c _ => scrub_cv d c)
      · cases hl
    rw [hl2] at R'
    refine .inr ⟨.pointer (some ⟨w.heap.size, 0, none⟩), _, _, _, _, _, ?_, R', ?_, hk⟩
    · simp [Instr.alloc, zeroValue, typeInfo, hi, hz, newVar, newRow, newObj, Sem.run]
    · exact ⟨w.heap.size, by rw [upd_same], by simp [Addr.add]⟩
  · exact .inl hk

/-! ### store -/
def setL (l0 : List AV) (off : Nat) (l : List AV) : List AV := l0.take off ++ l ++ l0.drop (off + l.length)
def updRow (get : Nat → Nat → AV) (i j : Nat) (l : List AV) : Nat → Nat → AV := fun i' j' => if i' = i ∧ j ≤ j' ∧ j' < j + l.length then l.getD (j' - j) .u else get i' j'

def astore (P : TT) (h : Heap) (t : TypeId) (x y : AV) (K : Heap → Prop) (stop : Prop) : Prop :=
  match cellsAV y with
  | some l => cond (Nat.beq l.length (P.cellsOf t)) (match P.underlying t with
    | some _ => (match x with
      | .box id off => match h id with
        | .box t' l0 => cond (Nat.ble (off + l.length) l0.length) (K (upd h id (.box t' (setL l0 off l)))) stop
        | _ => stop
      | .radr id sz i j => match h id with
        | .row e sz' n get => cond (Nat.ble (j + l.length) sz && l.all noRef) (K (upd h id (.row e sz' n (updRow get i j l)))) stop
        | _ => stop
      | _ => stop)
    | none => stop) stop
  | none => stop

theorem run_storeVar_at {P : Program} {t : TypeId} {i : TypeInfo} (hi : P.info? t = some i) {w : World} {g off : Nat} {ty : TypeId} {cur : Array Value} {v : Value}
    (hg : cellsX w g cur ty) (hsz : v.cells.size = P.cellsOf t) (hfit : off + v.cells.size ≤ cur.size) (h1 : ∀ u ∈ v.cells.toList, u.oneCell' = true) :
    (Instr.storeAt t (.pointer (some ⟨g, off, none⟩)) v).run P w = .ok () (w.setRow g (cur.toList.take off ++ v.cells.toList ++ cur.toList.drop (off + v.cells.size)).toArray) := by
  have hst := run_storeCells_atX P g off ty v.cells.toList 0 cur w hg (by simpa using hfit) h1
  have hs : ¬ v.cells.size ≠ i.size := by rw [hsz]; simp [Program.cellsOf, hi]
  simp only [Nat.add_zero, Array.length_toList] at hst
  simp only [Instr.storeAt, Instr.sureAddr, storeVar, sizeOf, typeInfo, program, hi, Sem.run_bind, Sem.run_pure, Result.andThen_ok, Sem.run, if_neg hs, hst]

theorem getElem?_three {α : Type} (l vs : List α) (o q : Nat) (h : o + vs.length ≤ l.length) :
    (l.take o ++ vs ++ l.drop (o + vs.length))[q]? = if o ≤ q ∧ q < o + vs.length then vs[q - o]? else l[q]? := by
  have ht : (l.take o).length = o := by rw [List.length_take]; omega
  by_cases h1 : q < o
  · rw [if_neg (by omega), List.append_assoc, List.getElem?_append_left (by omega), List.getElem?_take_of_lt h1]
  · by_cases h2 : q < o + vs.length
    · rw [if_pos ⟨by omega, h2⟩, List.getElem?_append_left (by rw [List.length_append]; omega), List.getElem?_append_right (by omega), ht]
    · rw [if_neg (by omega), List.getElem?_append_right (by rw [List.length_append]; omega), List.getElem?_drop, List.length_append, ht]
      congr 1; omega

theorem below_setRow (C : Ctx) (g : Nat) (cs : Array Value) (hg : C.B ≤ g) : Below C.B w (w.setRow g cs) :=
  ⟨rfl, rfl, rfl, by simp, fun k hk => setRow_other w g k cs (by omega)⟩

theorem row_split {sz i j i' j' len : Nat} (hj : j + len ≤ sz) (hj' : j' < sz) : (i * sz + j ≤ i' * sz + j' ∧ i' * sz + j' < i * sz + j + len) ↔ (i' = i ∧ j ≤ j' ∧ j' < j + len) := by
  constructor
  · intro ⟨h1, h2⟩
    have : i' = i := by
      rcases Nat.lt_trichotomy i' i with h | h | h
      · have := Nat.mul_le_mul_right sz (show i' + 1 ≤ i by omega)
        rw [Nat.add_mul] at this; omega
      · exact h
      · have := Nat.mul_le_mul_right sz (show i + 1 ≤ i' by omega)
        rw [Nat.add_mul] at this; omega
    subst this
    exact ⟨rfl, by omega, by omega⟩
  · rintro ⟨rfl, h1, h2⟩
    omega

theorem mul_lt_row {sz n i j : Nat} (hi : i < n) (hj : j < sz) : i * sz + j < n * sz := by
  have := Nat.mul_le_mul_right sz (show i + 1 ≤ n by omega)
  rw [Nat.add_mul] at this; omega

theorem astore_ok (R : Rel C env h ι a w) {t : TypeId} {x y : AV} {v u : Value} {K : Env → Heap → AV → Prop} {stop : Prop} (hx : VR w (okB C h ι w) x (rf h ι) v) (hy : VR w (okB C h ι w) y (rf h ι) u)
    (hk : astore C.T h t x y (fun h' => K env h' .u) stop) : stop ∨ ∃ w' h', (Instr.storeAt t v u).run C.P w = .ok () w' ∧ Rel C env h' ι a w' ∧ K env h' .u := by
  unfold astore at hk
  split at hk
  · rename_i l hl
    obtain ⟨hs, hc⟩ := cellsAV_ok R hl hy
    cases hb : Nat.beq l.length (C.T.cellsOf t) with
    | false => rw [hb] at hk; exact .inl hk
    | true =>
      rw [hb, cond_true] at hk
      have hsz0 : l.length = C.T.cellsOf t := Nat.eq_of_beq_eq_true hb
      have h1 : ∀ z ∈ u.cells.toList, z.oneCell' = true := by
        intro z hz
        obtain ⟨j, hj⟩ := List.getElem?_of_mem hz
        have hjl : j < l.length := by
          rcases Nat.lt_or_ge j l.length with h' | h'
          · exact h'
          · rw [List.getElem?_eq_none (by rw [Array.length_toList, hs]; exact h')] at hj; cases hj
        obtain ⟨cv, c1, c2, _⟩ := hc j l[j] (List.getElem?_eq_getElem hjl)
        have : u.cells.toList[j]? = some cv := by simpa using c1
        rw [this] at hj; cases hj; exact c2
      split at hk
      · rename_i dt hdt
        obtain ⟨i, hi⟩ := info_some (C.und hdt)
        have hsz : l.length = C.P.cellsOf t := by rw [hsz0, C.cells hdt]
        split at hk
        · rename_i id off
          obtain ⟨g, e1, e2⟩ := hx
          split at hk
          · rename_i t' l0 hh
            cases hb2 : Nat.ble (off + l.length) l0.length with
            | false => rw [hb2] at hk; exact .inl hk
            | true =>
              rw [hb2, cond_true] at hk
              have hle : off + l.length ≤ l0.length := Nat.ble_eq ▸ hb2
              have ho := R.obj id
              rw [hh] at ho
              obtain ⟨g', cs, e3, hg, hcs, hcc⟩ := ho
              rw [e1] at e3; cases e3
              have hrun := run_storeVar_at hi (.of hg) (off := off) (v := u) (by rw [hs, hsz]) (by rw [hs, hcs]; exact hle) h1
              have hbase := R.base id (by rw [hh]; simp) g (owns_zero (by rw [e1]; rfl))
              refine .inr ⟨_, _, by rw [e2, addr_lit, Nat.zero_add]; exact hrun, ?_, hk⟩
              refine R.set id _ _ (below_setRow C g _ hbase.1) (by rw [hh]; simp) (fun b hb' _ => setRow_other w g b _ (hb' g (by rw [e1]; rfl))) (by trivial) ?_
              intro r ok hr hok hwb
              refine ⟨g, _, e1, setRow_heap w g cs _ t' _ hg, ?_, fun j z hz => ?_⟩
              · simp [setL]; omega
              · have hthree := getElem?_three cs.toList u.cells.toList off j (by simp; omega)
                have hl3 := getElem?_three l0 l off j hle
                have e4 : (setL l0 off l)[j]? = some z := hz
                unfold setL at e4
                rw [hl3] at e4
                have hlen : u.cells.toList.length = l.length := by simp [hs]
                rw [Array.length_toList] at hthree
                rw [List.getElem?_toArray, hthree]
                rw [hs] at *
                split at e4
                · rename_i hin
                  obtain ⟨cv, c1, c2, c3⟩ := hc (j - off) z e4
                  exact ⟨cv, by rw [if_pos hin]; simpa using c1, c2, VR.mono hok hwb _ _ _ _ hr c3⟩
                · rename_i hin
                  obtain ⟨cv, c1, c2, c3⟩ := hcc j z e4
                  exact ⟨cv, by rw [if_neg hin]; simpa using c1, c2, VR.mono hok hwb _ _ _ _ hr c3⟩
          · exact .inl hk
        · rename_i id sz i' j'
          obtain ⟨g, nn, cc, e1, e2, e3⟩ := hx
          split at hk
          · rename_i e sz' n get hh
            cases hb2 : (Nat.ble (j' + l.length) sz && l.all noRef) with
            | false => rw [hb2] at hk; exact .inl hk
            | true =>
              rw [hb2, cond_true] at hk
              rw [Bool.and_eq_true] at hb2
              have hle : j' + l.length ≤ sz := Nat.ble_eq ▸ hb2.1
              rw [hh] at e3
              obtain ⟨rfl, hin⟩ := e3
              have ho := R.obj id
              rw [hh] at ho
              obtain ⟨xs, hown, hone, hcells⟩ := ho
              rcases hown.2 with ⟨hv, hn0⟩ | ⟨g', cap, cur, hv, hB, hg, hnc, hcap, hcs, htake⟩
              · rw [e1] at hv; cases hv
              · rw [e1] at hv; cases hv
                have hn : nn * sz' ≤ cc * sz' := Nat.mul_le_mul_right _ hnc
                have hcur : nn * sz' ≤ cur.size := by rw [hcs]; exact hn
                have hfit : i' * sz' + j' + l.length ≤ nn * sz' := by
                  have := Nat.mul_le_mul_right sz' (show i' + 1 ≤ nn by omega)
                  rw [Nat.add_mul] at this; omega
                have hrun := run_storeVar_at hi hg (off := i' * sz' + j') (v := u) (by rw [hs, hsz]) (by rw [hs]; omega) h1
                have hbase := R.base id (by rw [hh]; simp) g (owns_zero (by rw [e1]; rfl))
                refine .inr ⟨_, _, by rw [e2, addr_lit, Nat.zero_add]; exact hrun, ?_, hk⟩
                refine R.set id _ _ (below_setRow C g _ hbase.1) (by rw [hh]; simp) (fun b hb' _ => setRow_other w g b _ (hb' g (by rw [e1]; rfl)))
                  (by rw [hh]; exact ⟨rfl, rfl⟩) ?_
                intro r ok hr hok hwb
                have hxl : xs.length = nn * sz' := hown.1
                have hul : u.cells.toList.length = l.length := by simp [hs]
                have hthree : ∀ q, (xs.take (i' * sz' + j') ++ u.cells.toList ++ xs.drop (i' * sz' + j' + u.cells.toList.length))[q]? = _ := fun q => getElem?_three xs u.cells.toList (i' * sz' + j') q (by omega)
                refine ⟨xs.take (i' * sz' + j') ++ u.cells.toList ++ xs.drop (i' * sz' + j' + u.cells.toList.length), ⟨by simp; omega,   .inr ⟨g, cc, _, e1, hB, hg.set (by simp; omega), hnc, hcap, by simp; omega, ?_⟩⟩, ?_, ?_⟩
                · rw [List.toList_toArray]
                  apply List.ext_getElem?
                  intro q
                  rw [List.getElem?_take, hthree q, ← htake, List.getElem?_take]
                  have h3 := getElem?_three cur.toList u.cells.toList (i' * sz' + j') q (by simp; omega)
                  rw [Array.length_toList] at h3
                  rw [Array.length_toList]
                  rw [h3]
                  by_cases hq : q < nn * sz'
                  · simp [hq]
                  · rw [if_neg hq, if_neg (by omega), if_neg hq]
                · intro z hz
                  obtain ⟨q, hq⟩ := List.getElem?_of_mem hz
                  rw [hthree q] at hq
                  split at hq
                  · exact h1 z (List.mem_of_getElem? hq)
                  · exact hone z (List.mem_of_getElem? hq)
                · intro i2 j2 hi2 hj2
                  rw [hthree]
                  have hiff := row_split (i := i') (j := j') (i' := i2) (j' := j2) (len := u.cells.toList.length) (by omega) hj2
                  unfold updRow
                  by_cases hin2 : i2 = i' ∧ j' ≤ j2 ∧ j2 < j' + l.length
                  · rw [if_pos hin2, if_pos (hiff.mpr (by rw [hul]; exact hin2))]
                    have hlt : j2 - j' < l.length := by omega
                    obtain ⟨cv, c1, c2, c3⟩ := hc (j2 - j') l[j2 - j'] (List.getElem?_eq_getElem hlt)
                    refine ⟨cv, ?_, ?_⟩
                    · have : i2 * sz' + j2 - (i' * sz' + j') = j2 - j' := by rw [hin2.1]; omega
                      rw [this]; simpa using c1
                    · rw [List.getD, List.getElem?_eq_getElem hlt]
                      exact VR.mono hok hwb _ _ _ _ (fun _ _ h => h) (noRef_ok (List.all_eq_true.mp hb2.2 _ (List.getElem_mem hlt)) c3)
                  · rw [if_neg hin2, if_neg (fun h' => hin2 (by rw [← hul]; exact hiff.mp h'))]
                    obtain ⟨cv, c1, c3⟩ := hcells i2 j2 hi2 hj2
                    exact ⟨cv, c1, VR.mono hok hwb _ _ _ _ (fun _ _ h => h) c3⟩
          · exact .inl hk
        · exact .inl hk
      · exact .inl hk
  · exact .inl hk
end

end Go.Proofs.YteklnpgiloebcaaDoor.V

namespace Go.Proofs.YteklnpgiloebcaaDoor.V
set_option linter.unusedVariables false
set_option linter.unusedSimpArgs false
open Go Go.RowKit

section
variable {C : Ctx} {env : Env} {h : Heap} {ι : Loc} {a : Act} {w : World}

/-- Cells that are told by a list of abstract values. -/
def CL (w : World) (ok : Nat → Prop) (r : Ref) (cs : Array Value) (l : List AV) : Prop :=
  cs.size = l.length ∧ ∀ (j : Nat) (y : AV), l[j]? = some y → ∃ cv, cs[j]? = some cv ∧ cv.oneCell' = true ∧ VR w ok y r cv

theorem foldl_set (vs : List Value) : ∀ (k off : Nat) (cells : Array Value) (q : Nat), off + k + vs.length ≤ cells.size →
    ((vs.zipIdx k).foldl (fun cs (x : Value × Nat) => cs.setIfInBounds (off + x.2) x.1) cells)[q]? = if off + k ≤ q ∧ q < off + k + vs.length then vs[q - (off + k)]? else cells[q]? := by
  induction vs with
  | nil => intro k off cells q _; simp; intro h1 h2; omega
  | cons v vs ih =>
    intro k off cells q hle
    simp only [List.length_cons] at hle
    rw [List.zipIdx_cons, List.foldl_cons, ih (k + 1) off _ q (by simp; omega)]
    by_cases h0 : q = off + k
    · subst h0
      rw [if_neg (by omega), if_pos ⟨Nat.le_refl _, by simp⟩]
      have : off + k < cells.size := by omega
      simp [this]
    · by_cases h1 : off + (k + 1) ≤ q ∧ q < off + (k + 1) + vs.length
      · rw [if_pos h1, if_pos (by simp only [List.length_cons]; omega)]
        have : q - (off + k) = (q - (off + (k + 1))) + 1 := by omega
        rw [this, List.getElem?_cons_succ]
      · rw [if_neg h1, if_neg (by simp only [List.length_cons]; omega)]
        simp [Array.getElem?_setIfInBounds, Ne.symm h0]

theorem foldl_set_size (vs : List (Value × Nat)) : ∀ (off : Nat) (cells : Array Value), (vs.foldl (fun cs (x : Value × Nat) => cs.setIfInBounds (off + x.2) x.1) cells).size = cells.size := by
  induction vs with
  | nil => intro off cells; rfl
  | cons v vs ih => intro off cells; rw [List.foldl_cons, ih]; simp

theorem CL.set {ok : Nat → Prop} {r : Ref} {cs : Array Value} {l0 : List AV} {v : Value} {l : List AV} {off : Nat} (h0 : CL w ok r cs l0) (hv : CL w ok r v.cells l) (hle : off + l.length ≤ l0.length) :
    CL w ok r (v.cells.zipIdx.foldl (fun cs (x : Value × Nat) => cs.setIfInBounds (off + x.2) x.1) cs) (setL l0 off l) := by
  have hz : v.cells.zipIdx.foldl (fun cs (x : Value × Nat) => cs.setIfInBounds (off + x.2) x.1) cs = (v.cells.toList.zipIdx 0).foldl (fun cs (x : Value × Nat) => cs.setIfInBounds (off + x.2) x.1) cs := by
    rw [← Array.foldl_toList, Array.toList_zipIdx]
  rw [hz]
  have hvl : v.cells.toList.length = l.length := by simpa using hv.1
  refine ⟨by rw [foldl_set_size, h0.1]; simp [setL]; omega, fun j y hy => ?_⟩
  rw [foldl_set v.cells.toList 0 off cs j (by rw [hvl, h0.1]; omega)]
  unfold setL at hy
  rw [getElem?_three l0 l off j hle] at hy
  simp only [Nat.add_zero, hvl]
  split at hy
  · rename_i hin
    rw [if_pos hin]
    obtain ⟨cv, c1, c2⟩ := hv.2 _ _ hy
    exact ⟨cv, by simpa using c1, c2⟩
  · rename_i hin
    rw [if_neg hin]
    exact h0.2 _ _ hy

/-! ### struct values -/
def bparts (P : TT) (fs : List Field) : List (Nat × AV) → List AV → Option (List AV)
  | [], l => some l
  | (i, x) :: rest, l =>
    match fs[i]?, cellsAV x with
    | some F, some xs => match P.underlying F.type with
      | some _ => cond (Nat.beq xs.length (P.cellsOf F.type) && Nat.ble (F.offset + xs.length) l.length) (bparts P fs rest (setL l F.offset xs)) none
      | none => none
    | _, _ => none

theorem bparts_ok (R : Rel C env h ι a w) (fs : Array Field) (places : Array (Nat × Nat)) (hpl : ∀ (i : Nat) (F : Field), fs[i]? = some F → places[i]? = some (F.offset, C.T.cellsOf F.type)) :
    ∀ (parts : List (Nat × AV)) (vs : List (Nat × Value)) (l0 l : List AV) (cs : Array Value), parts.length = vs.length →
      (∀ (k : Nat) p q, parts[k]? = some p → vs[k]? = some q → p.1 = q.1 ∧ VR w (okB C h ι w) p.2 (rf h ι) q.2) →
      CL w (okB C h ι w) (rf h ι) cs l0 → bparts C.T fs.toList parts l0 = some l →
      ∃ cs', Instr.fill (places[·]?) cs vs = some cs' ∧ CL w (okB C h ι w) (rf h ι) cs' l := by
  intro parts
  induction parts with
  | nil =>
    intro vs l0 l cs hlen _ hcl hb
    cases vs with
    | nil => cases hb; exact ⟨cs, rfl, hcl⟩
    | cons _ _ => cases hlen
  | cons p parts ih =>
    intro vs l0 l cs hlen hvs hcl hb
    cases vs with
    | nil => cases hlen
    | cons q vs =>
      obtain ⟨i, x⟩ := p
      obtain ⟨i', v⟩ := q
      obtain ⟨e, hx⟩ := hvs 0 _ _ rfl rfl
      simp only at e hx
      subst e
      simp only [bparts] at hb
      cases hF : fs.toList[i]? with
      | none => rw [hF] at hb; cases hb
      | some F =>
        cases hxs : cellsAV x with
        | none => rw [hF, hxs] at hb; cases hb
        | some xs =>
          rw [hF, hxs] at hb
          simp only at hb
          cases hu : C.T.underlying F.type with
          | none => rw [hu] at hb; cases hb
          | some d =>
            rw [hu] at hb
            simp only at hb
            cases hbb : (Nat.beq xs.length (C.T.cellsOf F.type) && Nat.ble (F.offset + xs.length) l0.length) with
            | false => rw [hbb] at hb; cases hb
            | true =>
              rw [hbb, cond_true] at hb
              rw [Bool.and_eq_true] at hbb
              have h1 : xs.length = C.T.cellsOf F.type := Nat.eq_of_beq_eq_true hbb.1
              have h2 : F.offset + xs.length ≤ l0.length := Nat.ble_eq ▸ hbb.2
              have hv := cellsAV_ok R hxs hx
              have hcl' := CL.set hcl hv h2
              obtain ⟨cs', hf, hr⟩ := ih vs _ l _ (by simpa using hlen) (fun k p q hp hq => hvs (k + 1) p q hp hq) hcl' hb
              refine ⟨cs', ?_, hr⟩
              have hpi := hpl i F (by simpa using hF)
              simp only [Instr.fill, hpi]
              rw [if_neg (by simp only [bne_iff_ne, ne_eq, Bool.or_eq_true, decide_eq_true_eq, not_or, Decidable.not_not]; exact ⟨by rw [hv.1, h1], by rw [hv.1, hcl.1]; omega⟩)]
              exact hf

def undAll (P : TT) (fs : List Field) : Bool := fs.all fun F => (P.underlying F.type).isSome

def abuild (P : TT) (t : TypeId) (parts : List (Nat × AV)) (K : AV → Prop) (stop : Prop) : Prop :=
  match P.underlying t, P.zero t with
  | some (.struct fs), some l0 => match undAll P fs.toList, bparts P fs.toList parts l0 with
    | true, some l => force l.length (fun n => K (.agg n (fun j => l.getD j .u))) stop
    | _, _ => stop
  | _, _ => stop

theorem und_all {C : Ctx} {fs : List Field} {w : World} : (∀ F ∈ fs, ∃ d, C.T.underlying F.type = some d) → (fs.mapM fun (f : Field) => (do pure (f.offset, ← sizeOf f.type) : Sem (Nat × Nat))).run C.P w = .ok (fs.map fun f => (f.offset, C.T.cellsOf f.type)) w := by
  induction fs with
  | nil => intro _; rfl
  | cons F fs ih =>
    intro hh
    obtain ⟨d, hd⟩ := hh F (by simp)
    have hi := ih (fun G hG => hh G (by simp [hG]))
    simp only [List.mapM_cons, Sem.run_bind, run_sizeOf hd, Result.andThen_ok, hi, Sem.run_pure, List.map_cons]

theorem abuild_ok (R : Rel C env h ι a w) {t : TypeId} {parts : List (Nat × AV)} {vs : Array (Nat × Value)} {K : Env → Heap → AV → Prop} {stop : Prop} (hlen : parts.length = vs.size)
    (hvs : ∀ (k : Nat) p q, parts[k]? = some p → vs[k]? = some q → p.1 = q.1 ∧ VR w (okB C h ι w) p.2 (rf h ι) q.2) (hk : abuild C.T t parts (K env h) stop) : stop ∨ Out C a w (Instr.build t vs) K := by
  unfold abuild at hk
  split at hk
  · rename_i fs l0 hu hz
    split at hk
    · rename_i l hal hb
      obtain ⟨i, z, hi, hzz, hs, hc⟩ := zeroL_ok (C.zeroes hz).1
      have hmap := und_all (C := C) (fs := fs.toList) (w := w) (fun F hF => by
        have := List.all_eq_true.mp hal F hF
        exact Option.isSome_iff_exists.mp this)
      obtain ⟨cs', hf, hr⟩ := bparts_ok R fs (fs.map fun f => (f.offset, C.T.cellsOf f.type)) (fun i F hF => by simp [hF]) parts vs.toList l0 l z.cells (by simpa using hlen)
        (fun k p q hp hq => hvs k p q hp (by simpa using hq)) ⟨hs, fun j y hy => hc w _ _ j y hy⟩ hb
      rcases force_ok hk with hk | hk
      · refine .inr (Out.same R hk (v := .agg cs') ?_ ⟨cs', rfl, hr.1, fun j hj => ?_⟩)
        · have hm : (fs.mapM fun (f : Field) => (do pure (f.offset, ← sizeOf f.type) : Sem (Nat × Nat))).run C.P w = .ok (fs.map fun f => (f.offset, C.T.cellsOf f.type)) w := by
            rw [← Array.toArray_toList (xs := fs), List.mapM_toArray]
            simp only [Sem.run_map, hmap, Result.andThen_ok]
            congr 1
            apply Array.ext'
            simp
          simp only [Instr.build, zeroValue, typeInfo, hi, hzz, Sem.run_bind, Sem.run_pure, Result.andThen_ok, run_und hu, hm, hf, program, Sem.run]
        · obtain ⟨cv, c1, c2, c3⟩ := hr.2 j l[j] (List.getElem?_eq_getElem hj)
          exact ⟨cv, c1, c2, by simpa [List.getD, List.getElem?_eq_getElem hj] using c3⟩
      · exact .inl hk
    · exact .inl hk
  · exact .inl hk
end

end Go.Proofs.YteklnpgiloebcaaDoor.V

namespace Go.Proofs.YteklnpgiloebcaaDoor.V
set_option linter.unusedVariables false
set_option linter.unusedSimpArgs false
open Go Go.RowKit

section
variable {C : Ctx} {env : Env} {h : Heap} {ι : Loc} {a : Act} {w : World}

/-- A row is made in a block of its own. -/
theorem Rel.newRow (R : Rel C env h ι a w) (d : Nat) (e sz n : Nat) (get : Nat → Nat → AV) (cs : Array Value) (hs : cs.size = n * sz) (hn : n ≤ maxLen)
    (h1 : ∀ u ∈ cs.toList, u.oneCell' = true) (hc : ∀ i j, i < n → j < sz → ∃ cv, cs[i * sz + j]? = some cv ∧ VR w (okB C h ι w) (get i j) noref cv) :
    Rel C (scrubE d env) (upd (upd (scrubH d h) d .dead) d (.row e sz n get)) (upd ι d (fun _ => .slice (some ⟨w.heap.size, 0, none⟩) n n)) a (w.alloc (.cells cs e)) := by
  refine (R.make d d (.row e sz n get) _ _ (below_alloc C R.below _) (fun b hb => Below.heap_alloc _ _ _ hb.1)
    (fun id _ _ hl g hg => Below.heap_alloc _ _ _ (R.base id hl g hg).2) rfl (fun g hg => by cases hg; exact ⟨R.below.size, by simp⟩)
    (fun g hg hb => by cases hg; exact absurd hb.1 (Nat.lt_irrefl _)) (fun id _ _ hl g hg e => by cases e; exact absurd (R.base id hl _ hg).2 (Nat.lt_irrefl _)) ?_).1
  intro ok r hok hS hr
  refine ⟨cs.toList, ownsX_of (World.ownsRow_lit w cs n R.below.size hn hs), h1, fun i j hi hj => ?_⟩
  obtain ⟨cv, c1, c3⟩ := hc i j hi hj
  exact ⟨cv, by simpa using c1, VR.mono hok (fun b hb => Below.heap_alloc _ _ _ hb.1) _ _ _ _ (fun _ _ h => h) c3⟩

/-! ### a slice written out -/
/-- The cells of the parts, which come in their order, each of 'sz' cells. -/
def sparts (sz : Nat) : Nat → List (Nat × AV) → Option (List (List AV))
  | _, [] => some []
  | k, (i, x) :: rest => match cellsAV x with
    | some l => cond (Nat.beq i k && Nat.beq l.length sz && l.all noRef) ((sparts sz (k + 1) rest).map (l :: ·)) none
    | none => none

theorem sparts_ok (R : Rel C env h ι a w) (sz : Nat) : ∀ (parts : List (Nat × AV)) (vs : List (Nat × Value)) (k : Nat) (ls : List (List AV)) (cs : Array Value), parts.length = vs.length →
    (∀ (k : Nat) p q, parts[k]? = some p → vs[k]? = some q → p.1 = q.1 ∧ VR w (okB C h ι w) p.2 (rf h ι) q.2) → sparts sz k parts = some ls → (k + parts.length) * sz ≤ cs.size →
    ls.length = parts.length ∧ (∀ l ∈ ls, l.length = sz) ∧ ∃ cs', Instr.fill (fun i => some (i * sz, sz)) cs vs = some cs' ∧ cs'.size = cs.size ∧ (∀ q, q < k * sz → cs'[q]? = cs[q]?) ∧
      ∀ i j, i < ls.length → j < sz → ∃ cv, cs'[(k + i) * sz + j]? = some cv ∧ cv.oneCell' = true ∧ VR w (okB C h ι w) ((ls.getD i []).getD j .u) noref cv := by
  intro parts
  induction parts with
  | nil =>
    intro vs k ls cs hlen _ hsp _
    cases vs with
    | nil => cases hsp; exact ⟨rfl, by simp, cs, rfl, rfl, fun _ _ => rfl, by simp⟩
    | cons _ _ => cases hlen
  | cons p parts ih =>
    intro vs k ls cs hlen hvs hsp hsize
    cases vs with
    | nil => cases hlen
    | cons q vs =>
      obtain ⟨i, x⟩ := p
      obtain ⟨i', v⟩ := q
      obtain ⟨e, hx⟩ := hvs 0 _ _ rfl rfl
      simp only at e hx
      subst e
      simp only [sparts] at hsp
      cases hl : cellsAV x with
      | none => rw [hl] at hsp; cases hsp
      | some l =>
        rw [hl] at hsp
        simp only at hsp
        cases hbb : (Nat.beq i k && Nat.beq l.length sz && l.all noRef) with
        | false => rw [hbb] at hsp; cases hsp
        | true =>
          rw [hbb, cond_true] at hsp
          rw [Bool.and_eq_true, Bool.and_eq_true] at hbb
          have hik : i = k := Nat.eq_of_beq_eq_true hbb.1.1
          have hls : l.length = sz := Nat.eq_of_beq_eq_true hbb.1.2
          subst hik
          obtain ⟨hvs1, hvs2⟩ := cellsAV_ok R hl hx
          cases hrest : sparts sz (i + 1) parts with
          | none => rw [hrest] at hsp; cases hsp
          | some ls' =>
            rw [hrest] at hsp
            cases hsp
            simp only [List.length_cons] at hsize hlen
            have hsz2 : (i + 1 + parts.length) * sz ≤ cs.size := by rw [Nat.add_assoc, Nat.add_comm 1]; exact hsize
            have hi1 : (i + 1) * sz ≤ cs.size := Nat.le_trans (Nat.mul_le_mul_right _ (by omega)) hsize
            have hi1' : i * sz + sz ≤ cs.size := by rw [Nat.add_mul, Nat.one_mul] at hi1; exact hi1
            have hz : v.cells.zipIdx.foldl (fun cs (x : Value × Nat) => cs.setIfInBounds (i * sz + x.2) x.1) cs = (v.cells.toList.zipIdx 0).foldl (fun cs (x : Value × Nat) => cs.setIfInBounds (i * sz + x.2) x.1) cs := by
              rw [← Array.foldl_toList, Array.toList_zipIdx]
            have hvl : v.cells.toList.length = sz := by simpa [hls] using hvs1
            have hget := fun q => foldl_set v.cells.toList 0 (i * sz) cs q (by rw [hvl]; omega)
            have hsize' : ((v.cells.toList.zipIdx 0).foldl (fun cs (x : Value × Nat) => cs.setIfInBounds (i * sz + x.2) x.1) cs).size = cs.size := foldl_set_size _ _ _
            obtain ⟨i1, i2, cs', f1, f2, f3, f4⟩ := ih vs (i + 1) ls' ((v.cells.toList.zipIdx 0).foldl (fun cs (x : Value × Nat) => cs.setIfInBounds (i * sz + x.2) x.1) cs) (by omega) (fun k p q hp hq => hvs (k + 1) p q hp hq) hrest
              (by rw [hsize']; exact hsz2)
            refine ⟨by simp [i1], fun l' hl' => ?_, cs', ?_, by rw [f2, hsize'], fun q hq => ?_, fun i3 j hi3 hj => ?_⟩
            · cases hl' with
              | head => exact hls
              | tail _ h' => exact i2 l' h'
            · simp only [Instr.fill]
              rw [if_neg (by simp only [bne_iff_ne, ne_eq, Bool.or_eq_true, decide_eq_true_eq, not_or, Decidable.not_not]; exact ⟨by rw [hvs1, hls], by rw [hvs1, hls]; omega⟩), hz]
              exact f1
            · rw [f3 q (by rw [Nat.add_mul]; omega), hget q, if_neg (by omega)]
            · cases i3 with
              | zero =>
                rw [Nat.add_zero, f3 _ (by rw [Nat.add_mul]; omega), hget, if_pos (by rw [hvl]; omega)]
                have hjl : j < l.length := by omega
                obtain ⟨cv, c1, c2, c3⟩ := hvs2 j l[j] (List.getElem?_eq_getElem hjl)
                refine ⟨cv, ?_, c2, ?_⟩
                · have : i * sz + j - (i * sz + 0) = j := by omega
                  rw [this]; simpa using c1
                · simp only [List.getD_cons_zero]
                  rw [List.getD, List.getElem?_eq_getElem hjl]
                  exact noRef_ok (List.all_eq_true.mp hbb.2 _ (List.getElem_mem hjl)) c3
              | succ i3 =>
                obtain ⟨cv, c1, c2, c3⟩ := f4 i3 j (by simpa using hi3) hj
                refine ⟨cv, ?_, c2, by simpa using c3⟩
                have : i + (i3 + 1) = i + 1 + i3 := by omega
                rw [this]; exact c1

def abuildSlice (P : TT) (t d len : Nat) (parts : List (Nat × AV)) (env : Env) (h : Heap) (K : Env → Heap → AV → Prop) (stop : Prop) : Prop :=
  match P.underlying t with
  | some (.slice e) => match P.underlying e, P.zero e with
    | some _, some z => force (P.cellsOf e) (fun sz => match sparts sz 0 parts with
      | some ls => cond (Nat.beq parts.length len && Nat.ble (len * sz) 16777216 && Nat.beq z.length sz && Nat.blt 0 sz)
          (K (scrubE d env) (upd (upd (scrubH d h) d .dead) d (.row e sz len (fun i j => (ls.getD i []).getD j .u))) (.row d)) stop
      | none => stop) stop
    | _, _ => stop
  | _ => stop

theorem abuildSlice_ok (R : Rel C env h ι a w) {t d len : Nat} {parts : List (Nat × AV)} {vs : Array (Nat × Value)} {K : Env → Heap → AV → Prop} {stop : Prop} (hlen : parts.length = vs.size)
    (hvs : ∀ (k : Nat) p q, parts[k]? = some p → vs[k]? = some q → p.1 = q.1 ∧ VR w (okB C h ι w) p.2 (rf h ι) q.2) (hk : abuildSlice C.T t d len parts env h K stop) :
    stop ∨ Out C a w (Instr.buildSlice t len vs) K := by
  unfold abuildSlice at hk
  split at hk
  · rename_i e hu
    split at hk
    · rename_i de z hue hz
      rcases force_ok hk with hk | hk
      · split at hk
        · rename_i ls hsp
          cases hbb : (Nat.beq parts.length len && Nat.ble (len * C.T.cellsOf e) 16777216 && Nat.beq z.length (C.T.cellsOf e) && Nat.blt 0 (C.T.cellsOf e)) with
          | false => rw [hbb] at hk; exact .inl hk
          | true =>
            rw [hbb, cond_true] at hk
            simp only [Bool.and_eq_true] at hbb
            have h1 : parts.length = len := Nat.eq_of_beq_eq_true hbb.1.1.1
            have h2 : len * C.T.cellsOf e ≤ 16777216 := Nat.ble_eq ▸ hbb.1.1.2
            have h3 : z.length = C.T.cellsOf e := Nat.eq_of_beq_eq_true hbb.1.2
            have h4 : 0 < C.T.cellsOf e := by simpa [Nat.blt_eq] using hbb.2
            obtain ⟨i, zv, hi, hzz, hs, hc⟩ := zeroL_ok (C.zeroes hz).1
            have hlist : ∀ (k : Nat) p q, parts[k]? = some p → vs.toList[k]? = some q → p.1 = q.1 ∧ VR w (okB C h ι w) p.2 (rf h ι) q.2 := fun k p q hp hq => hvs k p q hp (by simpa using hq)
            obtain ⟨k1, k2, cs', f1, f2, f3, f4⟩ := sparts_ok R (C.T.cellsOf e) parts vs.toList 0 ls ((Array.range (len * C.T.cellsOf e)).map (zv.cells[· % zv.cells.size]!)) (by simpa using hlen)
              hlist hsp (by simp [h1])
            have hcs : cs'.size = len * C.T.cellsOf e := by rw [f2]; simp
            have hlen2 : ls.length = len := by omega
            have hone : ∀ u ∈ cs'.toList, u.oneCell' = true := by
              intro u hu'
              obtain ⟨q, hq⟩ := List.getElem?_of_mem hu'
              have hql : q < len * C.T.cellsOf e := by
                rcases Nat.lt_or_ge q (len * C.T.cellsOf e) with h' | h'
                · exact h'
                · rw [List.getElem?_eq_none (by rw [Array.length_toList, hcs]; exact h')] at hq; cases hq
              have hqi : q / C.T.cellsOf e < ls.length := by rw [hlen2]; exact Nat.div_lt_of_lt_mul (by rw [Nat.mul_comm]; exact hql)
              obtain ⟨cv, c1, c2, _⟩ := f4 (q / C.T.cellsOf e) (q % C.T.cellsOf e) hqi (Nat.mod_lt _ h4)
              rw [Nat.zero_add, Nat.mul_comm, Nat.div_add_mod] at c1
              have : cs'.toList[q]? = some cv := by simpa using c1
              rw [this] at hq; cases hq; exact c2
            have R' := R.newRow d e (C.T.cellsOf e) len (fun i j => (ls.getD i []).getD j .u) cs' hcs (by
                have : len * 1 ≤ len * C.T.cellsOf e := Nat.mul_le_mul_left _ h4
                simp only [maxLen]; omega) hone
              (fun i j hi hj => by obtain ⟨cv, c1, _, c3⟩ := f4 i j (by omega) hj; exact ⟨cv, by simpa using c1, c3⟩)
            refine .inr ⟨.slice (some ⟨w.heap.size, 0, none⟩) len len, _, _, _, _, _, ?_, R', ?_, hk⟩
            · by_cases h0 : len * C.T.cellsOf e = 0
              · have hemp : ((Array.range (len * C.T.cellsOf e)).map (zv.cells[· % zv.cells.size]!)) = ((Array.range (len * C.T.cellsOf e)).map ((#[] : Array Value)[· % (#[] : Array Value).size]!)) := by simp [h0]
                rw [hemp] at f1
                simp only [Instr.buildSlice, Sem.run_bind, run_und hu, run_sizeOf hue, Result.andThen_ok, if_neg (show ¬ len * C.T.cellsOf e > 2 ^ 24 by omega), if_pos h0, Sem.run_pure, f1]
                simp [newRow, newObj, Sem.run]
              · simp only [Instr.buildSlice, Sem.run_bind, run_und hu, run_sizeOf hue, Result.andThen_ok, if_neg (show ¬ len * C.T.cellsOf e > 2 ^ 24 by omega), if_neg h0, zeroValue, typeInfo, program, hi, hzz, Sem.run, Sem.run_pure, f1]
                simp [newRow, newObj, Sem.run]
            · show Value.slice _ _ _ = upd ι d _ d 0
              rw [upd_same]
        · exact .inl hk
      · exact .inl hk
    · exact .inl hk
  · exact .inl hk
end

end Go.Proofs.YteklnpgiloebcaaDoor.V

namespace Go.Proofs.YteklnpgiloebcaaDoor.V
set_option linter.unusedVariables false
set_option linter.unusedSimpArgs false
open Go Go.RowKit

section
variable {C : Ctx} {env : Env} {h : Heap} {ι : Loc} {a : Act} {w : World}

def amake (P : TT) (t d : Nat) (l c : AV) (env : Env) (h : Heap) (K : Env → Heap → AV → Prop) (stop : Prop) : Prop :=
  match P.underlying t with
  | some (.slice e) => match l, c, P.underlying e, P.zero e with
    | .int _ n, .int _ m, some _, some z => force (P.cellsOf e) (fun sz => cond (Nat.beq z.length sz && Nat.blt 0 sz)
        (Need (n = m ∧ 0 ≤ n ∧ n.toNat * P.bytesOf e ≤ 140737488355328 ∧ n.toNat ≤ 9223372036854775807) (K (scrubE d env) (upd (upd (scrubH d h) d .dead) d (.row e sz n.toNat (fun i j => z.getD j .u))) (.row d))) stop) stop
    | _, _, _, _ => stop
  | _ => stop

theorem amake_ok (R : Rel C env h ι a w) {t d : Nat} {l c : AV} {vl vc : Value} {K : Env → Heap → AV → Prop} {stop : Prop} (hl : VR w (okB C h ι w) l (rf h ι) vl) (hc : VR w (okB C h ι w) c (rf h ι) vc)
    (hk : amake C.T t d l c env h K stop) : stop ∨ Out C a w (Instr.makeSlice t vl vc) K := by
  unfold amake at hk
  split at hk
  · rename_i e hu
    split at hk
    · rename_i kl n km m de z hue hz
      have e1 : vl = .int kl n := hl
      have e2 : vc = .int km m := hc
      subst e1; subst e2
      rcases force_ok hk with hk | hk
      · cases hbb : (Nat.beq z.length (C.T.cellsOf e) && Nat.blt 0 (C.T.cellsOf e)) with
        | false => rw [hbb] at hk; exact .inl hk
        | true =>
          rw [hbb, cond_true] at hk
          rw [Bool.and_eq_true] at hbb
          have h3 : z.length = C.T.cellsOf e := Nat.eq_of_beq_eq_true hbb.1
          have h4 : 0 < C.T.cellsOf e := by simpa [Nat.blt_eq] using hbb.2
          obtain ⟨⟨hnm, h0, hby, hmx⟩, hk2⟩ := hk
          subst hnm
          obtain ⟨i, zv, hi, hzz, hs, hcz⟩ := zeroL_ok (C.zeroes hz).1
          have hsz : i.size = C.T.cellsOf e := by rw [← (C.zeroes hz).2.1]; simp [Program.cellsOf, hi]
          have hbyt : i.bytes = C.T.bytesOf e := by rw [← (C.zeroes hz).2.2]; simp [Program.bytesOf, hi]
          have hzs : zv.cells.size = C.T.cellsOf e := by rw [hs, h3]
          obtain ⟨k, rfl⟩ : ∃ k : Nat, n = (k : Int) := ⟨n.toNat, by omega⟩
          rw [Int.toNat_natCast] at *
          have hmb : (i.bytes : Int) * (k : Int) ≤ 281474976710656 := by
            have : i.bytes * k ≤ 281474976710656 := by rw [hbyt, Nat.mul_comm]; omega
            have h5 : ((i.bytes * k : Nat) : Int) ≤ 281474976710656 := by omega
            rwa [Int.natCast_mul] at h5
          have hr := run_make (P := C.P) w t e i zv (C.und hu) hi hzz kl km k k (by omega) (Int.le_refl _) hmb (by omega)
          simp only [Int.toNat_natCast, hsz] at hr
          have hcell : ∀ q, q < k * C.T.cellsOf e → ∃ cv, (madeCells zv.cells (k * C.T.cellsOf e))[q]? = some cv ∧ cv.oneCell' = true ∧ VR w (okB C h ι w) (z.getD (q % C.T.cellsOf e) .u) noref cv := by
            intro q hq
            have hlt : q % C.T.cellsOf e < z.length := by rw [h3]; exact Nat.mod_lt _ h4
            obtain ⟨cv, c1, c2, c3⟩ := hcz w (okB C h ι w) noref (q % C.T.cellsOf e) z[q % C.T.cellsOf e] (List.getElem?_eq_getElem hlt)
            refine ⟨cv, ?_, c2, by rw [List.getD, List.getElem?_eq_getElem hlt]; exact c3⟩
            have hlt2 : q % C.T.cellsOf e < zv.cells.size := by rw [hzs]; exact Nat.mod_lt _ h4
            rw [Array.getElem?_eq_getElem hlt2] at c1
            simp only [Option.some.injEq] at c1
            rw [hzs] at hlt2
            have hb : zv.cells[q % C.T.cellsOf e]! = cv := by rw [getElem!_pos _ _ (by rw [hzs]; exact hlt2)]; exact c1
            simp [madeCells, hq, hzs, hb]
          have hsize : (madeCells zv.cells (k * C.T.cellsOf e)).size = k * C.T.cellsOf e := size_madeCells _ _
          have R' := R.newRow d e (C.T.cellsOf e) k (fun i j => z.getD j .u) _ hsize hmx (fun u hu' => by
              obtain ⟨q, hq⟩ := List.getElem?_of_mem hu'
              have hql : q < k * C.T.cellsOf e := by
                rcases Nat.lt_or_ge q (k * C.T.cellsOf e) with h' | h'
                · exact h'
                · rw [List.getElem?_eq_none (by rw [Array.length_toList, hsize]; exact h')] at hq; cases hq
              obtain ⟨cv, c1, c2, _⟩ := hcell q hql
              have : (madeCells zv.cells (k * C.T.cellsOf e)).toList[q]? = some cv := by simpa using c1
              rw [this] at hq; cases hq; exact c2)
            (fun i j hi hj => by
              obtain ⟨cv, c1, _, c3⟩ := hcell (i * C.T.cellsOf e + j) (mul_lt_row hi hj)
              refine ⟨cv, c1, ?_⟩
              have e6 : (i * C.T.cellsOf e + j) % C.T.cellsOf e = j := by rw [Nat.mul_comm, Nat.mul_add_mod, Nat.mod_eq_of_lt hj]
              rwa [e6] at c3)
          refine .inr ⟨_, _, _, _, _, .row d, hr, R', ?_, hk2⟩
          show Value.slice _ _ _ = upd ι d _ d 0
          rw [upd_same]
      · exact .inl hk
    · exact .inl hk
  · exact .inl hk

/-! ### append -/
/-- What is appended: how many, its cells. -/
def srcOf (h : Heap) : AV → Option (Nat × Nat × (Nat → Nat → AV))
  | .sl n sz get => some (n, sz, get)
  | .row id => match h id with | .row _ sz n get => some (n, sz, get) | _ => none
  | _ => none

def joinRow (n : Nat) (get : Nat → Nat → AV) (get2 : Nat → Nat → AV) : Nat → Nat → AV := fun i j => if i < n then get i j else get2 (i - n) j
theorem ownsRow_one {B e sz : Nat} {v : Value} {n : Nat} {xs : List Value} (h : ownsX w B e sz v n xs) : v.oneCell' = true := by
  rcases h.2 with ⟨rfl, _⟩ | ⟨g, cap, cur, rfl, _⟩ <;> rfl

/-- Behind an append: the new row, the old one given up. -/
theorem Rel.appended (R : Rel C env h ι a w) (d z : Nat) (e sz n m : Nat) (get get2 : Nat → Nat → AV) (v v' : Value) (w' : World) (xs news : List Value)
    (hown : ownsX w C.B e sz v n xs) (hx1 : ∀ u ∈ xs, u.oneCell' = true) (hxc : ∀ i j, i < n → j < sz → ∃ cv, xs[i * sz + j]? = some cv ∧ VR w (okB C h ι w) (get i j) noref cv)
    (hz : (v = .slice none 0 0) ∨ (h z ≠ .dead ∧ v = ι z 0)) (hown' : ownsX w' C.B e sz v' (n + m) (xs ++ news)) (hg : w.grownBy w' v.ownBlock)
    (hblk : blk v' = blk v ∨ (∀ g, blk v' = some g → w.heap.size ≤ g))
    (hn1 : ∀ u ∈ news, u.oneCell' = true) (hnc : ∀ i j, i < m → j < sz → ∃ cv, news[i * sz + j]? = some cv ∧ VR w (okB C h ι w) (get2 i j) noref cv) (getn : Nat → Nat → AV)
    (hgetn : ∀ i j, i < n + m → j < sz → getn i j = if i < n then get i j else get2 (i - n) j) :
    Rel C (scrubE d env) (upd (upd (scrubH d h) z .dead) d (.row e sz (n + m) getn)) (upd ι d (fun _ => v')) a w' := by
  have hbo : v.ownBlock = blk v ∨ v = .slice none 0 0 := by
    rcases hown.2 with ⟨rfl, _⟩ | ⟨g, cap, cur, rfl, _⟩
    · exact .inr rfl
    · exact .inl rfl
  have hvz : ∀ g, blk v = some g → h z ≠ .dead ∧ v = ι z 0 := by
    intro g hgb
    rcases hz with rfl | hz
    · cases hgb
    · exact hz
  have hsame : ∀ b, b < w.heap.size → blk v ≠ some b → w'.heap[b]? = w.heap[b]? := by
    intro b hb hne
    refine hg.block b hb ?_
    rcases hbo with e | e
    · rw [e]; exact fun e => hne e.symm
    · rw [e]; simp [Value.ownBlock]
  have hokne : ∀ b, okB C h ι w b → blk v ≠ some b := by
    intro b hb e
    obtain ⟨h1, h2⟩ := hvz b e
    exact hb.2.2 z h1 (owns_zero (h2 ▸ e))
  have hbel : Below C.B w w' := ⟨hg.os, hg.tape, hg.output, hg.size, fun k hk => by
    refine hsame k (Nat.lt_of_lt_of_le hk R.below.size) (fun e => ?_)
    obtain ⟨h1, h2⟩ := hvz k e
    have := R.base z h1 k (owns_zero (h2 ▸ e))
    omega⟩
  have hlt' : ∀ g, blk v' = some g → C.B ≤ g ∧ g < w'.heap.size := by
    intro g hgb
    have hb : v'.ownBlock = some g := by
      rcases hown'.2 with ⟨rfl, _⟩ | ⟨g', cap, cur, rfl, _⟩
      · cases hgb
      · exact hgb
    exact hown'.lt g hb
  refine (R.make d z (.row e sz (n + m) getn) v' w' hbel (fun b hb => hsame b hb.1 (hokne b hb)) ?_ (ownsRow_one hown') hlt' ?_ ?_ ?_).1
  · intro id hd hzz hl g hgb
    refine hsame g (R.base id hl g hgb).2 (fun e' => ?_)
    obtain ⟨h1, h2⟩ := hvz g e'
    exact R.apart id z hl h1 hzz g hgb (owns_zero (h2 ▸ e'))
  · intro g hgb hok
    rcases hblk with e' | e'
    · exact hokne g hok (e' ▸ hgb)
    · have := e' g hgb; exact absurd hok.1 (by omega)
  · intro id hd hzz hl g hgb e'
    rcases hblk with e2 | e2
    · rw [e2] at e'
      obtain ⟨h1, h2⟩ := hvz g e'
      exact R.apart id z hl h1 hzz g hgb (owns_zero (h2 ▸ e'))
    · have := e2 g e'
      have := (R.base id hl g hgb).2
      omega
  · intro ok r hok hS hr
    have hxl : xs.length = n * sz := hown.1
    refine ⟨xs ++ news, hown', fun u hu => ?_, fun i j hi hj => ?_⟩
    · rcases List.mem_append.mp hu with h' | h'
      · exact hx1 u h'
      · exact hn1 u h'
    · rw [hgetn i j hi hj]
      by_cases hin : i < n
      · rw [if_pos hin, List.getElem?_append_left (by rw [hxl]; exact mul_lt_row hin hj)]
        obtain ⟨cv, c1, c3⟩ := hxc i j hin hj
        exact ⟨cv, c1, VR.mono hok (fun b hb => hsame b hb.1 (hokne b hb)) _ _ _ _ (fun _ _ h => h) c3⟩
      · rw [if_neg hin]
        have hge : n * sz ≤ i * sz := Nat.mul_le_mul_right _ (by omega)
        rw [List.getElem?_append_right (by rw [hxl]; omega), hxl]
        obtain ⟨cv, c1, c3⟩ := hnc (i - n) j (by omega) hj
        refine ⟨cv, ?_, VR.mono hok (fun b hb => hsame b hb.1 (hokne b hb)) _ _ _ _ (fun _ _ h => h) c3⟩
        rw [← c1, Nat.sub_mul]
        congr 1; omega

/-- The cells of what is appended, as a list; where they lie. -/
theorem src_ok (R : Rel C env h ι a w) {x : AV} {v : Value} {m sz : Nat} {get2 : Nat → Nat → AV} (hs : srcOf h x = some (m, sz, get2)) (hx : VR w (okB C h ι w) x (rf h ι) v) :
    ∃ A c, v = .slice A m c ∧ m ≤ c ∧ (A = none → c = 0 ∧ m = 0) ∧ ∃ news : List Value, news.length = m * sz ∧ (∀ u ∈ news, u.oneCell' = true) ∧
      (∀ ad, A = some ad → ∀ (j : Nat) (u : Value), news[j]? = some u → w.cell? (ad.add j) = some u) ∧
      ∀ i j, i < m → j < sz → ∃ cv, news[i * sz + j]? = some cv ∧ VR w (okB C h ι w) (get2 i j) noref cv := by
  cases x with
  | sl n sz' get =>
    cases hs
    obtain ⟨A, c, rfl, hnc, hc, hA, hcells⟩ := hx
    by_cases h0 : 0 < m
    · obtain ⟨ad, rfl, hb, hcs⟩ := hcells h0
      have key : ∀ q, q < m * sz → ∃ cv, w.cell? (ad.add q) = some cv ∧ cv.oneCell' = true := by
        intro q hq
        have hsz : 0 < sz := by rcases Nat.eq_zero_or_pos sz with e | e
                                · subst e; simp at hq
                                · exact e
        have hqi : q / sz < m := Nat.div_lt_of_lt_mul (by rw [Nat.mul_comm]; exact hq)
        obtain ⟨cv, c1, c2, _⟩ := hcs (q / sz) (q % sz) hqi (Nat.mod_lt _ hsz)
        rw [Nat.mul_comm, Nat.div_add_mod] at c1
        exact ⟨cv, c1, c2⟩
      refine ⟨_, c, rfl, hnc, (fun e => by cases e), (List.range (m * sz)).map (fun q => (w.cell? (ad.add q)).getD undef), by simp, ?_, ?_, ?_⟩
      · intro u hu
        obtain ⟨q, hq, rfl⟩ := List.mem_map.mp hu
        obtain ⟨cv, c1, c2⟩ := key q (List.mem_range.mp hq)
        rw [c1]; exact c2
      · intro ad' e j u hj
        cases e
        rw [List.getElem?_map] at hj
        have hjl : j < m * sz := by
          rcases Nat.lt_or_ge j (m * sz) with h' | h'
          · exact h'
          · rw [List.getElem?_eq_none (by simpa using h')] at hj; cases hj
        rw [List.getElem?_range hjl] at hj
        obtain ⟨cv, c1, _⟩ := key j hjl
        simp only [Option.map_some, Option.some.injEq] at hj
        rw [c1] at hj ⊢; simpa using hj
      · intro i j hi hj
        obtain ⟨cv, c1, c2, c3⟩ := hcs i j hi hj
        exact ⟨cv, by rw [List.getElem?_map, List.getElem?_range (mul_lt_row hi hj)]; simp [c1], c3⟩
    · have hm : m = 0 := by omega
      subst hm
      refine ⟨A, c, rfl, hnc, fun e => ⟨hA e, rfl⟩, [], by simp, by simp, by simp, fun i j hi => by omega⟩
  | row id =>
    simp only [srcOf] at hs
    have ho := R.obj id
    cases hh : h id with
    | row e sz' n get =>
      rw [hh] at hs ho
      cases hs
      obtain ⟨xs, hown, hone, hcells⟩ := ho
      have hv : v = ι id 0 := hx
      rw [hv]
      rcases hown.2 with ⟨hv0, hn0⟩ | ⟨g, cap, cur, hv0, hB, hg, hnc, hcap, hcs, htake⟩
      · subst hn0
        exact ⟨none, 0, hv0, Nat.le_refl _, fun _ => ⟨rfl, rfl⟩, [], by simp, by simp, by simp, fun i j hi => by omega⟩
      · refine ⟨_, cap, hv0, hnc, (fun e => by cases e), xs, hown.1, hone, fun ad e j u hj => ?_, hcells⟩
        cases e
        exact hown.cells (g := g) (by rw [hv0]; rfl) j u hj
    | _ => rw [hh] at hs; cases hs
  | _ => cases hs

theorem append_block {B t ty e sz n m c : Nat} {v v' : Value} {ad : Addr} {w w' : World} {P : Program} {i : TypeInfo} {z : Value} {xs news : List Value} (hu : P.underlying t = some (.slice e))
    (hi : P.info? e = some i) (hz : i.zero = some z) (hsz : i.size = sz) (hown : ownsX w B e sz v n xs) (hl : news.length = m * sz) (hn : ∀ (j : Nat) (u : Value), news[j]? = some u → w.cell? (ad.add j) = some u)
    (h1 : ∀ u ∈ news, u.oneCell' = true) (hle : n + m ≤ 140737488355328) (hby : (n + m) * i.bytes ≤ 140737488355328)
    (hr : (Builtin.append_ #[t, t] ty #[v, .slice (some ad) m c]).run P w = .ok v' w') : blk v' = blk v ∨ ∀ g, blk v' = some g → w.heap.size ≤ g := by
  subst hsz
  rcases hown.2 with ⟨rfl, rfl⟩ | ⟨g, cap, cur, rfl, hbg, hg, hnc, hcm, hcs, htake⟩
  · by_cases hm : m = 0
    · subst hm
      have h2 : news = [] := List.eq_nil_of_length_eq_zero (by simpa using hl)
      subst h2
      have h3 : (Builtin.append_ #[t, t] ty #[.slice none 0 0, .slice (some ad) 0 c]).run P w = .ok (.slice none 0 0) w := by
        simp [Builtin.append_, run_underlying hu, sizeOf, typeInfo, hi, Builtin.lenOf, Builtin.firstCells, loadCells, loadCellsFrom]
      rw [h3] at hr; cases hr; exact .inl rfl
    · have h3 := run_append_nil (P := P) w t ty e i z hu hi hz ad m c news hl hn (by omega) (by omega) (by simp only [Nat.zero_add] at hby; omega)
      rw [h3] at hr; cases hr
      exact .inr (fun g hg => by cases hg; exact Nat.le_refl _)
  · by_cases hroom : n + m ≤ cap
    · have hfit : n * i.size + news.length ≤ cur.size := by rw [hl, hcs, ← Nat.add_mul]; exact Nat.mul_le_mul_right _ hroom
      have h3 := run_append_roomX (P := P) w t ty e i hu hi g n cap cur hg ad m c news hl hn h1 hroom hfit
      rw [h3] at hr; cases hr; exact .inl rfl
    · have holds : ∀ (j : Nat) (u : Value), xs[j]? = some u → w.cell? ((⟨g, 0, none⟩ : Addr).add j) = some u := hown.cells (g := g) rfl
      have h3 := run_append_grow (P := P) w t ty e i z hu hi hz ⟨g, 0, none⟩ n cap xs hown.1 holds ad m c news hl hn (by omega) (by omega) (growslice_fits (by omega) hby)
      rw [h3] at hr; cases hr
      exact .inr (fun g hg => by cases hg; exact Nat.le_refl _)

def aappendTo (P : TT) (t d z e sz n : Nat) (get : Nat → Nat → AV) (x : AV) (env : Env) (h : Heap) (K : Env → Heap → AV → Prop) (stop : Prop) : Prop :=
  match srcOf h x with
  | some (m, sz', get2) => cond (Nat.beq sz' sz && Nat.beq sz (P.cellsOf e) && Nat.blt 0 sz && Nat.blt 0 (P.bytesOf e)) (match P.zero e with
    | some zl => cond (Nat.beq zl.length sz) (Need ((n + m) * P.bytesOf e ≤ 140737488355328)
        (K (scrubE d env) (upd (upd (scrubH d h) z .dead) d (.row e sz (n + m) (joinRow n get get2))) (.row d))) stop
    | none => stop) stop
  | none => stop

def aappend (P : TT) (t t2 d : Nat) (s x : AV) (env : Env) (h : Heap) (K : Env → Heap → AV → Prop) (stop : Prop) : Prop :=
  cond (Nat.beq t t2) (match P.underlying t with
    | some (.slice e) => match s with
      | .nils => match srcOf h x with
        | some (_, sz, _) => aappendTo P t d d e sz 0 (fun _ _ => .u) x env h K stop
        | none => stop
      | .row z => match h z with
        | .row e' sz n get => cond (Nat.beq e e') (aappendTo P t d z e sz n get x env h K stop) stop
        | _ => stop
      | _ => stop
    | _ => stop) stop

theorem aappendTo_ok (R : Rel C env h ι a w) {t d z e sz n : Nat} (ty : TypeId) {get : Nat → Nat → AV} {x : AV} {v u : Value} {xs : List Value} {K : Env → Heap → AV → Prop} {stop : Prop} (hu : C.T.underlying t = some (.slice e))
    (hown : ownsX w C.B e sz v n xs) (hx1 : ∀ u ∈ xs, u.oneCell' = true) (hxc : ∀ i j, i < n → j < sz → ∃ cv, xs[i * sz + j]? = some cv ∧ VR w (okB C h ι w) (get i j) noref cv)
    (hz : (v = .slice none 0 0) ∨ (h z ≠ .dead ∧ v = ι z 0)) (hx : VR w (okB C h ι w) x (rf h ι) u) (hk : aappendTo C.T t d z e sz n get x env h K stop) :
    stop ∨ Out C a w (Builtin.append_ #[t, t] ty #[v, u]) K := by
  unfold aappendTo at hk
  split at hk
  · rename_i m sz' get2 hs
    cases hbb : (Nat.beq sz' sz && Nat.beq sz (C.T.cellsOf e) && Nat.blt 0 sz && Nat.blt 0 (C.T.bytesOf e)) with
    | false => rw [hbb] at hk; exact .inl hk
    | true =>
      rw [hbb, cond_true] at hk
      simp only [Bool.and_eq_true] at hbb
      have e1 : sz' = sz := Nat.eq_of_beq_eq_true hbb.1.1.1
      have e2 : sz = C.T.cellsOf e := Nat.eq_of_beq_eq_true hbb.1.1.2
      have e3 : 0 < sz := by simpa [Nat.blt_eq] using hbb.1.2
      have e4 : 0 < C.T.bytesOf e := by simpa [Nat.blt_eq] using hbb.2
      subst e1
      split at hk
      · rename_i zl hzl
        cases hb2 : Nat.beq zl.length sz' with
        | false => rw [hb2] at hk; exact .inl hk
        | true =>
          rw [hb2, cond_true] at hk
          have e5 : zl.length = sz' := Nat.eq_of_beq_eq_true hb2
          obtain ⟨hby, hk⟩ := hk
          obtain ⟨i, zv, hi, hzz, hzs, _⟩ := zeroL_ok (C.zeroes hzl).1
          have hsz : i.size = sz' := by rw [e2, ← (C.zeroes hzl).2.1]; simp [Program.cellsOf, hi]
          have hbyt : i.bytes = C.T.bytesOf e := by rw [← (C.zeroes hzl).2.2]; simp [Program.bytesOf, hi]
          obtain ⟨A, c, rfl, hmc, hA, news, hnl, hn1, hncell, hnc⟩ := src_ok R hs hx
          have hle : n + m ≤ 140737488355328 := Nat.le_trans (Nat.le_mul_of_pos_right _ e4) hby
          have main : ∃ v' w', (Builtin.append_ #[t, t] ty #[v, .slice A m c]).run C.P w = .ok v' w' ∧ ownsX w' C.B e sz' v' (n + m) (xs ++ news) ∧ w.grownBy w' v.ownBlock ∧ (blk v' = blk v ∨ ∀ g, blk v' = some g → w.heap.size ≤ g) := by
            cases A with
            | some ad =>
              obtain ⟨v', w', h1, h2, h3⟩ := run_append_ownX (P := C.P) w C.B t ty e i zv sz' (C.T.bytesOf e) (C.und hu) hi hzz hsz hbyt (by rw [hzs, e5]) e3 v n xs hown ad m c news hnl (hncell ad rfl) hn1
                (by simp only [maxLen]; omega) hby R.below.size
              exact ⟨v', w', h1, h2, h3, append_block (C.und hu) hi hzz hsz hown hnl (hncell ad rfl) hn1 hle (by rw [hbyt]; exact hby) h1⟩
            | none =>
              obtain ⟨rfl, rfl⟩ := hA rfl
              have hnews : news = [] := List.eq_nil_of_length_eq_zero (by rw [hnl]; simp)
              subst hnews
              exact ⟨v, w, run_append_noneX (P := C.P) w C.B t ty e i sz' (C.und hu) hi v n xs hown, by simpa using hown, ⟨rfl, rfl, rfl, Nat.le_refl _, fun _ _ _ => rfl⟩, .inl rfl⟩
          obtain ⟨v', w', h1, h2, h3, hblk⟩ := main
          have R' := fun getn hgetn => R.appended d z e sz' n m get get2 v v' w' xs news hown hx1 hxc hz h2 h3 hblk hn1 hnc getn hgetn
          refine .inr ⟨v', w', _, _, _, _, h1, R' _ (fun i j _ _ => rfl), by show v' = upd ι d (fun _ => v') d 0; rw [upd_same], hk⟩
      · exact .inl hk
  · exact .inl hk
theorem aappend_ok (R : Rel C env h ι a w) {t t2 d : Nat} (ty : TypeId) {s x : AV} {v u : Value} {K : Env → Heap → AV → Prop} {stop : Prop} (hs : VR w (okB C h ι w) s (rf h ι) v) (hx : VR w (okB C h ι w) x (rf h ι) u)
    (hk : aappend C.T t t2 d s x env h K stop) : stop ∨ Out C a w (Builtin.append_ #[t, t2] ty #[v, u]) K := by
  unfold aappend at hk
  cases hb : Nat.beq t t2 with
  | false => rw [hb] at hk; exact .inl hk
  | true =>
    rw [hb, cond_true] at hk
    have e0 : t = t2 := Nat.eq_of_beq_eq_true hb
    subst e0
    split at hk
    · rename_i e hu
      split at hk
      · split at hk
        · rename_i m sz get2 hsrc
          have hv : v = .slice none 0 0 := hs
          subst hv
          exact aappendTo_ok R ty hu (ownsX_nil w C.B e sz) (by simp) (fun i j hi => by omega) (.inl rfl) hx hk
        · exact .inl hk
      · rename_i z
        split at hk
        · rename_i e' sz n get hh
          cases hb2 : Nat.beq e e' with
          | false => rw [hb2] at hk; exact .inl hk
          | true =>
            rw [hb2, cond_true] at hk
            have e1 : e = e' := Nat.eq_of_beq_eq_true hb2
            subst e1
            have ho := R.obj z
            rw [hh] at ho
            obtain ⟨xs, hown, hone, hcells⟩ := ho
            have hv : v = ι z 0 := hs
            subst hv
            exact aappendTo_ok R ty hu hown hone hcells (.inr ⟨by rw [hh]; simp, rfl⟩) hx hk
        · exact .inl hk
      · exact .inl hk
    · exact .inl hk

/-! ### slicing -/
def aslice (P : TT) (t : TypeId) (x : AV) (lo hi : Option AV) (K : AV → Prop) (stop : Prop) : Prop :=
  match P.underlying t, x with
  | some .string, .str s => match lo, hi with
    | some (.int _ l), some (.int _ r) => Need (0 ≤ l ∧ l ≤ r ∧ r ≤ s.size) (K (.str (s.extract l.toNat r.toNat)))
    | some (.int _ l), none => Need (0 ≤ l ∧ l ≤ s.size) (K (.str (s.extract l.toNat s.size)))
    | none, some (.int _ r) => Need (0 ≤ r ∧ r ≤ s.size) (K (.str (s.extract 0 r.toNat)))
    | none, none => K (.str (s.extract 0 s.size))
    | _, _ => stop
  | some (.slice e), .sl n sz get => match P.underlying e with
    | some _ => cond (Nat.beq (P.cellsOf e) sz) (match lo, hi with
      | some (.int _ l), some (.int _ r) => Need (0 ≤ l ∧ l ≤ r ∧ r ≤ n) (K (.sl (r.toNat - l.toNat) sz (fun i j => get (l.toNat + i) j)))
      | some (.int _ l), none => Need (0 ≤ l ∧ l ≤ n) (K (.sl (n - l.toNat) sz (fun i j => get (l.toNat + i) j)))
      | none, some (.int _ r) => Need (0 ≤ r ∧ r ≤ n) (K (.sl r.toNat sz get))
      | _, _ => stop) stop
    | none => stop
  | _, _ => stop

theorem extract_size (s : ByteArray) (l r : Nat) : (s.extract l r).size ≤ s.size := by
  rw [ByteArray.size_extract]; omega

theorem sl_cut {n sz : Nat} {get : Nat → Nat → AV} {ok : Nat → Prop} {A : Option Addr} {c l m : Nat} (hlm : l + m ≤ n) (hnc : n ≤ c) (hc : c ≤ maxLen) (hA : A = none → c = 0)
    (hcells : 0 < n → ∃ ad : Addr, A = some ad ∧ ok ad.block ∧ ∀ i j, i < n → j < sz → ∃ cv, w.cell? (ad.add (i * sz + j)) = some cv ∧ cv.oneCell' = true ∧ VR w ok (get i j) noref cv) (r : Ref) :
    VR w ok (.sl m sz (fun i j => get (l + i) j)) r (.slice (if c = l then A else A.map (·.add (l * sz))) m (c - l)) := by
  refine ⟨_, _, rfl, by omega, by omega, fun e => ?_, fun hm => ?_⟩
  · split at e
    · have := hA e; omega
    · cases A with
      | none => have := hA rfl; omega
      | some ad => cases e
  · obtain ⟨ad, rfl, hb, hcs⟩ := hcells (by omega)
    rw [if_neg (by omega)]
    refine ⟨_, rfl, by rw [addr_block]; exact hb, fun i j hi hj => ?_⟩
    rw [addr_add]
    obtain ⟨cv, c1, c2, c3⟩ := hcs (l + i) j (by omega) hj
    refine ⟨cv, ?_, c2, c3⟩
    rw [← c1]; congr 2; rw [Nat.add_mul]; omega

theorem aslice_ok (R : Rel C env h ι a w) {t : TypeId} {x : AV} {v : Value} {lo hi : Option AV} {lv hv : Option Value} {K : Env → Heap → AV → Prop} {stop : Prop} (hx : VR w (okB C h ι w) x (rf h ι) v)
    (hlo : lo.isSome = lv.isSome ∧ ∀ y u, lo = some y → lv = some u → VR w (okB C h ι w) y (rf h ι) u) (hhi : hi.isSome = hv.isSome ∧ ∀ y u, hi = some y → hv = some u → VR w (okB C h ι w) y (rf h ι) u)
    (hk : aslice C.T t x lo hi (K env h) stop) : stop ∨ Out C a w (Instr.sliceAt t v lv hv none) K := by
  have int_of : ∀ {o : Option AV} {ov : Option Value} {k : IntKind} {n : Int}, (o.isSome = ov.isSome ∧ ∀ y u, o = some y → ov = some u → VR w (okB C h ι w) y (rf h ι) u) → o = some (.int k n) → ov = some (.int k n) := by
    intro o ov k n ho e
    subst e
    cases ov with
    | none => cases ho.1
    | some u => have := ho.2 _ _ rfl rfl; rw [show u = .int k n from this]
  have none_of : ∀ {o : Option AV} {ov : Option Value}, (o.isSome = ov.isSome ∧ ∀ y u, o = some y → ov = some u → VR w (okB C h ι w) y (rf h ι) u) → o = none → ov = none := by
    intro o ov ho e
    subst e
    cases ov with
    | none => rfl
    | some u => cases ho.1
  unfold aslice at hk
  split at hk
  · rename_i s hu
    obtain ⟨rfl, hs⟩ : v = .string s ∧ s.size ≤ maxLen := hx
    have hsl : ∀ l r, (s.extract l r).size ≤ maxLen := fun l r => Nat.le_trans (extract_size s l r) hs
    split at hk
    · rename_i kl l kr r
      have e1 := int_of hlo rfl
      have e2 := int_of hhi rfl
      subst e1; subst e2
      obtain ⟨⟨h0, h1, h2⟩, hk⟩ := hk
      refine .inr (Out.same R hk (v := .string (s.extract l.toNat r.toNat)) ?_ ⟨rfl, hsl _ _⟩)
      rw [run_sliceAt_string w t _ _ _ _ (C.und hu)]
      simp [Instr.slice, run_und hu, Instr.sliceBounds, Instr.sliceBound, asIntOf, h0, h1, h2, show 0 ≤ r by omega, show l ≤ (r.toNat : Int) by omega]
      intro hh; omega
    · rename_i kl l
      have e1 := int_of hlo rfl
      have e2 := none_of hhi rfl
      subst e1; subst e2
      obtain ⟨⟨h0, h1⟩, hk⟩ := hk
      refine .inr (Out.same R hk (v := .string (s.extract l.toNat s.size)) ?_ ⟨rfl, hsl _ _⟩)
      rw [run_sliceAt_string w t _ _ _ _ (C.und hu)]
      simp [Instr.slice, run_und hu, Instr.sliceBounds, Instr.sliceBound, asIntOf, h0, h1]
    · rename_i kr r
      have e1 := none_of hlo rfl
      have e2 := int_of hhi rfl
      subst e1; subst e2
      obtain ⟨⟨h0, h1⟩, hk⟩ := hk
      refine .inr (Out.same R hk (v := .string (s.extract 0 r.toNat)) ?_ ⟨rfl, hsl _ _⟩)
      rw [run_sliceAt_string w t _ _ _ _ (C.und hu)]
      simp [Instr.slice, run_und hu, Instr.sliceBounds, Instr.sliceBound, asIntOf, h0, h1]
    · have e1 := none_of hlo rfl
      have e2 := none_of hhi rfl
      subst e1; subst e2
      refine .inr (Out.same R hk (v := .string (s.extract 0 s.size)) ?_ ⟨rfl, hsl _ _⟩)
      rw [run_sliceAt_string w t _ _ _ _ (C.und hu)]
      simp [Instr.slice, run_und hu, Instr.sliceBounds, Instr.sliceBound, asIntOf]
    · exact .inl hk
  · rename_i e n sz get hu
    obtain ⟨A, c, rfl, hnc, hc, hA, hcells⟩ := hx
    have hu' : C.P.underlying t = some (.slice (C.P.elem t)) := by simp [Program.elem, C.und hu]
    split at hk
    · rename_i de hue
      cases hb : Nat.beq (C.T.cellsOf e) sz with
      | false => rw [hb] at hk; exact .inl hk
      | true =>
        rw [hb, cond_true] at hk
        have hsz : C.T.cellsOf e = sz := Nat.eq_of_beq_eq_true hb
        split at hk
        · rename_i kl l kr r
          have e1 := int_of hlo rfl
          have e2 := int_of hhi rfl
          subst e1; subst e2
          obtain ⟨⟨h0, h1, h2⟩, hk⟩ := hk
          refine .inr (Out.same R hk (v := .slice (if c = l.toNat then A else A.map (·.add (l.toNat * sz))) (r.toNat - l.toNat) (c - l.toNat)) ?_ (sl_cut (by omega) hnc hc hA hcells _))
          rw [run_sliceAt_slice w t _ _ _ _ hu']
          simp [Instr.slice, run_und hu, Instr.sliceBounds, Instr.sliceBound, asIntOf, h0, h1, show r ≤ (c : Int) by omega, show 0 ≤ r by omega, show l ≤ (r.toNat : Int) by omega, run_sizeOf hue, hsz]
          intro hh; omega
        · rename_i kl l
          have e1 := int_of hlo rfl
          have e2 := none_of hhi rfl
          subst e1; subst e2
          obtain ⟨⟨h0, h1⟩, hk⟩ := hk
          refine .inr (Out.same R hk (v := .slice (if c = l.toNat then A else A.map (·.add (l.toNat * sz))) (n - l.toNat) (c - l.toNat)) ?_ (sl_cut (by omega) hnc hc hA hcells _))
          rw [run_sliceAt_slice w t _ _ _ _ hu']
          simp [Instr.slice, run_und hu, Instr.sliceBounds, Instr.sliceBound, asIntOf, h0, h1, run_sizeOf hue, hsz]
        · rename_i kr r
          have e1 := none_of hlo rfl
          have e2 := int_of hhi rfl
          subst e1; subst e2
          obtain ⟨⟨h0, h1⟩, hk⟩ := hk
          have hcut := sl_cut (w := w) (l := 0) (m := r.toNat) (by omega) hnc hc hA hcells (rf h ι)
          simp only [Nat.zero_add, Nat.zero_mul, Nat.sub_zero] at hcut
          refine .inr (Out.same R hk (v := .slice (if c = 0 then A else A.map (·.add 0)) r.toNat c) ?_ hcut)
          rw [run_sliceAt_slice w t _ _ _ _ hu']
          simp [Instr.slice, run_und hu, Instr.sliceBounds, Instr.sliceBound, asIntOf, h0, show r ≤ (c : Int) by omega, run_sizeOf hue, hsz]
        · exact .inl hk
    · exact .inl hk
  · exact .inl hk

/-! ### numbers turned into others -/
def aconvert (P : TT) (s d : TypeId) (x : AV) (K : AV → Prop) (stop : Prop) : Prop :=
  match P.underlying s, P.underlying d, x with
  | some _, some (.int k), .int _ n => K (.int k (k.wrap n))
  | some _, some .string, .int _ n => K (.str (Utf8.encode n))
  | some _, some .string, .str t => K (.str t)
  | _, _, _ => stop

theorem encode_small (n : Int) : (Utf8.encode n).size ≤ 4 := by
  unfold Utf8.encode
  dsimp only
  repeat' split
  all_goals simp [ByteArray.size]

theorem aconvert_ok (R : Rel C env h ι a w) {s d : TypeId} {x : AV} {v : Value} {K : Env → Heap → AV → Prop} {stop : Prop} (hx : VR w (okB C h ι w) x (rf h ι) v)
    (hk : aconvert C.T s d x (K env h) stop) : stop ∨ Out C a w (convert s d v) K := by
  unfold aconvert at hk
  split at hk
  · rename_i ds k k' n hs hd
    have e : v = .int k' n := hx
    subst e
    exact .inr (Out.same R hk (v := .int k (k.wrap n)) (by simp [convert, run_und hs, run_und hd, Conv.intToInt]) rfl)
  · rename_i ds k' n hs hd
    have e : v = .int k' n := hx
    subst e
    refine .inr (Out.same R hk (v := .string (Utf8.encode n)) (by simp [convert, run_und hs, run_und hd, Conv.intToString]) ⟨rfl, ?_⟩)
    have := encode_small n
    simp only [maxLen]; omega
  · rename_i ds t hs hd
    obtain ⟨rfl, h1⟩ : v = .string t ∧ t.size ≤ maxLen := hx
    exact .inr (Out.same R hk (v := .string t) (by simp [convert, run_und hs, run_und hd]) ⟨rfl, h1⟩)
  · exact .inl hk
end

end Go.Proofs.YteklnpgiloebcaaDoor.V


