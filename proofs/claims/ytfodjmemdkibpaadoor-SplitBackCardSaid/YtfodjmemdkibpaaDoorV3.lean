/-
Appending a text to an own row of bytes.
-/
import Derived.Test.YtfodjmemdkibpaaDoorVh
import Derived.Lib.AppendStr
import Derived.Lib.UnsafeStr
namespace Go.Proofs.YtfodjmemdkibpaaDoor.V
open Go Go.RowKit
set_option linter.unusedSimpArgs false
set_option linter.unusedVariables false
section
variable {C : Ctx} {env : Env} {h : Heap} {ι : Loc} {a : Act} {w : World}
/-- Appending a text's bytes to an own row of bytes. -/
def aappSTo (P : TT) (d z e n : Nat) (get : Nat → Nat → AV) (s : ByteArray) (env : Env) (h : Heap) (K : Env → Heap → AV → Prop) : Prop :=
  Need (n + s.size ≤ 140737488355328) (K (scrubE d env) (upd (upd (scrubH d h) z .dead) d (.row e 1 (n + s.size) (joinRow n get (fun i _ => .int .u8 (bt s i))))) (.row d))
def aappS (P : TT) (t t2 d : Nat) (s x : AV) (env : Env) (h : Heap) (K : Env → Heap → AV → Prop) (stop : Prop) : Prop :=
  match P.underlying t, P.underlying t2, x with
  | some (.slice e), some .string, .str b => match P.zero e, P.one e, Nat.beq (P.cellsOf e) 1 && Nat.beq (P.bytesOf e) 1 with
    | some [.int .u8 0], true, true => match s with
      | .nils => aappSTo P d d e 0 (fun _ _ => .u) b env h K
      | .row z => match h z with
        | .row e' sz n get => cond (Nat.beq e e' && Nat.beq sz 1) (aappSTo P d z e n get b env h K) stop
        | _ => stop
      | _ => stop
    | _, _, _ => stop
  | _, _, _ => stop

theorem appS_block {B t u ty e n : Nat} {v v' : Value} {w w' : World} {P : Program} {i : TypeInfo} {xs : List Value} {s : ByteArray} (ht : P.underlying t = some (.slice e)) (hu : P.underlying u = some .string)
    (hi : P.info? e = some i) (hz : i.zero = some (.int .u8 0)) (hsz : i.size = 1) (hby : i.bytes = 1) (hown : w.ownsRow B e 1 v n xs) (hle : n + s.size ≤ 140737488355328)
    (hr : (Builtin.append_ #[t, u] ty #[v, .string s]).run P w = .ok v' w') : blk v' = blk v ∨ ∀ g, blk v' = some g → w.heap.size ≤ g := by
  rcases hown.2 with ⟨rfl, rfl⟩ | ⟨g, cap, cur, rfl, hbg, hg, hnc, hcm, hcs, htake⟩
  · by_cases hm : s.size = 0
    · have hf := Lib.run_firstCells_string (P := P) w 1 s
      rw [hm] at hf
      have h3 : (Builtin.append_ #[t, u] ty #[.slice none 0 0, .string s]).run P w = .ok (.slice none 0 0) w := by
        simp [Builtin.append_, run_underlying ht, run_underlying hu, sizeOf, typeInfo, hi, hsz, Builtin.lenOf, hm, hf]
      rw [h3] at hr; cases hr; exact .inl rfl
    · have h3 := run_append_nil_string (P := P) w t u ty e i (.int .u8 0) ht hu hi hz s (by omega) (by omega) (by rw [hby]; omega)
      rw [h3] at hr; cases hr
      exact .inr (fun g hg => by cases hg; exact Nat.le_refl _)
  · by_cases hroom : n + s.size ≤ cap
    · have h3 := Lib.run_append_room_string (P := P) w t u ty e i ht hu hi hsz g n cap cur hg s hroom (by rw [hcs]; omega)
      rw [h3] at hr; cases hr; exact .inl rfl
    · have holds : ∀ (j : Nat) (u : Value), xs[j]? = some u → w.cell? ((⟨g, 0, none⟩ : Addr).add j) = some u := hown.cells (g := g) rfl
      have h3 := Lib.run_append_grow_string (P := P) w t u ty e i (.int .u8 0) ht hu hi hz ⟨g, 0, none⟩ n cap xs (by rw [hsz]; exact hown.1) holds s (by omega) (by omega) (growslice_fits (by omega) (by rw [hby]; omega))
      rw [h3] at hr; cases hr
      exact .inr (fun g hg => by cases hg; exact Nat.le_refl _)

theorem aappSTo_ok (R : Rel C env h ι a w) {t t2 d z e n : Nat} (ty : TypeId) {get : Nat → Nat → AV} {s : ByteArray} {v : Value} {xs : List Value} {K : Env → Heap → AV → Prop} (ht : C.T.underlying t = some (.slice e)) (hu : C.T.underlying t2 = some .string)
    (hzl : C.T.zero e = some [.int .u8 0]) (hone : C.T.one e = true) (hc1 : C.T.cellsOf e = 1) (hb1 : C.T.bytesOf e = 1)
    (hown : w.ownsRow C.B e 1 v n xs) (hx1 : ∀ u ∈ xs, u.oneCell' = true) (hxc : ∀ i j, i < n → j < 1 → ∃ cv, xs[i * 1 + j]? = some cv ∧ VR w (okB C h ι w) (get i j) noref cv)
    (hz : (v = .slice none 0 0) ∨ (h z ≠ .dead ∧ v = ι z 0)) (hk : aappSTo C.T d z e n get s env h K) :
    Out C a w (Builtin.append_ #[t, t2] ty #[v, .string s]) K := by
  obtain ⟨hle, hk⟩ := hk
  obtain ⟨i, zv, hi, hzz, hzs, hzc⟩ := zeroL_ok (C.zeroes hzl).1
  have hsz : i.size = 1 := by rw [← hc1, ← (C.zeroes hzl).2.1]; simp [Program.cellsOf, hi]
  have hbyt : i.bytes = 1 := by rw [← hb1, ← (C.zeroes hzl).2.2]; simp [Program.bytesOf, hi]
  have hzv : zv = .int .u8 0 := by
    have h5 := C.ones hone
    obtain ⟨c, c1, c2, c3⟩ := hzc w (fun _ => True) noref 0 (.int .u8 0) rfl
    have hc : c = .int .u8 0 := c3
    subst hc
    cases zv with
    | agg cs => unfold zeroOne at h5; rw [hi] at h5; simp [hzz] at h5
    | tuple cs => first | (unfold zeroOne at h5; rw [hi] at h5; simp [hzz, Value.cells] at c1 h5; done) | (simp [Value.cells] at c1; exact c1)
    | _ => simp [Value.cells] at c1 <;> first | exact c1 | (cases c1; rfl) | (subst c1; rfl) | (obtain ⟨rfl, rfl⟩ := c1; rfl)
  rw [hzv] at hzz
  obtain ⟨v', w', h1, h2, h3, _⟩ := Lib.run_append_own_string (P := C.P) w C.B t t2 ty e i (C.und ht) (C.und hu) hi hzz hsz hbyt v n xs hown s (by simp only [maxLen]; omega) hle R.below.size
  have hblk := appS_block (C.und ht) (C.und hu) hi hzz hsz hbyt hown hle h1
  have R' := R.appended d z e 1 n s.size get (fun i _ => .int .u8 (bt s i)) v v' w' xs (Lib.strCells s) hown hx1 hxc hz h2 h3 hblk (Lib.strCells_oneCell s) (fun i j hi hj => by
    have : j = 0 := by omega
    subst this
    refine ⟨.int .u8 (bt s i), ?_, rfl⟩
    have hlt : i < s.data.toList.length := by simpa using hi
    unfold Lib.strCells bt
    rw [Nat.mul_one, Nat.add_zero, List.getElem?_map, List.getElem?_eq_getElem hlt, List.getD, List.getElem?_eq_getElem hlt]; rfl) _ (fun i j _ _ => rfl)
  exact ⟨v', w', _, _, _, _, h1, R', by show v' = upd ι d (fun _ => v') d 0; rw [upd_same], hk⟩
theorem aappS_ok (R : Rel C env h ι a w) {t t2 d : Nat} (ty : TypeId) {s x : AV} {v u : Value} {K : Env → Heap → AV → Prop} {stop : Prop} (hs : VR w (okB C h ι w) s (rf h ι) v) (hx : VR w (okB C h ι w) x (rf h ι) u)
    (hk : aappS C.T t t2 d s x env h K stop) : stop ∨ Out C a w (Builtin.append_ #[t, t2] ty #[v, u]) K := by
  unfold aappS at hk
  split at hk
  · rename_i e b ht hu
    split at hk
    · rename_i hz ho hcb
      rw [Bool.and_eq_true] at hcb
      have hc1 := Nat.eq_of_beq_eq_true hcb.1
      have hb1 := Nat.eq_of_beq_eq_true hcb.2
      obtain ⟨rfl, hbs⟩ := hx
      split at hk
      · have hv : v = .slice none 0 0 := hs
        subst hv
        exact .inr (aappSTo_ok R ty ht hu hz ho hc1 hb1 (World.ownsRow_nil w C.B e 1) (by simp) (fun i j hi => by omega) (.inl rfl) hk)
      · rename_i z
        split at hk
        · rename_i e' sz n get hh
          cases hb2 : (Nat.beq e e' && Nat.beq sz 1) with
          | false => rw [hb2] at hk; exact .inl hk
          | true =>
            rw [hb2, cond_true] at hk
            rw [Bool.and_eq_true] at hb2
            have e1 : e = e' := Nat.eq_of_beq_eq_true hb2.1
            have e2 : sz = 1 := Nat.eq_of_beq_eq_true hb2.2
            subst e1; subst e2
            have ho2 := R.obj z
            rw [hh] at ho2
            obtain ⟨xs, hown, hone, hcells⟩ := ho2
            have hv : v = ι z 0 := hs
            subst hv
            exact .inr (aappSTo_ok R ty ht hu hz ho hc1 hb1 hown hone hcells (.inr ⟨by rw [hh]; simp, rfl⟩) hk)
        · exact .inl hk
      · exact .inl hk
    · exact .inl hk
  · exact .inl hk

/-! ### unsafe.SliceData, of an own row -/
def asliceData (P : TT) (h : Heap) (ty : TypeId) (x : AV) (K : AV → Prop) (stop : Prop) : Prop :=
  match P.underlying ty, x with
  | some (.pointer _), .nils => K .nilp
  | some (.pointer _), .row q => match h q with
    | .row _ sz n _ => AskB (decide (n = 0)) (K .ptr) (K (.radr q sz 0 0))
    | _ => stop
  | _, _ => stop
theorem asliceData_ok (R : Rel C env h ι a w) {t ty : TypeId} {x : AV} {v : Value} {K : Env → Heap → AV → Prop} {stop : Prop} (hx : VR w (okB C h ι w) x (rf h ι) v)
    (hk : asliceData C.T h ty x (K env h) stop) : stop ∨ Out C a w (Builtin.unsafeSliceData_ #[t] ty #[v]) K := by
  unfold asliceData at hk
  split at hk
  · have hv : v = .slice none 0 0 := hx
    subst hv
    exact .inr (Out.same R hk (Lib.run_unsafeSliceData_nil w _ _ _ _) rfl)
  · rename_i e q hu
    split at hk
    · rename_i e' sz n get hh
      have ho := R.obj q
      rw [hh] at ho
      obtain ⟨xs, hown, hone, hcells⟩ := ho
      have hv : v = ι q 0 := hx
      by_cases hn : n = 0
      · have hk' := hk.t (decide_eq_true hn)
        rcases hown.2 with ⟨hv0, _⟩ | ⟨g, cap, cur, hv0, hB, hg, _⟩
        · subst hv; rw [hv0]
          exact .inr (Out.same R hk' (Lib.run_unsafeSliceData_nil w _ _ _ _) ⟨_, rfl⟩)
        · subst hv; rw [hv0]
          by_cases hc : cap = 0
          · subst hc
            have hr := Lib.run_unsafeSliceData_zero (P := C.P) w #[t] ty e (C.und hu) ⟨g, 0, none⟩ n (e', cur.size) (by simp [World.shape?, hg])
            exact .inr ⟨_, _, ι, env, h, .ptr, hr, R.grow (Below.alloc (Below.refl _ _) (Nat.le_refl _) _), ⟨_, rfl⟩, hk'⟩
          · exact .inr (Out.same R hk' (Lib.run_unsafeSliceData_row w _ _ _ _ _ hc) ⟨_, rfl⟩)
      · have hk' := hk.f (decide_eq_false hn)
        rcases hown.2 with ⟨hv0, h0⟩ | ⟨g, cap, cur, hv0, hB, hg, hnc, _⟩
        · exact absurd h0 hn
        · subst hv; rw [hv0]
          refine .inr (Out.same R hk' (Lib.run_unsafeSliceData_row w _ _ _ _ _ (by omega)) ⟨g, n, cap, hv0, by simp [Addr.add], ?_⟩)
          rw [hh]
          exact ⟨rfl, by omega⟩
    · exact .inl hk
  · exact .inl hk
end
end Go.Proofs.YtfodjmemdkibpaaDoor.V
