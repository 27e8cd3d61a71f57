/-
Abstract values, and what they say of the model's world. Nothing of the program is named here.
-/
import Derived.WalkKit
import Derived.KernelRfl
import Derived.Deep.Draws
import Derived.DataElems
import Derived.Laws.MakeOwn
import Derived.Laws.OwnMore
namespace Go.Proofs.YtfodjmemdkibpaaDoor.V
open Go Go.RowKit

inductive AV where
  | u | sk | tt | ff
  | bool (b : Bool)
  | int (k : IntKind) (n : Int)
  | str (s : ByteArray)
  | nils
  | sl (n sz : Nat) (get : Nat → Nat → AV)
  | iadr (m : Nat) (get : Nat → AV)
  | agg (n : Nat) (get : Nat → AV)
  | tup (n : Nat) (get : Nat → AV)
  | nilp | nilif
  | row (id : Nat)
  | radr (id sz i j : Nat)
  | box (id off : Nat)
  | obj (id : Nat)
  | mrow (id i : Nat)
  | madr (id i sz a b : Nat)
  | ptr
  | fn (f : Nat)

abbrev Ref := AV → Value → Prop
def noref : Ref := fun _ _ => False

def VR (w : World) (ok : Nat → Prop) : AV → Ref → Value → Prop
  | .u, _, _ => True
  | .sk, _, v => v = undef
  | .tt, _, v => v = .bool true
  | .ff, _, v => v = .bool false
  | .bool b, _, v => v = .bool b
  | .int k n, _, v => v = .int k n
  | .str s, _, v => v = .string s ∧ s.size ≤ maxLen
  | .nils, _, v => v = .slice none 0 0
  | .sl n sz get, _, v => ∃ A c, v = .slice A n c ∧ n ≤ c ∧ c ≤ maxLen ∧ (A = none → c = 0) ∧ (0 < n → ∃ ad : Addr, A = some ad ∧ ok ad.block ∧ ∀ i j, i < n → j < sz → ∃ cv, w.cell? (ad.add (i * sz + j)) = some cv ∧ cv.oneCell' = true ∧ VR w ok (get i j) noref cv)
  | .iadr m get, _, v => ∃ ad : Addr, v = .pointer (some ad) ∧ ok ad.block ∧ ∀ j, j < m → ∃ cv, w.cell? (ad.add j) = some cv ∧ cv.oneCell' = true ∧ VR w ok (get j) noref cv
  | .agg n get, r, v => ∃ cs : Array Value, v = .agg cs ∧ cs.size = n ∧ ∀ j, j < n → ∃ cv, cs[j]? = some cv ∧ cv.oneCell' = true ∧ VR w ok (get j) r cv
  | .tup n get, r, v => ∃ cs : Array Value, v = .tuple cs ∧ cs.size = n ∧ ∀ j, j < n → ∃ cv, cs[j]? = some cv ∧ VR w ok (get j) r cv
  | .nilp, _, v => v = .pointer none
  | .nilif, _, v => v = .nilIface
  | .row id, r, v => r (.row id) v
  | .radr id sz i j, r, v => r (.radr id sz i j) v
  | .box id off, r, v => r (.box id off) v
  | .obj id, r, v => r (.obj id) v
  | .mrow id i, r, v => r (.mrow id i) v
  | .madr id i sz a b, r, v => r (.madr id i sz a b) v
  | .ptr, _, v => ∃ p, v = .pointer p
  | .fn f, _, v => v = .func (.func f) #[] #[]

theorem VR.mono {w w' : World} {ok ok' : Nat → Prop} (hok : ∀ b, ok b → ok' b) (hw : ∀ b, ok b → w'.heap[b]? = w.heap[b]?) :
    ∀ (x : AV) (r r' : Ref) (v : Value), (∀ y v, r y v → r' y v) → VR w ok x r v → VR w' ok' x r' v := by
  intro x
  induction x with
  | sl n sz get ih =>
    intro r r' v _ h
    obtain ⟨A, c, e, h1, h2, h4, h3⟩ := h
    refine ⟨A, c, e, h1, h2, h4, fun hn => ?_⟩
    obtain ⟨ad, e, hb, hc⟩ := h3 hn
    refine ⟨ad, e, hok _ hb, fun i j hi hj => ?_⟩
    obtain ⟨cv, c1, c2, c3⟩ := hc i j hi hj
    have hbl : (ad.add (i * sz + j)).block = ad.block := by unfold Addr.add; split <;> rfl
    exact ⟨cv, (World.cell?_of_block (w := w) (by rw [hbl]; exact hw _ hb)).trans c1, c2, ih i j _ _ _ (fun _ _ h => h) c3⟩
  | iadr m get ih =>
    intro r r' v _ h
    obtain ⟨ad, e, hb, hc⟩ := h
    refine ⟨ad, e, hok _ hb, fun j hj => ?_⟩
    obtain ⟨cv, c1, c2, c3⟩ := hc j hj
    have hbl : (ad.add j).block = ad.block := by unfold Addr.add; split <;> rfl
    exact ⟨cv, (World.cell?_of_block (w := w) (by rw [hbl]; exact hw _ hb)).trans c1, c2, ih j _ _ _ (fun _ _ h => h) c3⟩
  | agg n get ih =>
    intro r r' v hr h
    obtain ⟨cs, e, hs, hc⟩ := h
    refine ⟨cs, e, hs, fun j hj => ?_⟩
    obtain ⟨cv, c1, c2, c3⟩ := hc j hj
    exact ⟨cv, c1, c2, ih j _ _ _ hr c3⟩
  | tup n get ih =>
    intro r r' v hr h
    obtain ⟨cs, e, hs, hc⟩ := h
    refine ⟨cs, e, hs, fun j hj => ?_⟩
    obtain ⟨cv, c1, c3⟩ := hc j hj
    exact ⟨cv, c1, ih j _ _ _ hr c3⟩
  | row id => intro r r' v hr h; exact hr _ _ h
  | radr id sz i j => intro r r' v hr h; exact hr _ _ h
  | box id off => intro r r' v hr h; exact hr _ _ h
  | obj id => intro r r' v hr h; exact hr _ _ h
  | mrow id i => intro r r' v hr h; exact hr _ _ h
  | madr id i sz a b => intro r r' v hr h; exact hr _ _ h
  | _ => intro r r' v _ h; exact h

end Go.Proofs.YtfodjmemdkibpaaDoor.V
