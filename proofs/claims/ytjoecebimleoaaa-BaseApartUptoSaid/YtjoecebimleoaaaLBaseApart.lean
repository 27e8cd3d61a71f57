/-
BaseApart: for every input of bulk at most 1048576 the law returns true; each argument reads behind the call as it read before.
-/
import Derived.Test.YtjoecebimleoaaaWd0
import Derived.Test.YtjoecebimleoaaaWl
import Derived.WalkKit
import Derived.ProofKit
import Derived.OpenShut
import Derived.ShutString
import Derived.ChangeOld
import Derived.Below
import Derived.SizedLaws
import Derived.JoinedCond
namespace Go.Proofs.Ytjoecebimleoaaa.baseApart
open Go Go.Proofs Go.ChangeShapes Go.WideShapes Go.ChangeAt Go.RowKit Go.Proofs.Ytjoecebimleoaaa.V
set_option linter.unusedVariables false
set_option maxRecDepth 100000
theorem own : ownKnob Try.prog.godebug = none := by kernel_rfl
theorem laidOut : laidOutB Try.prog = true := by kernel_rfl
def G (avs : List AV) (b : Nat) : Prop := ∃ (x : To) (avs' : List AV) (b' : Nat), avs = tTo x.row x.has x.es x.n :: avs' ∧ b = bkTo x + b' ∧ avs' = [] ∧ b' = 0
theorem argsD : ArgsD Try.prog [26] G := ArgsD.cons argTo ArgsD.nil
theorem calls : ∀ avs b, G avs b → b ≤ 1048576 → V.Fn Try.prog 4 avs .tt := by
  rintro _ _ ⟨x, _, _, rfl, rfl, rfl, rfl⟩ hb
  exact apart_fn _ _ _ _ (by have := sumL_len (fun x : ByteArray => x.size + 1) (fun _ => Nat.le_add_left _ _) x.row; simp only [bkTo] at hb; omega) (by have := sumL_len (fun _ : Bool => 1) (fun _ => Nat.le_refl _) x.has; simp only [bkTo] at hb; omega)
theorem contract (H : Type) (enc : TypeId × Value → H) (W : World) (base : Nat) (args : Array Value) (ds gs : List (DataW H)) (before : List MemPlace)
    (hval0 : ∀ (j : Nat) t v, Try.f4.params[j]? = some t → args[j]? = some v → Value.okWide Try.prog W .any base t v)
    (hW : DataW.Whole enc Try.prog Try.f4.params.toList Rows.baseApartSpec.vars false W args.toList ds gs before) (hk : Rows.uptoSmall H (ds ++ gs) = true) :
    Calls Try.prog 4 args W fun e W' => ∃ v, e = .returned v ∧ Rows.baseApartSpec.post enc Try.prog Try.f4 false true false false W args v W' := by
  have hW' := hW
  obtain ⟨p, q, hA0, hV, rfl, hfz, hnd⟩ := hW
  have hA : DataW.TrodAll enc Try.prog W 0 (fun _ => true) true Try.f4.params.toList args.toList ds p := hA0
  rw [Try.params4] at hA hval0
  have hval : ∀ (j : Nat) t v, ([26] : List TypeId)[j]? = some t → args[j]? = some v → Value.okWide Try.prog W .any base t v := fun j t v h1 h2 => hval0 j t v (by simpa using h1) h2
  replace hA : DataW.TrodAll enc Try.prog W 0 (fun _ => true) true [26] args.toList ds p := hA
  obtain ⟨_, _, d0, ds0, _, _, _, rfl, _, _, r0⟩ := trodAll_cons hA
  obtain ⟨_, rfl, _⟩ := trodAll_nil r0
  obtain ⟨rfl, rfl⟩ := trodVars_none hV
  have hB := of_decide_eq_true hk
  rw [List.append_nil] at hB
  refine (ArgsD.calls argsD calls enc W base args _ _ hval hA hB).mono fun e W' ⟨he, bel⟩ => ?_
  subst he
  exact ⟨_, rfl, _, _, _, [], _, [], hW', trodAll_mk1 (shut_bool (show Try.prog.underlying 4 = some .bool by kernel_rfl) _), stay laidOut bel (ts := [26]) (by decide +kernel) hA, rfl, bel.frame _, fun h => by cases h⟩
theorem lifted (os : Os) (started : os.Started) (H : Type) (enc : TypeId × Value → H) (F : Stop.Interp) :
    ReturnsInHanded {} Try.checked os 4 .any ((Rows.OpenSpec.upto Rows.baseApartSpec).pre6 enc Try.prog Try.f4 Rows.baseApartUptoRow.domain false) (((Rows.OpenSpec.upto Rows.baseApartSpec).at F).post enc Try.prog Try.f4 false true false false) := by
  refine returnsInHanded_of_cond (C := Try.checked) (s := Rows.OpenSpec.upto Rows.baseApartSpec) (k := Rows.uptoSmall) rfl own started (by kernel_rfl) Try.func4
    (OpenSpec.witness (enc := enc) (C := Try.checked) (s := Rows.OpenSpec.upto Rows.baseApartSpec) (k := Rows.uptoSmall) rfl false ⟨#[], #[.agg #[.slice none 0 0, .slice none 0 0, .slice none 0 0, .int .i64 0]], []⟩ 8 (by kernel_rfl) (by kernel_rfl) (by kernel_rfl)
      (x := ([.agg [.nil, .nil, .nil, .lit (.int .i64 0)]], [], [])) (by kernel_rfl) rfl (by kernel_rfl)) ?_
  intro W base args ds gs before hval hW _ hk _
  exact contract H enc W base args ds gs before hval hW hk
theorem over : Rows.baseApartUptoRow.holds Try.pinned (Rows.OpenSpec.upto Rows.baseApartSpec) :=
  OpenClaim.holds_of_cond 4 Try.f4 rfl rfl rfl rfl rfl rfl rfl ⟨rfl, rfl, rfl, rfl, rfl⟩ rfl rfl rfl rfl rfl (by kernel_rfl) Try.func4 (by kernel_rfl)
    (of_decide_eq_true (by kernel_rfl)) (by unfold Func.isWrapper; first | (rw [if_pos (by decide +kernel)]; kernel_rfl) | (rw [if_neg (by decide +kernel)]; exact ⟨rfl, rfl⟩))
    (fun os started H enc _ F => lifted os started H enc F)
end Go.Proofs.Ytjoecebimleoaaa.baseApart
namespace Go.Proofs.Ytjoecebimleoaaa
/-- The row. -/
theorem baseApart_holds : Rows.BaseApartUptoSaid := baseApart.over
end Go.Proofs.Ytjoecebimleoaaa

