/-
AppPrints: for every input of bulk at most 1048576 the law returns true; each argument reads behind the call as it read before; the tables that the row lists are tied to the program's text.
-/
import Derived.Test.YteklnpgiloebcaaDoorQAP4
import Derived.WalkKit
import Derived.OpenShut
import Derived.ShutString
import Derived.ChangeOld
import Derived.Below
import Derived.SizedLaws
import Derived.JoinedCond
namespace Go.Proofs.YteklnpgiloebcaaDoor.appPrints
open Go Go.Proofs Go.ChangeShapes Go.WideShapes Go.ChangeAt Go.RowKit Go.Proofs.YteklnpgiloebcaaDoor.V
set_option linter.unusedVariables false
set_option maxRecDepth 100000
def G (avs : List AV) (b : Nat) : Prop := ∃ (x0 : List En) (avs0 : List AV) (b0 : Nat), avs = tEn.L x0 :: avs0 ∧ b = (sumL bkEn x0 + 1) + b0 ∧ ∃ (x1 : List ByteArray) (avs1 : List AV) (b1 : Nat), avs0 = tS.L x1 :: avs1 ∧ b0 = (sumL (fun x : ByteArray => x.size + 1) x1 + 1) + b1 ∧ ∃ (x2 : Int) (avs2 : List AV) (b2 : Nat), avs1 = .int .i64 x2 :: avs2 ∧ b1 = 1 + b2 ∧ avs2 = [] ∧ b2 = 0
theorem argsD : ArgsD Tryd.prog [22, 23, 3] G := ArgsD.cons argEn (ArgsD.cons argTs (ArgsD.cons (Arg.int (by kernel_rfl) (by kernel_rfl)) ArgsD.nil))
theorem calls : ∀ avs b, G avs b → b ≤ 1048576 → V.Fn Tryd.prog 3 avs .tt := by
  rintro _ _ ⟨x0, _, _, rfl, rfl, x1, _, _, rfl, rfl, x2, _, _, rfl, rfl, rfl, rfl⟩ hb
  exact (appPrints_fn x0 x1 x2 (by omega))
theorem contract (H : Type) (enc : TypeId × Value → H) (W : World) (base : Nat) (args : Array Value) (ds gs : List (DataW H)) (before : List MemPlace)
    (hval0 : ∀ (j : Nat) t v, Tryd.f3.params[j]? = some t → args[j]? = some v → Value.okWide Tryd.prog W .any base t v)
    (hW : DataW.Whole enc Tryd.prog Tryd.f3.params.toList Rows.appPrintsSpec.vars false W args.toList ds gs before) (hk : Rows.uptoSmall H (ds ++ gs) = true) (hL : laidMetH Tryd.prog Rows.appPrintsUptoRow.laid W) :
    Calls Tryd.prog 3 args W fun e W' => ∃ v, e = .returned v ∧ Rows.appPrintsSpec.post enc Tryd.prog Tryd.f3 false true false false W args v W' := by
  have hW' := hW
  obtain ⟨p, q, hA0, hV, rfl, hfz, hnd⟩ := hW
  have hA : DataW.TrodAll enc Tryd.prog W 0 (fun _ => true) true Tryd.f3.params.toList args.toList ds p := hA0
  rw [Tryd.params3] at hA hval0
  have hval : ∀ (j : Nat) t v, ([22, 23, 3] : List TypeId)[j]? = some t → args[j]? = some v → Value.okWide Tryd.prog W .any base t v := fun j t v h1 h2 => hval0 j t v (by simpa using h1) h2
  replace hA : DataW.TrodAll enc Tryd.prog W 0 (fun _ => true) true [22, 23, 3] args.toList ds p := hA
  obtain ⟨_, _, d0, ds0, _, _, _, rfl, _, _, r0⟩ := trodAll_cons hA
  obtain ⟨_, _, d1, ds1, _, _, _, rfl, _, _, r1⟩ := trodAll_cons r0
  obtain ⟨_, _, d2, ds2, _, _, _, rfl, _, _, r2⟩ := trodAll_cons r1
  obtain ⟨_, rfl, _⟩ := trodAll_nil r2
  obtain ⟨rfl, rfl⟩ := trodVars_none hV
  have hB := of_decide_eq_true hk
  rw [List.append_nil] at hB
  refine (ArgsD.calls argsD calls enc W base args _ _ (globs (tabs hL)) hval hA hB).mono fun e W' ⟨he, bel⟩ => ?_
  subst he
  exact ⟨_, rfl, _, _, _, [], _, [], hW', trodAll_mk1 (shut_bool (show Tryd.prog.underlying 4 = some .bool by kernel_rfl) _), stay laidOut bel (ts := [22, 23, 3]) (by decide +kernel) hA, rfl, bel.frame _, fun h => by cases h⟩
theorem reads (os : Os) {H : Type} (enc : TypeId × Value → H) : (DataW.whole enc Tryd.prog ((laidWorld os).forCall (fun _ _ => 0) ⟨#[], #[.slice none 0 0, .slice none 0 0, .int .i64 0], []⟩).memory Tryd.f3.params.toList Rows.appPrintsSpec.vars false (#[.slice none 0 0, .slice none 0 0, .int .i64 0] : Array Value).toList 8).map (fun x => (x.1, x.2.1)) = some ([.nil, .nil, .lit (.int .i64 0)], []) := by kernel_rfl
theorem lifted (os : Os) (started : os.Started) (H : Type) (enc : TypeId × Value → H) (F : Stop.Interp) :
    ReturnsInHanded {} Tryd.checked os 3 .any ((Rows.OpenSpec.upto Rows.appPrintsSpec).preRow enc Tryd.prog Tryd.f3 Rows.appPrintsUptoRow.domain false Rows.appPrintsUptoRow.laid) (((Rows.OpenSpec.upto Rows.appPrintsSpec).at F).post enc Tryd.prog Tryd.f3 false true false false) := by
  obtain ⟨⟨x1, x2, x3⟩, hx, hx1⟩ := Option.map_eq_some_iff.1 (reads os enc)
  simp only [Prod.mk.injEq] at hx1
  obtain ⟨rfl, rfl⟩ := hx1
  refine returnsInHanded_of_row (C := Tryd.checked) (s := Rows.OpenSpec.upto Rows.appPrintsSpec) own started (by kernel_rfl) Tryd.func3
    (witness_row_atRef (enc := enc) (C := Tryd.checked) false (laidWorld os) #[.slice none 0 0, .slice none 0 0, .int .i64 0] (laidWorld_os os) (by kernel_rfl) (by kernel_rfl) (by kernel_rfl)
      (OpenSpec.preRow_of_cond 8 hx (by kernel_rfl) (fun k hk => by cases hk; kernel_rfl) (by kernel_rfl) (laid_met os _))) ?_
  intro W base args ds gs before hval hW _ hcond _ hL _ _
  exact contract H enc W base args ds gs before hval hW (hcond _ rfl) hL
theorem said : Rows.AppPrintsUptoSaid :=
  OpenClaim.holds_of_cond 3 Tryd.f3 rfl rfl rfl rfl rfl rfl rfl ⟨rfl, rfl, rfl, rfl, rfl⟩ rfl rfl rfl rfl rfl (by kernel_rfl) Tryd.func3 (by kernel_rfl)
    (of_decide_eq_true (by kernel_rfl)) (by unfold Func.isWrapper; first | (rw [if_pos (by decide +kernel)]; kernel_rfl) | (rw [if_neg (by decide +kernel)]; exact ⟨rfl, rfl⟩))
    (fun os started H enc _ F => by rw [OpenClaim.pre_eq_preRow]; exact lifted os started H enc F)
theorem plain (f : FuncId) (fn : Func) (hf : Tryd.pinned.checked.prog.funcNamed "siglum/siglumlaw17.AppPrints" = some f) (hfn : Tryd.pinned.checked.prog.funcs[f]? = some fn) :
    true = Tryd.pinned.checked.prog.looks [] ∧ ∀ (j : Nat) t, fn.params[j]? = some t → Tryd.pinned.checked.prog.wantsStandIn t = false := by
  obtain rfl : f = 3 := Option.some.inj ((show Tryd.prog.funcNamed "siglum/siglumlaw17.AppPrints" = some 3 by kernel_rfl).symm.trans hf) |>.symm
  obtain rfl : fn = Tryd.f3 := (Option.some.inj (Tryd.func3.symm.trans hfn)).symm
  refine ⟨by kernel_rfl, fun j t ht => ?_⟩
  rw [Tryd.params3] at ht
  have ht2 : t ∈ ([3, 22, 23] : List Nat) := by
    have := Array.mem_of_getElem? ht
    simp at this
    first | (simp; omega) | (rcases this with rfl | rfl <;> simp) | (rcases this with rfl | rfl | rfl <;> simp)
  exact of_decide_eq_true (List.all_eq_true.mp (show ([3, 22, 23] : List Nat).all (fun t => decide (Tryd.prog.wantsStandIn t = false)) = true by decide +kernel) t ht2)
end Go.Proofs.YteklnpgiloebcaaDoor.appPrints
namespace Go.Proofs.YteklnpgiloebcaaDoor
/-- The tied card. -/
theorem appPrints_holds : Rows.AppPrintsUptoCardSaid :=
  Claim7.holds_tied_plain_at .later [] _ _ _ _ appPrints.said (fun _ h => by cases h) (by kernel_rfl) (fun _ h => by cases h) appPrintsUpto_row_tie rfl ⟨rfl, rfl⟩ (by kernel_rfl) rfl appPrints.plain (by kernel_rfl)
end Go.Proofs.YteklnpgiloebcaaDoor

