/-
MatrixBack: for every input the law returns true; each argument reads behind the call as it read before; the tables that the row lists are tied to the program's text.
-/
import Derived.Test.YtnadacaoehpdnaaDoorWo
import Derived.Test.YtnadacaoehpdnaaDoorWp0
import Derived.WalkKit
import Derived.OpenShut
import Derived.ShutString
import Derived.ChangeOld
import Derived.Below
import Derived.SizedLaws
import Derived.JoinedCond
namespace Go.Proofs.YtnadacaoehpdnaaDoor.matrixBack
open Go Go.Proofs Go.ChangeShapes Go.WideShapes Go.ChangeAt Go.RowKit Go.Proofs.YtnadacaoehpdnaaDoor.V
set_option linter.unusedVariables false
set_option maxRecDepth 100000
def G (avs : List AV) (b : Nat) : Prop := ∃ (m : List (List Int)) (avs' : List AV) (b' : Nat), avs = mxA m :: avs' ∧ b = bkMx m + b' ∧ ∃ (s : ByteArray) (avs2 : List AV) (b2 : Nat), avs' = .str s :: avs2 ∧ b' = (s.size + 1) + b2 ∧ avs2 = [] ∧ b2 = 0
theorem argsD : ArgsD Tryd.prog [59, 9] G := ArgsD.cons argMx (ArgsD.cons (Arg.str (by kernel_rfl) (by kernel_rfl)) ArgsD.nil)
theorem calls : ∀ avs b, G avs b → V.Fn Tryd.prog 9 avs .tt := by
  rintro _ _ ⟨m, _, _, rfl, rfl, s, _, _, rfl, rfl, rfl, rfl⟩
  exact law9_fn m s
theorem contract (H : Type) (enc : TypeId × Value → H) (W : World) (base : Nat) (args : Array Value) (ds gs : List (DataW H)) (before : List MemPlace)
    (hval0 : ∀ (j : Nat) t v, Tryd.f9.params[j]? = some t → args[j]? = some v → Value.okWide Tryd.prog W .any base t v)
    (hW : DataW.Whole enc Tryd.prog Tryd.f9.params.toList Rows.matrixBackSpec.vars false W args.toList ds gs before) (hL : laidMetH Tryd.prog Rows.matrixBackRow.laid W) :
    Calls Tryd.prog 9 args W fun e W' => ∃ v, e = .returned v ∧ Rows.matrixBackSpec.post enc Tryd.prog Tryd.f9 false true false false W args v W' := by
  have hW' := hW
  obtain ⟨p, q, hA0, hV, rfl, hfz, hnd⟩ := hW
  have hA : DataW.TrodAll enc Tryd.prog W 0 (fun _ => true) true Tryd.f9.params.toList args.toList ds p := hA0
  rw [Tryd.params9] at hA hval0
  have hval : ∀ (j : Nat) t v, ([59, 9] : List TypeId)[j]? = some t → args[j]? = some v → Value.okWide Tryd.prog W .any base t v := fun j t v h1 h2 => hval0 j t v (by simpa using h1) h2
  replace hA : DataW.TrodAll enc Tryd.prog W 0 (fun _ => true) true [59, 9] args.toList ds p := hA
  obtain ⟨_, _, d0, ds0, _, _, _, rfl, _, _, r0⟩ := trodAll_cons hA
  obtain ⟨_, _, d1, ds1, _, _, _, rfl, _, _, r1⟩ := trodAll_cons r0
  obtain ⟨_, rfl, _⟩ := trodAll_nil r1
  obtain ⟨rfl, rfl⟩ := trodVars_none hV
  refine (ArgsD.callsAny argsD calls enc W base args _ _ (globs) hval hA).mono fun e W' ⟨he, bel⟩ => ?_
  subst he
  exact ⟨_, rfl, _, _, _, [], _, [], hW', trodAll_mk1 (shut_bool (show Tryd.prog.underlying 4 = some .bool by kernel_rfl) _), stay laidOut bel (ts := [59, 9]) (by decide +kernel) hA, rfl, bel.frame _, fun h => by cases h⟩
theorem reads (os : Os) {H : Type} (enc : TypeId × Value → H) : (DataW.whole enc Tryd.prog ((laidWorld os).forCall (fun _ _ => 0) ⟨#[], #[.agg #[.slice none 0 0], .string ⟨#[]⟩], []⟩).memory Tryd.f9.params.toList Rows.matrixBackSpec.vars false (#[.agg #[.slice none 0 0], .string ⟨#[]⟩] : Array Value).toList 8).map (fun x => (x.1, x.2.1)) = some ([.agg [.nil], .lit (.string [])], []) := by kernel_rfl
theorem lifted (os : Os) (started : os.Started) (H : Type) (enc : TypeId × Value → H) (F : Stop.Interp) :
    ReturnsInHanded {} Tryd.checked os 9 .any ((OpenSpec.ofChange Rows.matrixBackSpec).preRow enc Tryd.prog Tryd.f9 Rows.matrixBackRow.domain false Rows.matrixBackRow.laid) (((OpenSpec.ofChange Rows.matrixBackSpec).at F).post enc Tryd.prog Tryd.f9 false true false false) := by
  obtain ⟨⟨x1, x2, x3⟩, hx, hx1⟩ := Option.map_eq_some_iff.1 (reads os enc)
  simp only [Prod.mk.injEq] at hx1
  obtain ⟨rfl, rfl⟩ := hx1
  refine returnsInHanded_of_row (C := Tryd.checked) (s := OpenSpec.ofChange Rows.matrixBackSpec) own started (by kernel_rfl) Tryd.func9
    (witness_row_at (enc := enc) (C := Tryd.checked) false (laidWorld os) #[.agg #[.slice none 0 0], .string ⟨#[]⟩] rfl (by kernel_rfl) (by kernel_rfl) (by kernel_rfl)
      (OpenSpec.preRow_of_cond 8 hx (by kernel_rfl) (fun k hk => by cases hk) (by kernel_rfl) (laid_met os _))) ?_
  intro W base args ds gs before hval hW _ _ _ hL _ _
  exact contract H enc W base args ds gs before hval hW hL
theorem said : Rows.MatrixBackSaid :=
  OpenClaim.holds_of_cond 9 Tryd.f9 rfl rfl rfl rfl rfl rfl rfl ⟨rfl, rfl, rfl, rfl, rfl⟩ rfl rfl rfl rfl rfl (by kernel_rfl) Tryd.func9 (by kernel_rfl)
    (of_decide_eq_true (by kernel_rfl)) (by unfold Func.isWrapper; first | (rw [if_pos (by decide +kernel)]; kernel_rfl) | (rw [if_neg (by decide +kernel)]; exact ⟨rfl, rfl⟩))
    (fun os started H enc _ F => by rw [OpenClaim.pre_eq_preRow]; exact lifted os started H enc F)
theorem plain (f : FuncId) (fn : Func) (hf : Tryd.pinned.checked.prog.funcNamed "siglum/siglumlaw19.MatrixBack" = some f) (hfn : Tryd.pinned.checked.prog.funcs[f]? = some fn) :
    false = Tryd.pinned.checked.prog.looks [] ∧ ∀ (j : Nat) t, fn.params[j]? = some t → Tryd.pinned.checked.prog.wantsStandIn t = false := by
  obtain rfl : f = 9 := Option.some.inj ((show Tryd.prog.funcNamed "siglum/siglumlaw19.MatrixBack" = some 9 by kernel_rfl).symm.trans hf) |>.symm
  obtain rfl : fn = Tryd.f9 := (Option.some.inj (Tryd.func9.symm.trans hfn)).symm
  refine ⟨by kernel_rfl, fun j t ht => ?_⟩
  rw [Tryd.params9] at ht
  have ht2 : t ∈ ([9, 59] : List Nat) := by
    have := Array.mem_of_getElem? ht
    simp at this
    first | (simp; omega) | (rcases this with rfl | rfl <;> simp) | (rcases this with rfl | rfl | rfl <;> simp)
  exact of_decide_eq_true (List.all_eq_true.mp (show ([9, 59] : List Nat).all (fun t => decide (Tryd.prog.wantsStandIn t = false)) = true by decide +kernel) t ht2)
end Go.Proofs.YtnadacaoehpdnaaDoor.matrixBack
namespace Go.Proofs.YtnadacaoehpdnaaDoor
/-- The tied card. -/
theorem matrixBack_holds : Rows.MatrixBackCardSaid :=
  Claim7.holds_tied_plain_at .later [] _ _ _ _ matrixBack.said (fun _ h => by cases h) (by kernel_rfl) (fun _ h => by cases h) matrixBack_row_tie rfl ⟨rfl, rfl⟩ (by kernel_rfl) rfl matrixBack.plain (by kernel_rfl)
end Go.Proofs.YtnadacaoehpdnaaDoor

