/-
AppSites: for every input of bulk at most 1048576 the law returns true; each argument reads behind the call as it read before; the tables that the row lists are tied to the program's text.
-/
import Derived.Test.YteklnpgiloebcaaGreatDoorQAo5
import Derived.WalkKit
import Derived.OpenShut
import Derived.ShutString
import Derived.ChangeOld
import Derived.Below
import Derived.SizedLaws
import Derived.JoinedCond
namespace Go.Proofs.YteklnpgiloebcaaGreatDoor.appSites
open Go Go.Proofs Go.ChangeShapes Go.WideShapes Go.ChangeAt Go.RowKit Go.Proofs.YteklnpgiloebcaaGreatDoor.V
set_option linter.unusedVariables false
set_option maxRecDepth 100000
def G (avs : List AV) (b : Nat) : Prop := ∃ (x0 : Tab) (avs0 : List AV) (b0 : Nat), avs = tbA x0 :: avs0 ∧ b = bkTab x0 + b0 ∧ avs0 = [] ∧ b0 = 0
theorem argsD : ArgsD Tryz.prog [35] G := ArgsD.cons argTab ArgsD.nil
theorem calls : ∀ avs b, G avs b → b ≤ 1048576 → V.Fn Tryz.prog 7 avs .tt := by
  rintro _ _ ⟨x0, _, _, rfl, rfl, rfl, rfl⟩ hb
  exact appSites_fn x0 (fitT_of (n := 1048576) (by omega) (Nat.le_refl _))
theorem contract (H : Type) (enc : TypeId × Value → H) (W : World) (base : Nat) (args : Array Value) (ds gs : List (DataW H)) (before : List MemPlace)
    (hval0 : ∀ (j : Nat) t v, Tryz.f7.params[j]? = some t → args[j]? = some v → Value.okWide Tryz.prog W .any base t v)
    (hW : DataW.Whole enc Tryz.prog Tryz.f7.params.toList Rows.appSitesSpec.vars false W args.toList ds gs before) (hk : Rows.uptoSmall H (ds ++ gs) = true) (hL : laidMetH Tryz.prog Rows.appSitesUptoRow.laid W) :
    Calls Tryz.prog 7 args W fun e W' => ∃ v, e = .returned v ∧ Rows.appSitesSpec.post enc Tryz.prog Tryz.f7 false true false false W args v W' := by
  have hW' := hW
  obtain ⟨p, q, hA0, hV, rfl, hfz, hnd⟩ := hW
  have hA : DataW.TrodAll enc Tryz.prog W 0 (fun _ => true) true Tryz.f7.params.toList args.toList ds p := hA0
  rw [Tryz.params7] at hA hval0
  have hval : ∀ (j : Nat) t v, ([35] : List TypeId)[j]? = some t → args[j]? = some v → Value.okWide Tryz.prog W .any base t v := fun j t v h1 h2 => hval0 j t v (by simpa using h1) h2
  replace hA : DataW.TrodAll enc Tryz.prog W 0 (fun _ => true) true [35] args.toList ds p := hA
  obtain ⟨_, _, d0, ds0, _, _, _, rfl, _, _, r0⟩ := trodAll_cons hA
  obtain ⟨_, rfl, _⟩ := trodAll_nil r0
  obtain ⟨rfl, rfl⟩ := trodVars_none hV
  have hB := of_decide_eq_true hk
  rw [List.append_nil] at hB
  refine (ArgsD.calls argsD calls enc W base args _ _ (globs (tabs hL)) hval hA hB).mono fun e W' ⟨he, bel⟩ => ?_
  subst he
  exact ⟨_, rfl, _, _, _, [], _, [], hW', trodAll_mk1 (shut_bool (show Tryz.prog.underlying 4 = some .bool by kernel_rfl) _), stay laidOut bel (ts := [35]) (by decide +kernel) hA, rfl, bel.frame _, fun h => by cases h⟩
theorem reads (os : Os) {H : Type} (enc : TypeId × Value → H) : (DataW.whole enc Tryz.prog ((laidWorld os).forCall (fun _ _ => 0) ⟨#[], #[.agg #[.slice none 0 0, .slice none 0 0]], []⟩).memory Tryz.f7.params.toList Rows.appSitesSpec.vars false (#[.agg #[.slice none 0 0, .slice none 0 0]] : Array Value).toList 8).map (fun x => (x.1, x.2.1)) = some ([.agg [.nil, .nil]], []) := by kernel_rfl
theorem lifted (os : Os) (started : os.Started) (H : Type) (enc : TypeId × Value → H) (F : Stop.Interp) :
    ReturnsInHanded {} Tryz.checked os 7 .any ((Rows.OpenSpec.upto Rows.appSitesSpec).preRow enc Tryz.prog Tryz.f7 Rows.appSitesUptoRow.domain false Rows.appSitesUptoRow.laid) (((Rows.OpenSpec.upto Rows.appSitesSpec).at F).post enc Tryz.prog Tryz.f7 false true false false) := by
  obtain ⟨⟨x1, x2, x3⟩, hx, hx1⟩ := Option.map_eq_some_iff.1 (reads os enc)
  simp only [Prod.mk.injEq] at hx1
  obtain ⟨rfl, rfl⟩ := hx1
  refine returnsInHanded_of_row (C := Tryz.checked) (s := Rows.OpenSpec.upto Rows.appSitesSpec) own started (by kernel_rfl) Tryz.func7
    (witness_row_atRef (enc := enc) (C := Tryz.checked) false (laidWorld os) #[.agg #[.slice none 0 0, .slice none 0 0]] (laidWorld_os os) (by kernel_rfl) (by kernel_rfl) (by kernel_rfl)
      (OpenSpec.preRow_of_cond 8 hx (by kernel_rfl) (fun k hk => by cases hk; kernel_rfl) (by kernel_rfl) (laid_met os _))) ?_
  intro W base args ds gs before hval hW _ hcond _ hL _ _
  exact contract H enc W base args ds gs before hval hW (hcond _ rfl) hL
theorem said : Rows.AppSitesUptoSaid :=
  OpenClaim.holds_of_cond 7 Tryz.f7 rfl rfl rfl rfl rfl rfl rfl ⟨rfl, rfl, rfl, rfl, rfl⟩ rfl rfl rfl rfl rfl (by kernel_rfl) Tryz.func7 (by kernel_rfl)
    (of_decide_eq_true (by kernel_rfl)) (by unfold Func.isWrapper; first | (rw [if_pos (by decide +kernel)]; kernel_rfl) | (rw [if_neg (by decide +kernel)]; exact ⟨rfl, rfl⟩))
    (fun os started H enc _ F => by rw [OpenClaim.pre_eq_preRow]; exact lifted os started H enc F)
theorem plain (f : FuncId) (fn : Func) (hf : Tryz.pinned.checked.prog.funcNamed "siglum/siglumlaw17.AppSites" = some f) (hfn : Tryz.pinned.checked.prog.funcs[f]? = some fn) :
    true = Tryz.pinned.checked.prog.looks [] ∧ ∀ (j : Nat) t, fn.params[j]? = some t → Tryz.pinned.checked.prog.wantsStandIn t = false := by
  obtain rfl : f = 7 := Option.some.inj ((show Tryz.prog.funcNamed "siglum/siglumlaw17.AppSites" = some 7 by kernel_rfl).symm.trans hf) |>.symm
  obtain rfl : fn = Tryz.f7 := (Option.some.inj (Tryz.func7.symm.trans hfn)).symm
  refine ⟨by kernel_rfl, fun j t ht => ?_⟩
  rw [Tryz.params7] at ht
  have ht2 : t ∈ ([35] : List Nat) := by
    have := Array.mem_of_getElem? ht
    simp at this
    first | (simp; omega) | (rcases this with rfl | rfl <;> simp) | (rcases this with rfl | rfl | rfl <;> simp)
  exact of_decide_eq_true (List.all_eq_true.mp (show ([35] : List Nat).all (fun t => decide (Tryz.prog.wantsStandIn t = false)) = true by decide +kernel) t ht2)
end Go.Proofs.YteklnpgiloebcaaGreatDoor.appSites
namespace Go.Proofs.YteklnpgiloebcaaGreatDoor
/-- The tied card. -/
theorem appSites_holds : Rows.AppSitesUptoCardSaid :=
  Claim7.holds_tied_plain_at .later [] _ _ _ _ appSites.said (fun _ h => by cases h) (by kernel_rfl) (fun _ h => by cases h) appSitesUpto_row_tie rfl ⟨rfl, rfl⟩ (by kernel_rfl) rfl appSites.plain (by kernel_rfl)
end Go.Proofs.YteklnpgiloebcaaGreatDoor

