/-
The rules again, going on by themselves.
-/
import Derived.Test.YtfodjmemdkibpaaDoorVn
namespace Go.Proofs.YtfodjmemdkibpaaDoor.V
open Go Go.RowKit
set_option linter.unusedSimpArgs false
set_option linter.unusedVariables false

section
variable {C : Ctx} {env : Env} {h : Heap}
theorem Run.go {k : List Item} (hx : aexec C 400 k env h) : Run C k env h := aexec_ok 400 hx

/-- The free statements, one by one; where the others begin, one goes on. -/
def aqS (C : Ctx) (h : Heap) (ops : Array Oper) (k : List Item) : List Oper → Nat → Env → Prop
  | [], _, env => aexec C 400 k env h
  | o :: rest, i, env => cond (allTail (o :: rest) i) (aexec C 400 (.inRegion ops (List.range' i (rest.length + 1)) :: k) env h) (withDst o fun dst => cond (okD C.N dst) (match o.guard with
      | none => aqStep C h o dst env (fun env' => aqS C h ops k rest (i + 1) env')
      | some (j, want) => match dstOf ops j with
        | some d => match env d with
          | .tt => cond want (aqStep C h o dst env (fun env' => aqS C h ops k rest (i + 1) env')) (aqS C h ops k rest (i + 1) (putE env dst .sk))
          | .ff => cond want (aqS C h ops k rest (i + 1) (putE env dst .sk)) (aqStep C h o dst env (fun env' => aqS C h ops k rest (i + 1) env'))
          | .bool b => AskB b (cond want (aqStep C h o dst (upd env d .tt) (fun env' => aqS C h ops k rest (i + 1) env')) (aqS C h ops k rest (i + 1) (putE (upd env d .tt) dst .sk)))
              (cond want (aqS C h ops k rest (i + 1) (putE (upd env d .ff) dst .sk)) (aqStep C h o dst (upd env d .ff) (fun env' => aqS C h ops k rest (i + 1) env')))
          | .sk => aqS C h ops k rest (i + 1) (putE env dst .sk)
          | _ => False
        | none => False) False)

theorem pfxOf_ge : ∀ (l : List Oper) (i : Nat), i ≤ pfxOf l i
  | [], i => Nat.le_refl _
  | o :: rest, i => by
    unfold pfxOf
    cases allTail (o :: rest) i with
    | true => exact Nat.le_refl _
    | false => exact Nat.le_trans (Nat.le_succ _) (pfxOf_ge rest (i + 1))

/-- Statements that make memory. -/
def memOp (o : Oper) : Bool := match o.op with
  | .buildSlice .. => true
  | .alloc .. => true
  | .box .. => true
  | .makeSlice .. => true
  | .makeMap .. => true
  | .makeFunc .. => true
  | .insert .. => true
  | .mapUpdate .. => true
  | .call c => (match c.callee with
    | .builtin .len => false
    | .builtin .unsafeSliceData => false
    | .builtin _ => true
    | _ => false)
  | _ => false
def storeOp (o : Oper) : Bool := match o.op with
  | .store .. => true
  | _ => memOp o
def drawStatX (ops : Array Oper) : Bool := drawStat ops && (ops.toList.take (pfxOf ops.toList 0)).all fun o => !storeOp o
theorem Run.drawX {id : Nat} {ops : Array Oper} {k : List Item} (hm : C.P.follows .mixedOrders = true) (hsx : drawStatX ops = true) (hq : aqS C h ops k ops.toList 0 env) :
    Run C (.code (.region id ops true) :: k) env h := by
  have hs : drawStat ops = true := by unfold drawStatX at hsx; rw [Bool.and_eq_true] at hsx; exact hsx.1
  refine Run.draw hm hs ?_
  have mono : ∀ (l : List Oper) (i : Nat) (env : Env), aqS C h ops k l i env → aq C h ops (l.take (pfxOf l i - i)) env (fun E => Run C (.inRegion ops (List.range' (pfxOf l i) (i + l.length - pfxOf l i)) :: k) E h) := by
    intro l
    induction l with
    | nil =>
      intro i env hq
      have e : i + ([] : List Oper).length - pfxOf [] i = 0 := by simp [pfxOf]
      rw [e, List.take_nil]
      show Run C (.inRegion ops [] :: k) env h
      exact Run.quiet (fun b a cs w => step_region_end) (aexec_ok 400 hq)
    | cons o rest ih =>
      intro i env hq
      unfold aqS at hq
      cases ht : allTail (o :: rest) i with
      | true =>
        rw [ht, cond_true] at hq
        have e1 : pfxOf (o :: rest) i = i := by unfold pfxOf; rw [ht]; rfl
        rw [e1, Nat.sub_self, Nat.add_sub_cancel_left]
        exact aexec_ok 400 hq
      | false =>
        rw [ht, cond_false] at hq
        have e1 : pfxOf (o :: rest) i = pfxOf rest (i + 1) := by rw [pfxOf, ht]; rfl
        have h1 := pfxOf_ge rest (i + 1)
        have e2 : pfxOf rest (i + 1) - i = (pfxOf rest (i + 1) - (i + 1)) + 1 := by omega
        have e3 : i + (o :: rest).length - pfxOf rest (i + 1) = i + 1 + rest.length - pfxOf rest (i + 1) := by rw [List.length_cons]; omega
        rw [e1, e2, e3, List.take_succ_cons]
        unfold aq
        rw [withDst_eq] at hq ⊢
        have hstep : ∀ env1, aqStep C h o o.dst env1 (fun env' => aqS C h ops k rest (i + 1) env') → aqStep C h o o.dst env1 (fun env' => aq C h ops (rest.take (pfxOf rest (i + 1) - (i + 1))) env' (fun E => Run C (.inRegion ops (List.range' (pfxOf rest (i + 1)) (i + 1 + rest.length - pfxOf rest (i + 1))) :: k) E h)) := by
          intro env1 hs
          unfold aqStep at hs ⊢
          split at hs
          · obtain ⟨x, h1, h2⟩ := hs.out
            exact ⟨x, ih _ _ h1, h2⟩
          · exact qop_mono (fun x hx => (fv_eq _ _).mpr (ih _ _ ((fv_eq _ _).mp hx))) hs
        cases hd : okD C.N o.dst with
        | false => rw [hd] at hq; exact hq
        | true =>
          rw [hd, cond_true] at hq
          rw [cond_true]
          cases hg : o.guard with
          | none => rw [hg] at hq; exact hstep _ hq
          | some jw =>
            obtain ⟨j, want⟩ := jw
            rw [hg] at hq
            simp only at hq ⊢
            cases hj : dstOf ops j with
            | none => rw [hj] at hq; exact hq.elim
            | some d =>
              rw [hj] at hq
              simp only at hq ⊢
              cases he : env d with
              | tt => rw [he] at hq; cases want <;> first | exact hstep _ hq | exact ih _ _ hq
              | ff => rw [he] at hq; cases want <;> first | exact hstep _ hq | exact ih _ _ hq
              | bool b =>
                rw [he] at hq
                refine ⟨fun hb => ?_, fun hb => ?_⟩
                · have := hq.t hb; cases want <;> first | exact hstep _ this | exact ih _ _ this
                · have := hq.f hb; cases want <;> first | exact hstep _ this | exact ih _ _ this
              | sk => rw [he] at hq; exact ih _ _ hq
              | _ => rw [he] at hq; exact hq.elim
  have := mono ops.toList 0 env hq
  have e4 : ops.toList.length = ops.size := Array.length_toList
  rw [Nat.zero_add, e4] at this
  exact this
where
  qop_mono {C : Ctx} {h : Heap} {o : Oper} {ρ : Operand → AV} {K K' : AV → Prop} {stop : Prop} (hK : ∀ x, K x → K' x) (hq : qop C o ρ h K stop) : qop C o ρ h K' stop := by
    have hK0 := hK
    unfold qop at hq ⊢
    split at hq <;> try exact hK _ hq
    · split at hq <;> first | exact hK _ hq | exact ⟨fun hb => hK _ (hq.t hb), fun hb => hK _ (hq.f hb)⟩ | exact hq
    · unfold abuild at hq ⊢; split at hq
      · split at hq
        · exact force_mono (fun x => hK _) hq
        · exact hq
      · exact hq
    · unfold aload at hq ⊢; split at hq
      · refine force_mono (fun s hs => ?_) hq
        cases hb : Nat.ble s _ with
        | true => rw [hb] at hs; exact hK _ hs
        | false => rw [hb] at hs; exact hs
      · cases hb : Nat.blt 0 _ with
        | true => rw [hb] at hq; exact hK _ hq
        | false => rw [hb] at hq; exact hq
      · exact hq
    · split at hq <;> first | exact hK _ hq | exact hq
    · have hab : ∀ {op x y}, abin op x y K stop → abin op x y K' stop := by
        intro op x y hab
        unfold abin at hab ⊢
        split at hab
        · split at hab
          · exact ⟨hab.l, hK _ hab.r⟩
          · exact ⟨hab.l, hK _ hab.r⟩
          · split at hab
            · rename_i he
              subst he
              simp only [if_true]
              split at hab <;> first | exact hK _ hab | exact ⟨hab.l, hK _ hab.r⟩ | exact hab
            · rename_i he
              rw [if_neg he]; exact hab
        · split at hab <;> first | exact hK _ hab | exact ⟨hab.l, hK _ hab.r⟩ | exact hab
        · split at hab <;> first | exact hK _ hab | exact hab
      split at hq
      · exact hK _ hq
      split at hq
      · cases hb : boolTy C.T _ with
        | true => rw [hb] at hq; exact hab hq
        | false => rw [hb] at hq; exact hq
      · exact hab hq
    · unfold aun at hq ⊢; split at hq <;> first | exact hK _ hq | exact hq
    · unfold aconvert at hq ⊢; split at hq <;> first | exact hK _ hq | exact hq
    · unfold aslice at hq ⊢; split at hq
      · split at hq <;> first | exact hK _ hq | exact ⟨hq.l, hK _ hq.r⟩ | exact hq
      · split at hq
        · cases hb : Nat.beq _ _ with
          | true => rw [hb, cond_true] at hq; rw [cond_true]; split at hq <;> first | exact hK _ hq | exact ⟨hq.l, hK _ hq.r⟩ | exact hq
          | false => rw [hb] at hq; exact hq
        · exact hq
      · exact hq
    · unfold afieldAddr at hq ⊢; split at hq
      · split at hq
        · cases hb : Nat.blt 0 _ with
          | true =>
            rw [hb, cond_true] at hq; rw [cond_true]
            refine force_mono (fun s hs => ?_) hq
            split at hs <;> first | exact hK _ hs | exact hs
          | false => rw [hb] at hq; exact hq
        · exact hq
      · exact hq
    · unfold afield at hq ⊢; split at hq
      · exact force_mono (fun s hs => apart_mono hK hs) hq
      · exact hq
    · unfold aindexAddr at hq ⊢; split at hq
      · split at hq
        · split at hq
          · cases hb : Nat.beq _ _ with
            | true => rw [hb, cond_true] at hq; exact ⟨hq.l, hK _ hq.r⟩
            | false => rw [hb] at hq; exact hq
          · split at hq
            · cases hb : Nat.beq _ _ with
              | true => rw [hb, cond_true] at hq; exact ⟨hq.l, hK _ hq.r⟩
              | false => rw [hb] at hq; exact hq
            · cases hb : Nat.beq _ _ with
              | true => rw [hb, cond_true] at hq; exact ⟨hq.l, hK _ hq.r⟩
              | false => rw [hb] at hq; exact hq
            · exact hq
          · split at hq
            · cases hb : Nat.beq _ _ with
              | true => rw [hb, cond_true] at hq; exact ⟨hq.l, hK _ hq.r⟩
              | false => rw [hb] at hq; exact hq
            · exact hq
          · exact hq
        · exact hq
      · split at hq
        · split at hq
          · cases hb : Nat.beq _ _ with
            | true => rw [hb, cond_true] at hq; exact ⟨hq.l, force_mono (fun x => hK _) hq.r⟩
            | false => rw [hb] at hq; exact hq
          · exact ⟨hq.l, force_mono (fun x => hK _) hq.r⟩
          · exact hq
        · exact hq
      · exact hq
    · unfold aindex at hq ⊢; split at hq
      · exact ⟨hq.l, hK _ hq.r⟩
      · split at hq
        · cases hb : Nat.beq _ _ with
          | true => rw [hb, cond_true] at hq; exact ⟨hq.l, apart_mono hK hq.r⟩
          | false => rw [hb] at hq; exact hq
        · exact hq
      · exact hq
    · unfold aextract at hq ⊢; split at hq
      · cases hb : Nat.blt _ _ with
        | true => rw [hb] at hq; exact hK _ hq
        | false => rw [hb] at hq; exact hq
      · exact hq
    · exact alookup_mono hK hq
    · split at hq
      · unfold alen at hq ⊢; split at hq
        · exact ⟨fun hp => hK _ (hq.h hp)⟩
        · exact ⟨fun hp => hK _ (hq.h hp)⟩
        · exact hK _ hq
        · split at hq
          · exact ⟨fun hp => hK _ (hq.h hp)⟩
          · exact ⟨fun hp => hK _ (hq.h hp)⟩
          · exact hq
        · split at hq
          · exact ⟨fun hp => hK _ (hq.h hp)⟩
          · exact hq
        · split at hq
          · exact hK _ hq
          · exact hq
        · exact hq
      · unfold asliceData at hq ⊢; split at hq
        · exact hK _ hq
        · split at hq
          · exact ⟨fun hb => hK _ (hq.t hb), fun hb => hK _ (hq.f hb)⟩
          · exact hq
        · exact hq
      · exact hq
    · exact hq
  alookup_mono {T : TT} {h : Heap} {t : TypeId} {x k : AV} {c : Bool} {K K' : AV → Prop} {stop : Prop} (hK : ∀ x, K x → K' x) (hq : alookup T h t x k c K stop) : alookup T h t x k c K' stop := by
    cases c <;>
    · unfold alookup at hq ⊢
      split at hq
      · split at hq
        all_goals first
          | exact hq
          | (split at hq
             · cases h1 : T.one _ with
               | false => rw [h1] at hq; exact hq
               | true =>
                 rw [h1, cond_true] at hq
                 rw [cond_true]
                 exact hK _ hq
             · exact hq)
      · exact hq
  force_mono {s : Nat} {K K' : Nat → Prop} {stop : Prop} (hK : ∀ x, K x → K' x) (hq : force s K stop) : force s K' stop := by
    unfold force at hq ⊢
    split at hq <;> first | exact hK _ hq | exact hq
  apart_mono {P : TT} {t : TypeId} {n : Nat} {get : Nat → AV} {o : Nat} {K K' : AV → Prop} {stop : Prop} (hK : ∀ x, K x → K' x) (hq : apart P t n get o K stop) : apart P t n get o K' stop := by
    unfold apart at hq ⊢
    split at hq
    · refine force_mono (fun s hs => ?_) hq
      cases hb : Nat.ble _ n with
      | true => rw [hb] at hs; exact hK _ hs
      | false => rw [hb] at hs; exact hs
    · cases hb : Nat.blt o n with
      | true => rw [hb] at hq; exact hK _ hq
      | false => rw [hb] at hq; exact hq
    · exact hq

/-- Calls, going on. -/
theorem Run.callAX {ops : Array Oper} {i : Nat} {rest : List Nat} {k : List Item} {o : Oper} {f : FuncId} {xs : List Operand} {args : List AV} {r : AV} (hfn : Fn C.P f args r) (ho : ops.toList[i]? = some o) (hc : calls? o = some (f, xs))
    (hargs : ArgsLe (xs.map (fun x => bor h (ev env x))) args) (hd : okD C.N o.dst = true) (hr : ready env ops o = true) (hflat : flat r = true)
    (next : aexec C 400 (.inRegion ops rest :: k) (putE env o.dst r) h) : Run C (.inRegion ops (i :: rest) :: k) env h := Run.callA hfn ho hc hargs hd hr hflat (aexec_ok 400 next)
theorem Run.callBX {ops : Array Oper} {i : Nat} {rest : List Nat} {k : List Item} {o : Oper} {f : FuncId} {xs : List Operand} {args : List AV} {r : AV} (hfn : Fn C.P f args r) (ho : ops.toList[i]? = some o) (hc : calls? o = some (f, xs))
    (hargs : ArgsLe (xs.map (ev env)) args) (himm : args.all imm = true) (hd : okD C.N o.dst = true) (hr : ready env ops o = true)
    (next : aexec C 400 (.inRegion ops rest :: k) (putE env o.dst r) h) : Run C (.inRegion ops (i :: rest) :: k) env h := Run.callB hfn ho hc hargs himm hd hr (aexec_ok 400 next)
end

end Go.Proofs.YtfodjmemdkibpaaDoor.V
