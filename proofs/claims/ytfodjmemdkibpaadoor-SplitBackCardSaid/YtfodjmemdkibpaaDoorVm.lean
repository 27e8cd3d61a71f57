/-
Statements whose order Go leaves open: operations that only look, done in any order.
-/
import Derived.Test.YtfodjmemdkibpaaDoorVl
namespace Go.Proofs.YtfodjmemdkibpaaDoor.V
open Go Go.RowKit
set_option linter.unusedSimpArgs false
set_option linter.unusedVariables false

/-- What an evaluation says, it says to whoever asks. -/
def Par (F : (AV → Prop) → Prop → Prop) (K : AV → Prop) (stop : Prop) : Prop := stop ∨ ∃ y, K y ∧ ∀ K' : AV → Prop, K' y → F K' False

section
variable {P : TT} {h : Heap} {K : AV → Prop} {stop : Prop}
theorem force_par {s : Nat} {K : Nat → Prop} {stop : Prop} (hk : force s K stop) : stop ∨ (K s ∧ ∀ (K' : Nat → Prop) (stop' : Prop), K' s → force s K' stop') := by
  unfold force at hk
  split at hk <;> first | exact .inr ⟨hk, fun K' stop' hK => hK⟩ | exact .inl hk

theorem abin_par {op : BinOp} {x y : AV} (hk : abin op x y K stop) : Par (abin op x y) K stop := by
  unfold abin at hk
  split at hk
  · rename_i k a k' b
    split at hk
    · exact .inr ⟨_, hk.r, fun K' hK => ⟨hk.l, hK⟩⟩
    · exact .inr ⟨_, hk.r, fun K' hK => ⟨hk.l, hK⟩⟩
    · split at hk
      · rename_i h1 h2 he
        subst he
        split at hk <;> first
          | exact .inl hk
          | exact .inr ⟨_, hk, fun K' hK => by simp only [abin, if_true]; exact hK⟩
          | exact .inr ⟨_, hk.r, fun K' hK => by simp only [abin, if_true]; exact ⟨hk.l, hK⟩⟩
      · exact .inl hk
  · split at hk <;> first
      | exact .inl hk
      | exact .inr ⟨_, hk, fun K' hK => by simp only [abin]; exact hK⟩
      | exact .inr ⟨_, hk.r, fun K' hK => by simp only [abin]; exact ⟨hk.l, hK⟩⟩
  · rename_i h1 h2
    split at hk
    · rename_i a b e1 e2
      refine .inr ⟨_, hk, fun K' hK => ?_⟩
      unfold abin
      split
      · exact absurd rfl (h1 _ _ _ _ rfl)
      · exact absurd rfl (h2 _ _ rfl)
      · simp only [e1, e2]; exact hK
    · rename_i a b e1 e2
      refine .inr ⟨_, hk, fun K' hK => ?_⟩
      unfold abin
      split
      · exact absurd rfl (h1 _ _ _ _ rfl)
      · exact absurd rfl (h2 _ _ rfl)
      · simp only [e1, e2]; exact hK
    · exact .inl hk

theorem aun_par {op : UnOp} {x : AV} (hk : aun op x K stop) : Par (aun op x) K stop := by
  unfold aun at hk
  split at hk <;> first | exact .inl hk | exact .inr ⟨_, hk, fun K' hK => hK⟩

theorem aload_par {t : TypeId} {x : AV} (hk : aload P h t x K stop) : Par (aload P h t x) K stop := by
  unfold aload at hk
  split at hk
  · rename_i m get hp ht
    rcases force_par hk with hk | ⟨hk, hf⟩
    · exact .inl hk
    · cases hb : Nat.ble (P.cellsOf t) m with
      | false => rw [hb] at hk; exact .inl hk
      | true =>
        rw [hb] at hk
        exact .inr ⟨_, hk, fun K' hK => by unfold aload; rw [hp, ht]; exact hf _ _ (by rw [hb]; exact hK)⟩
  · rename_i m get hp ht
    cases hb : Nat.blt 0 m with
    | false => rw [hb] at hk; exact .inl hk
    | true =>
      rw [hb] at hk
      exact .inr ⟨_, hk, fun K' hK => by unfold aload; rw [hp, ht]; simp only [hb]; exact hK⟩
  · exact .inl hk

theorem afieldAddr_par {s : TypeId} {x : AV} {f : Nat} (hk : afieldAddr P s x f K stop) : Par (afieldAddr P s x f) K stop := by
  unfold afieldAddr at hk
  split at hk
  · rename_i o t hf
    split at hk
    · rename_i d hd
      cases hb : Nat.blt 0 (P.cellsOf t) with
      | false => rw [hb] at hk; exact .inl hk
      | true =>
        rw [hb, cond_true] at hk
        rcases force_par hk with hk | ⟨hk, hfo⟩
        · exact .inl hk
        · split at hk
          · rename_i y hm
            exact .inr ⟨_, hk, fun K' hK => by unfold afieldAddr; rw [hf]; simp only [hd, hb, cond_true]; exact hfo _ _ (by simp only [hm]; exact hK)⟩
          · exact .inl hk
    · exact .inl hk
  · exact .inl hk

theorem aindexAddr_par {t : TypeId} {x ix : AV} (hk : aindexAddr P h t x ix K stop) : Par (aindexAddr P h t x ix) K stop := by
  unfold aindexAddr at hk
  split at hk
  · rename_i e k i hu
    split at hk
    · rename_i d hd
      split at hk
      · rename_i n sz get
        cases hb : Nat.beq (P.cellsOf e) sz with
        | false => rw [hb] at hk; exact .inl hk
        | true =>
          rw [hb, cond_true] at hk
          exact .inr ⟨_, hk.r, fun K' hK => by unfold aindexAddr; rw [hu]; simp only [hd, hb, cond_true]; exact ⟨hk.l, hK⟩⟩
      · rename_i id
        split at hk
        · rename_i e' sz n get hh
          cases hb : Nat.beq (P.cellsOf e) sz with
          | false => rw [hb] at hk; exact .inl hk
          | true =>
            rw [hb, cond_true] at hk
            exact .inr ⟨_, hk.r, fun K' hK => by unfold aindexAddr; rw [hu]; simp only [hd, hh, hb, cond_true]; exact ⟨hk.l, hK⟩⟩
        · rename_i e' sz n get0 o ei szi len get hole hh
          cases hb : Nat.beq (P.cellsOf e) sz with
          | false => rw [hb] at hk; exact .inl hk
          | true =>
            rw [hb, cond_true] at hk
            exact .inr ⟨_, hk.r, fun K' hK => by unfold aindexAddr; rw [hu]; simp only [hd, hh, hb, cond_true]; exact ⟨hk.l, hK⟩⟩
        · exact .inl hk
      · rename_i id k0
        split at hk
        · rename_i e' sz0 n get0 o ei sz len get hole hh
          cases hb : Nat.beq (P.cellsOf e) sz with
          | false => rw [hb] at hk; exact .inl hk
          | true =>
            rw [hb, cond_true] at hk
            exact .inr ⟨_, hk.r, fun K' hK => by unfold aindexAddr; rw [hu]; simp only [hd, hh, hb, cond_true]; exact ⟨hk.l, hK⟩⟩
        · exact .inl hk
      · exact .inl hk
    · exact .inl hk
  · rename_i len e k i hu
    split at hk
    · rename_i d hd
      split at hk
      · rename_i m get
        cases hb : Nat.beq m (len * P.cellsOf e) with
        | false => rw [hb] at hk; exact .inl hk
        | true =>
          rw [hb, cond_true] at hk
          rcases force_par hk.r with hk2 | ⟨hk2, hf⟩
          · exact .inl hk2
          exact .inr ⟨_, hk2, fun K' hK => by unfold aindexAddr; rw [hu]; simp only [hd, hb, cond_true]; exact ⟨hk.l, hf _ _ hK⟩⟩
      · rcases force_par hk.r with hk2 | ⟨hk2, hf⟩
        · exact .inl hk2
        exact .inr ⟨_, hk2, fun K' hK => by unfold aindexAddr; rw [hu]; simp only [hd]; exact ⟨hk.l, hf _ _ hK⟩⟩
      · exact .inl hk
    · exact .inl hk
  · exact .inl hk

theorem apart_par {t : TypeId} {n : Nat} {get : Nat → AV} {o : Nat} (hk : apart P t n get o K stop) : Par (apart P t n get o) K stop := by
  unfold apart at hk
  split at hk
  · rename_i ht
    rcases force_par hk with hk | ⟨hk, hf⟩
    · exact .inl hk
    · cases hb : Nat.ble (o + P.cellsOf t) n with
      | false => rw [hb] at hk; exact .inl hk
      | true =>
        rw [hb] at hk
        exact .inr ⟨_, hk, fun K' hK => by unfold apart; rw [ht]; exact hf _ _ (by rw [hb]; exact hK)⟩
  · rename_i ht
    cases hb : Nat.blt o n with
    | false => rw [hb] at hk; exact .inl hk
    | true =>
      rw [hb] at hk
      exact .inr ⟨_, hk, fun K' hK => by unfold apart; rw [ht]; simp only [hb]; exact hK⟩
  · exact .inl hk

theorem afield_par {s : TypeId} {x : AV} {f : Nat} (hk : afield P s x f K stop) : Par (afield P s x f) K stop := by
  unfold afield at hk
  split at hk
  · rename_i o t n get hf
    rcases force_par hk with hk | ⟨hk, hfo⟩
    · exact .inl hk
    · rcases apart_par hk with hk | ⟨y, hk, hp⟩
      · exact .inl hk
      · exact .inr ⟨y, hk, fun K' hK => by unfold afield; rw [hf]; exact hfo _ _ (hp _ hK)⟩
  · exact .inl hk

theorem aextract_par {x : AV} {i : Nat} (hk : aextract x i K stop) : Par (aextract x i) K stop := by
  unfold aextract at hk
  split at hk
  · rename_i n get
    cases hb : Nat.blt i n with
    | false => rw [hb] at hk; exact .inl hk
    | true =>
      rw [hb] at hk
      exact .inr ⟨_, hk, fun K' hK => by unfold aextract; simp only [hb]; exact hK⟩
  · exact .inl hk

theorem aindex_par {t : TypeId} {x ix : AV} (hk : aindex P t x ix K stop) : Par (aindex P t x ix) K stop := by
  unfold aindex at hk
  split at hk
  · rename_i s k i hu
    exact .inr ⟨_, hk.r, fun K' hK => by unfold aindex; rw [hu]; exact ⟨hk.l, hK⟩⟩
  · rename_i len e n get k i hu
    split at hk
    · rename_i d hd
      cases hb : Nat.beq n (len * P.cellsOf e) with
      | false => rw [hb] at hk; exact .inl hk
      | true =>
        rw [hb, cond_true] at hk
        rcases apart_par hk.r with hk2 | ⟨y, hk2, hp⟩
        · exact .inl hk2
        · exact .inr ⟨y, hk2, fun K' hK => by unfold aindex; rw [hu]; simp only [hd, hb, cond_true]; exact ⟨hk.l, hp _ hK⟩⟩
    · exact .inl hk
  · exact .inl hk

theorem aconvert_par {s d : TypeId} {x : AV} (hk : aconvert P s d x K stop) : Par (aconvert P s d x) K stop := by
  unfold aconvert at hk
  split at hk
  · rename_i h1 h2; exact .inr ⟨_, hk, fun K' hK => by unfold aconvert; rw [h1, h2]; exact hK⟩
  · rename_i h1 h2; exact .inr ⟨_, hk, fun K' hK => by unfold aconvert; rw [h1, h2]; exact hK⟩
  · rename_i h1 h2; exact .inr ⟨_, hk, fun K' hK => by unfold aconvert; rw [h1, h2]; exact hK⟩
  · exact .inl hk

theorem aslice_par {t : TypeId} {x : AV} {lo hi : Option AV} (hk : aslice P t x lo hi K stop) : Par (aslice P t x lo hi) K stop := by
  unfold aslice at hk
  split at hk
  · rename_i s hu
    split at hk <;> first
      | exact .inl hk
      | exact .inr ⟨_, hk.r, fun K' hK => by unfold aslice; rw [hu]; exact ⟨hk.l, hK⟩⟩
      | exact .inr ⟨_, hk, fun K' hK => by unfold aslice; rw [hu]; exact hK⟩
  · rename_i e n sz get hu
    split at hk
    · rename_i d hd
      cases hb : Nat.beq (P.cellsOf e) sz with
      | false => rw [hb] at hk; exact .inl hk
      | true =>
        rw [hb, cond_true] at hk
        split at hk <;> first
          | exact .inl hk
          | exact .inr ⟨_, hk.r, fun K' hK => by unfold aslice; rw [hu]; simp only [hd, hb, cond_true]; exact ⟨hk.l, hK⟩⟩
    · exact .inl hk
  · exact .inl hk

theorem abuild_par {t : TypeId} {ps : List (Nat × AV)} (hk : abuild P t ps K stop) : Par (abuild P t ps) K stop := by
  unfold abuild at hk
  split at hk
  · rename_i fs l0 hu hz
    split at hk
    · rename_i l h1 h2
      rcases force_par hk with hk | ⟨hk, hf⟩
      · exact .inl hk
      · exact .inr ⟨_, hk, fun K' hK => by unfold abuild; rw [hu, hz]; simp only [h1, h2]; exact hf _ _ hK⟩
    · exact .inl hk
  · exact .inl hk
end

section
variable {C : Ctx} {env : Env} {h : Heap} {ι : Loc} {a : Act} {w : World}

theorem alen_par (R : Rel C env h ι a w) {t : TypeId} {x : AV} {v : Value} {K : AV → Prop} {stop : Prop} (hx : VR w (okB C h ι w) x (rf h ι) v) (hk : alen C.T h t x K stop) : Par (alen C.T h t x) K stop := by
  unfold alen at hk
  split at hk
  · rename_i s hu
    obtain ⟨rfl, hs⟩ : v = .string s ∧ s.size ≤ maxLen := hx
    exact .inr ⟨_, hk.h hs, fun K' hK => by unfold alen; rw [hu]; exact ⟨fun _ => hK⟩⟩
  · rename_i e n sz get hu
    obtain ⟨A, c, rfl, hnc, hc, _⟩ := hx
    exact .inr ⟨_, hk.h (by simp only [maxLen] at hc; omega), fun K' hK => by unfold alen; rw [hu]; exact ⟨fun _ => hK⟩⟩
  · rename_i e hu
    exact .inr ⟨_, hk, fun K' hK => by unfold alen; rw [hu]; exact hK⟩
  · rename_i e id hu
    split at hk
    · rename_i e' sz n get hh
      have ho := R.obj id
      rw [hh] at ho
      obtain ⟨xs, hown, _⟩ := ho
      have hn : n ≤ maxLen := by
        rcases hown.2 with ⟨_, hn0⟩ | ⟨g, cap, cur, hv, hB, hg, hnc, hcap, _⟩
        · subst hn0; simp [maxLen]
        · omega
      exact .inr ⟨_, hk.h hn, fun K' hK => by unfold alen; rw [hu]; simp only [hh]; exact ⟨fun _ => hK⟩⟩
    · rename_i e' sz n get0 o ei szi len get hole hh
      have ho := R.obj id
      rw [hh] at ho
      obtain ⟨_, ⟨xs, hown, _⟩, _⟩ := ho
      have hn : n ≤ maxLen := by
        rcases hown.2 with ⟨_, hn0⟩ | ⟨g, cap, cur, hv, hB, hg, hnc, hcap, _⟩
        · subst hn0; simp [maxLen]
        · omega
      exact .inr ⟨_, hk.h hn, fun K' hK => by unfold alen; rw [hu]; simp only [hh]; exact ⟨fun _ => hK⟩⟩
    · exact .inl hk
  · rename_i e id k0 hu
    split at hk
    · rename_i e' sz n get0 o ei szi len get hole hh
      have ho := R.obj id
      obtain ⟨hvv, h3⟩ := hx
      rw [hh] at ho h3
      obtain ⟨_, _, hrows, _⟩ := ho
      obtain ⟨_, ys, hy, _⟩ := hrows k0 h3.1 h3.2
      have hn : len k0 ≤ maxLen := by
        rcases hy.2 with ⟨_, hn0⟩ | ⟨g, cap, cur, hv, hB, hg, hnc, hcap, _⟩
        · rw [hn0]; simp [maxLen]
        · omega
      exact .inr ⟨_, hk.h hn, fun K' hK => by unfold alen; rw [hu]; simp only [hh]; exact ⟨fun _ => hK⟩⟩
    · exact .inl hk
  · rename_i kt vt id hu
    split at hk
    · rename_i m hh
      exact .inr ⟨_, hk, fun K' hK => by unfold alen; rw [hu]; simp only [hh]; exact hK⟩
    · exact .inl hk
  · exact .inl hk

theorem alookup_par {t : TypeId} {x k : AV} {c : Bool} {K : AV → Prop} {stop : Prop} {T : TT} (hk : alookup T h t x k c K stop) : Par (alookup T h t x k c) K stop := by
  unfold alookup at hk
  split at hk
  · rename_i id
    split at hk
    all_goals first
      | exact .inl hk
      | (rename_i l kt vt n hh ht
         split at hk
         · rename_i hkt hz
           cases h1 : T.one vt with
           | false => rw [h1] at hk; exact .inl hk
           | true =>
             rw [h1, cond_true] at hk
             cases c with
             | true => exact .inr ⟨_, hk, fun K' hK => by unfold alookup; simp only [hh, ht, hkt, hz, h1, cond_true]; exact hK⟩
             | false => exact .inr ⟨_, hk, fun K' hK => by unfold alookup; simp only [hh, ht, hkt, hz, h1, cond_true, cond_false]; exact hK⟩
         · exact .inl hk)
  · exact .inl hk

/-- One operation that only looks. -/
def qop (C : Ctx) (o : Oper) (ρ : Operand → AV) (h : Heap) (K : AV → Prop) (stop : Prop) : Prop :=
  match o.op with
  | .move x => K (ρ x)
  | .assign x => K (ρ x)
  | .pick c x y => match ρ c with
    | .tt => K (ρ x)
    | .ff => K (ρ y)
    | .bool b => AskB b (K (ρ x)) (K (ρ y))
    | _ => stop
  | .build t ps => abuild C.T t (ps.toList.map fun p => (p.1, ρ p.2)) K stop
  | .load t x => aload C.T h t (ρ x) K stop
  | .nilCheck x => match ρ x with
    | .iadr m g => K (.iadr m g)
    | .radr a b c d => K (.radr a b c d)
    | .box a b => K (.box a b)
    | _ => stop
  | .binOp op t x y _ => match aeqT C.T t op (ρ x) (ρ y) with
    | some z => K z
    | none => match avB (ρ x) with
      | some _ => cond (boolTy C.T t) (abin op (ρ x) (ρ y) K stop) stop
      | none => abin op (ρ x) (ρ y) K stop
  | .unOp op _ x => aun op (ρ x) K stop
  | .convert s d x => aconvert C.T s d (ρ x) K stop
  | .slice t x lo hi none => aslice C.T t (ρ x) (lo.map ρ) (hi.map ρ) K stop
  | .fieldAddr s x f => afieldAddr C.T s (ρ x) f K stop
  | .field s x f => afield C.T s (ρ x) f K stop
  | .indexAddr t x i => aindexAddr C.T h t (ρ x) (ρ i) K stop
  | .index t x i => aindex C.T t (ρ x) (ρ i) K stop
  | .extract x i => aextract (ρ x) i K stop
  | .lookup t x k c => alookup C.T h t (ρ x) (ρ k) c K stop
  | .call c => match c.callee, c.args.toList, c.argTypes.toList with
    | .builtin .len, [x], [t] => alen C.T h t (ρ x) K stop
    | .builtin .unsafeSliceData, [x], [t] => asliceData C.T h o.type (ρ x) K stop
    | _, _, _ => stop
  | _ => stop

def Quiet (C : Ctx) (h : Heap) (o : Oper) (ρ : Operand → AV) (x : AV) : Prop :=
  ∀ env ι a w, Rel C env h ι a w → (∀ y ∈ o.op.operands, VR w (okB C h ι w) (ρ y) (rf h ι) (a.eval y)) →
    ∀ (b : Frame) (k : List Item) cs (ops : Array Oper) i rest, ops[i]? = some o → Region.wanted o (yielded ops a.tmps) = true →
      ∃ v w' ι', Steps C.P (lone (b.at a (.inRegion ops (i :: rest) :: k)) cs w) (lone (b.at (a.put o.dst v) (.inRegion ops rest :: k)) cs w') ∧ Rel C env h ι' a w' ∧ VR w' (okB C h ι' w') x (rf h ι') v

def Is (env : Env) (h : Heap) (x : AV) (env' : Env) (h' : Heap) (x' : AV) : Prop := env' = env ∧ h' = h ∧ x' = x

theorem Quiet.of {o : Oper} {ρ : Operand → AV} {x : AV}
    (hq : ∀ env ι a w, Rel C env h ι a w → (∀ y ∈ o.op.operands, VR w (okB C h ι w) (ρ y) (rf h ι) (a.eval y)) → False ∨ OpOut C a w o (Is env h x)) : Quiet C h o ρ x := by
  intro env ι a w R hρ b k cs ops i rest ho hw
  rcases hq env ι a w R hρ with hf | ⟨nx, v, w', ι', env', h', x', hr, hv, R', hx, e1, e2, e3⟩
  · exact hf.elim
  · subst e1; subst e2; subst e3
    exact ⟨v, w', ι', .one (step_op_ok ho hw hr hv), R', hx⟩

theorem Quiet.of_out {o : Oper} {ρ : Operand → AV} {x : AV} {s : (Operand → Value) → Sem Value} (he : ∀ a : Act, execOp a.eval o = (do pure (.value (← s a.eval)) : Sem Next))
    (hq : ∀ env ι a w, Rel C env h ι a w → (∀ y ∈ o.op.operands, VR w (okB C h ι w) (ρ y) (rf h ι) (a.eval y)) → False ∨ Out C a w (s a.eval) (Is env h x)) : Quiet C h o ρ x :=
  Quiet.of fun env ι a w R hρ => (hq env ι a w R hρ).imp id (OpOut.of (he a))

/-- Which objects a value leads to. -/
def idOf : AV → List Nat
  | .row id => [id]
  | .radr id _ _ _ => [id]
  | .box id _ => [id]
  | .obj id => [id]
  | .mrow id _ => [id]
  | .madr id _ _ _ _ => [id]
  | _ => []
theorem placeAt_congr {h h' : Heap} {x : AV} (hag : ∀ id ∈ idOf x, h' id = h id) : placeAt h' x = placeAt h x := by
  cases x <;> simp only [placeAt] <;> (first | rfl | (rw [hag _ (by simp [idOf])]))
theorem aload_congr {T : TT} {h h' : Heap} {t : TypeId} {x : AV} {K : AV → Prop} {stop : Prop} (hag : ∀ id ∈ idOf x, h' id = h id) : aload T h' t x K stop = aload T h t x K stop := by
  unfold aload; rw [placeAt_congr hag]
theorem aindexAddr_congr {T : TT} {h h' : Heap} {t : TypeId} {x ix : AV} {K : AV → Prop} {stop : Prop} (hag : ∀ id ∈ idOf x, h' id = h id) : aindexAddr T h' t x ix K stop = aindexAddr T h t x ix K stop := by
  unfold aindexAddr
  split
  · split
    · cases x <;> first | rfl | (simp only []; rw [hag _ (by simp [idOf])])
    · rfl
  · rfl
  · rfl
theorem alookup_congr {T : TT} {h h' : Heap} {t : TypeId} {x k : AV} {c : Bool} {K : AV → Prop} {stop : Prop} (hag : ∀ id ∈ idOf x, h' id = h id) : alookup T h' t x k c K stop = alookup T h t x k c K stop := by
  unfold alookup
  cases x <;> first | rfl | (simp only []; rw [hag _ (by simp [idOf])])
theorem alen_congr {T : TT} {h h' : Heap} {t : TypeId} {x : AV} {K : AV → Prop} {stop : Prop} (hag : ∀ id ∈ idOf x, h' id = h id) : alen T h' t x K stop = alen T h t x K stop := by
  unfold alen
  cases T.underlying t with
  | none => rfl
  | some d => cases d <;> cases x <;> first | rfl | (simp only []; rw [hag _ (by simp [idOf])])

theorem asliceData_congr {T : TT} {h h' : Heap} {t : TypeId} {x : AV} {K : AV → Prop} {stop : Prop} (hag : ∀ id ∈ idOf x, h' id = h id) : asliceData T h' t x K stop = asliceData T h t x K stop := by
  unfold asliceData
  cases T.underlying t with
  | none => rfl
  | some d => cases d <;> cases x <;> first | rfl | (simp only []; rw [hag _ (by simp [idOf])])
theorem asliceData_par {T : TT} {h : Heap} {t : TypeId} {x : AV} {K : AV → Prop} {stop : Prop} (hk : asliceData T h t x K stop) : Par (asliceData T h t x) K stop := by
  unfold asliceData at hk
  split at hk
  · rename_i hu
    exact .inr ⟨_, hk, fun K' hK => by unfold asliceData; rw [hu]; exact hK⟩
  · rename_i q hu
    split at hk
    · rename_i e sz n get hh
      by_cases hn : n = 0
      · exact .inr ⟨_, hk.t (decide_eq_true hn), fun K' hK => by unfold asliceData; rw [hu]; simp only [hh]; exact ⟨fun _ => hK, fun hf => absurd hn (of_decide_eq_false hf)⟩⟩
      · exact .inr ⟨_, hk.f (decide_eq_false hn), fun K' hK => by unfold asliceData; rw [hu]; simp only [hh]; exact ⟨fun hf => absurd (of_decide_eq_true hf) hn, fun _ => hK⟩⟩
    · exact .inl hk
  · exact .inl hk
theorem qop_quietR (R : Rel C env h ι a w) {o : Oper} {ρ : Operand → AV} (hρ : ∀ y ∈ o.op.operands, VR w (okB C h ι w) (ρ y) (rf h ι) (a.eval y)) {K : AV → Prop} {stop : Prop} (hk : qop C o ρ h K stop) :
    stop ∨ ∃ x, K x ∧ ∀ h', (∀ y ∈ o.op.operands, ∀ id ∈ idOf (ρ y), h' id = h id) → Quiet C h' o ρ x := by
  unfold qop at hk
  split at hk
  · rename_i x ho
    exact .inr ⟨_, hk, fun h' hag => Quiet.of fun env ι a w R hρ => .inr (OpOut.same R ⟨rfl, rfl, rfl⟩ (by simp [execOp, ho]) (hρ x (by rw [ho]; simp [Op.operands])))⟩
  · rename_i x ho
    exact .inr ⟨_, hk, fun h' hag => Quiet.of fun env ι a w R hρ => .inr (OpOut.same R ⟨rfl, rfl, rfl⟩ (by simp [execOp, ho]) (hρ x (by rw [ho]; simp [Op.operands])))⟩
  · rename_i c x y ho
    have m1 : c ∈ o.op.operands := by rw [ho]; simp [Op.operands]
    have m2 : x ∈ o.op.operands := by rw [ho]; simp [Op.operands]
    have m3 : y ∈ o.op.operands := by rw [ho]; simp [Op.operands]
    have yes : ρ c = .tt ∨ ρ c = .bool true → ∀ h', (∀ y ∈ o.op.operands, ∀ id ∈ idOf (ρ y), h' id = h id) → Quiet C h' o ρ (ρ x) := fun e h' hag => Quiet.of fun env ι a w R hρ => .inr (by
      have e2 : a.eval c = .bool true := by have := hρ c m1; rcases e with e | e <;> (rw [e] at this; exact this)
      exact OpOut.same R ⟨rfl, rfl, rfl⟩ (by simp [execOp, ho, e2, asBool]) (hρ x m2))
    have no : ρ c = .ff ∨ ρ c = .bool false → ∀ h', (∀ y ∈ o.op.operands, ∀ id ∈ idOf (ρ y), h' id = h id) → Quiet C h' o ρ (ρ y) := fun e h' hag => Quiet.of fun env ι a w R hρ => .inr (by
      have e2 : a.eval c = .bool false := by have := hρ c m1; rcases e with e | e <;> (rw [e] at this; exact this)
      exact OpOut.same R ⟨rfl, rfl, rfl⟩ (by simp [execOp, ho, e2, asBool]) (hρ y m3))
    split at hk
    · rename_i e; exact .inr ⟨_, hk, yes (.inl e)⟩
    · rename_i e; exact .inr ⟨_, hk, no (.inl e)⟩
    · rename_i b e
      cases b with
      | true => exact .inr ⟨_, hk.t rfl, yes (.inr e)⟩
      | false => exact .inr ⟨_, hk.f rfl, no (.inr e)⟩
    · exact .inl hk
  · rename_i t ps ho
    rcases abuild_par hk with hk | ⟨y, hk, hp⟩
    · exact .inl hk
    · refine .inr ⟨y, hk, fun h' hag => Quiet.of_out (s := fun ev => Instr.build t (ps.map fun (i, x) => (i, ev x))) (fun a => by simp [execOp, ho]) fun env ι a w R hρ => abuild_ok R (by simp) (fun k p q hp hq => ?_) (hp (Is env h' y env h') ⟨rfl, rfl, rfl⟩)⟩
      simp only [List.getElem?_map, Array.getElem?_toList] at hp
      rw [Array.getElem?_map] at hq
      cases hkk : ps[k]? with
      | none => rw [hkk] at hp; cases hp
      | some r =>
        rw [hkk] at hp hq
        cases hp; cases hq
        refine ⟨rfl, hρ _ ?_⟩
        rw [ho]
        simp only [Op.operands, List.mem_toArray, List.mem_map]
        exact ⟨r, Array.mem_toList_iff.mpr (Array.mem_of_getElem? hkk), rfl⟩
  · rename_i t x ho
    rcases aload_par hk with hk | ⟨y, hk, hp⟩
    · exact .inl hk
    · exact .inr ⟨y, hk, fun h' hag => Quiet.of_out (s := fun ev => Instr.loadAt t (ev x)) (fun a => by simp [execOp, ho]) fun env ι a w R hρ => aload_ok R (hρ x (by rw [ho]; simp [Op.operands])) (by rw [aload_congr (fun id hid => hag x (by rw [ho]; simp [Op.operands]) id hid)]; exact hp (Is env h' y env h') ⟨rfl, rfl, rfl⟩)⟩
  · rename_i x ho
    have m1 : x ∈ o.op.operands := by rw [ho]; simp [Op.operands]
    split at hk
    · rename_i m g e
      refine .inr ⟨_, hk, fun h' hag => Quiet.of fun env ι a w R hρ => .inr ?_⟩
      have hx := hρ x m1
      rw [e] at hx
      obtain ⟨ad, e2, hx2⟩ := hx
      exact OpOut.same R ⟨rfl, rfl, rfl⟩ (by simp [execOp, ho, e2]) ⟨ad, rfl, hx2⟩
    · rename_i b1 b2 b3 b4 e
      refine .inr ⟨_, hk, fun h' hag => Quiet.of fun env ι a w R hρ => .inr ?_⟩
      have hx := hρ x m1
      rw [e] at hx
      obtain ⟨g, n, c, h1, e2, hx2⟩ := hx
      exact OpOut.same R ⟨rfl, rfl, rfl⟩ (by simp [execOp, ho, e2]) ⟨g, n, c, h1, rfl, hx2⟩
    · rename_i b1 b2 e
      refine .inr ⟨_, hk, fun h' hag => Quiet.of fun env ι a w R hρ => .inr ?_⟩
      have hx := hρ x m1
      rw [e] at hx
      obtain ⟨g, h1, e2⟩ := hx
      exact OpOut.same R ⟨rfl, rfl, rfl⟩ (by simp [execOp, ho, e2]) ⟨g, h1, rfl⟩
    · exact .inl hk
  · rename_i op t x y ty ho
    have m1 : x ∈ o.op.operands := by rw [ho]; simp [Op.operands]
    have m2 : y ∈ o.op.operands := by rw [ho]; simp [Op.operands]
    have main : abin op (ρ x) (ρ y) K stop → (C.P.underlying t = some .bool ∨ avB (ρ x) = none) → stop ∨ ∃ x, K x ∧ ∀ h', (∀ y ∈ o.op.operands, ∀ id ∈ idOf (ρ y), h' id = h id) → Quiet C h' o ρ x := by
      intro hk hb
      rcases abin_par hk with hk | ⟨z, hk, hp⟩
      · exact .inl hk
      · refine .inr ⟨z, hk, fun h' hag => Quiet.of_out (s := fun ev => do eqGuard op t x y (ev x) (ev y); binOp op t (ev x) (ev y)) (fun a => by simp [execOp, ho]) fun env ι a w R hρ => ?_⟩
        rcases abin_ok (K := fun z' => z' = z) t hb (hp _ rfl) (hρ x m1) (hρ y m2) x y with hf | ⟨z', m, hr, hz, e⟩
        · exact .inl hf
        · subst e; exact .inr (Out.same R ⟨rfl, rfl, rfl⟩ hr hz)
    split at hk
    · rename_i z hz
      refine .inr ⟨z, hk, fun h' hag => Quiet.of_out (s := fun ev => do eqGuard op t x y (ev x) (ev y); binOp op t (ev x) (ev y)) (fun a => by simp [execOp, ho]) fun env ι a w R hρ => ?_⟩
      obtain ⟨m, hr, hv⟩ := aeqT_ok hz (hρ x m1) (hρ y m2) x y
      exact .inr (Out.same R ⟨rfl, rfl, rfl⟩ hr hv)
    split at hk
    · cases hb : boolTy C.T t with
      | false => rw [hb] at hk; exact .inl hk
      | true => rw [hb] at hk; exact main hk (.inl (boolTy_ok hb))
    · rename_i e; exact main hk (.inr e)
  · rename_i op t x ho
    rcases aun_par hk with hk | ⟨y, hk, hp⟩
    · exact .inl hk
    · refine .inr ⟨y, hk, fun h' hag => Quiet.of_out (s := fun ev => Op.unary op (ev x)) (fun a => by simp [execOp, ho]) fun env ι a w R hρ => ?_⟩
      rcases aun_ok R (K := fun z => z = y) (hρ x (by rw [ho]; simp [Op.operands])) (hp _ rfl) with hf | ⟨z, m, hr, hz, e⟩
      · exact .inl hf
      · subst e; exact .inr (Out.same R ⟨rfl, rfl, rfl⟩ hr hz)
  · rename_i s d x ho
    rcases aconvert_par hk with hk | ⟨y, hk, hp⟩
    · exact .inl hk
    · exact .inr ⟨y, hk, fun h' hag => Quiet.of_out (s := fun ev => convert s d (ev x)) (fun a => by simp [execOp, ho]) fun env ι a w R hρ => aconvert_ok R (hρ x (by rw [ho]; simp [Op.operands])) (hp (Is env h' y env h') ⟨rfl, rfl, rfl⟩)⟩
  · rename_i t x lo hi ho
    rcases aslice_par hk with hk | ⟨y, hk, hp⟩
    · exact .inl hk
    · refine .inr ⟨y, hk, fun h' hag => Quiet.of_out (s := fun ev => Instr.sliceAt t (ev x) (lo.map ev) (hi.map ev) none) (fun a => by simp [execOp, ho]) fun env ι a w R hρ =>
        aslice_ok R (hρ x (by rw [ho]; simp [Op.operands])) ⟨by simp, ?_⟩ ⟨by simp, ?_⟩ (hp (Is env h' y env h') ⟨rfl, rfl, rfl⟩)⟩
      · intro y u hy hu
        cases lo with
        | none => cases hy
        | some z => cases hy; cases hu; exact hρ z (by rw [ho]; simp [Op.operands])
      · intro y u hy hu
        cases hi with
        | none => cases hy
        | some z => cases hy; cases hu; exact hρ z (by rw [ho]; simp [Op.operands])
  · rename_i s x f ho
    rcases afieldAddr_par hk with hk | ⟨y, hk, hp⟩
    · exact .inl hk
    · exact .inr ⟨y, hk, fun h' hag => Quiet.of_out (s := fun ev => Instr.fieldAt s (ev x) f) (fun a => by simp [execOp, ho]) fun env ι a w R hρ => afieldAddr_ok R (hρ x (by rw [ho]; simp [Op.operands])) (hp (Is env h' y env h') ⟨rfl, rfl, rfl⟩)⟩
  · rename_i s x f ho
    rcases afield_par hk with hk | ⟨y, hk, hp⟩
    · exact .inl hk
    · exact .inr ⟨y, hk, fun h' hag => Quiet.of_out (s := fun ev => Instr.field s (ev x) f) (fun a => by simp [execOp, ho]) fun env ι a w R hρ => afield_ok R (hρ x (by rw [ho]; simp [Op.operands])) (hp (Is env h' y env h') ⟨rfl, rfl, rfl⟩)⟩
  · rename_i t x i ho
    rcases aindexAddr_par hk with hk | ⟨y, hk, hp⟩
    · exact .inl hk
    · exact .inr ⟨y, hk, fun h' hag => Quiet.of_out (s := fun ev => Instr.indexAt t (ev x) (ev i)) (fun a => by simp [execOp, ho]) fun env ι a w R hρ =>
        aindexAddr_ok R (hρ x (by rw [ho]; simp [Op.operands])) (hρ i (by rw [ho]; simp [Op.operands])) (by rw [aindexAddr_congr (fun id hid => hag x (by rw [ho]; simp [Op.operands]) id hid)]; exact hp (Is env h' y env h') ⟨rfl, rfl, rfl⟩)⟩
  · rename_i t x i ho
    rcases aindex_par hk with hk | ⟨y, hk, hp⟩
    · exact .inl hk
    · exact .inr ⟨y, hk, fun h' hag => Quiet.of_out (s := fun ev => Instr.index t (ev x) (ev i)) (fun a => by simp [execOp, ho]) fun env ι a w R hρ =>
        aindex_ok R (hρ x (by rw [ho]; simp [Op.operands])) (hρ i (by rw [ho]; simp [Op.operands])) (hp (Is env h' y env h') ⟨rfl, rfl, rfl⟩)⟩
  · rename_i x i ho
    rcases aextract_par hk with hk | ⟨y, hk, hp⟩
    · exact .inl hk
    · exact .inr ⟨y, hk, fun h' hag => Quiet.of_out (s := fun ev => Instr.extract (ev x) i) (fun a => by simp [execOp, ho]) fun env ι a w R hρ => aextract_ok R (hρ x (by rw [ho]; simp [Op.operands])) (hp (Is env h' y env h') ⟨rfl, rfl, rfl⟩)⟩
  · rename_i t x k c ho
    rcases alookup_par hk with hk | ⟨y, hk, hp⟩
    · exact .inl hk
    · refine .inr ⟨y, hk, fun h' hag => Quiet.of_out (s := fun ev => Instr.lookup t (ev x) (ev k) c) (fun a => by simp [execOp, ho]) fun env ι a w R hρ => ?_⟩
      rcases alookup_ok R (K := fun z => z = y) (hρ x (by rw [ho]; simp [Op.operands])) (hρ k (by rw [ho]; simp [Op.operands])) (by rw [alookup_congr (fun id hid => hag x (by rw [ho]; simp [Op.operands]) id hid)]; exact hp _ rfl) with hf | ⟨z, m, hr, hz, e⟩
      · exact .inl hf
      · subst e; exact .inr (Out.same R ⟨rfl, rfl, rfl⟩ hr hz)
  · rename_i c ho
    split at hk
    · rename_i x t e1 e2 e3
      have e2' := toList_two e2
      have e3' := toList_two e3
      have m1 : x ∈ o.op.operands := by rw [ho]; simp [Op.operands, Call.operands, e1, e2']
      rcases alen_par R (hρ x m1) hk with hk | ⟨y, hk, hp⟩
      · exact .inl hk
      · exact .inr ⟨y, hk, fun h' hag => Quiet.of_out (s := fun ev => Builtin.len_ #[t] o.type #[ev x]) (fun a => by simp [execOp, ho, resolve, e1, e2', e3', invoke, builtin]) fun env ι a w R hρ => alen_ok R o.type (hρ x m1) (by rw [alen_congr (fun id hid => hag x m1 id hid)]; exact hp (Is env h' y env h') ⟨rfl, rfl, rfl⟩)⟩
    · rename_i x t e1 e2 e3
      have e2' := toList_two e2
      have e3' := toList_two e3
      have m1 : x ∈ o.op.operands := by rw [ho]; simp [Op.operands, Call.operands, e1, e2']
      rcases asliceData_par hk with hk | ⟨y, hk, hp⟩
      · exact .inl hk
      · exact .inr ⟨y, hk, fun h' hag => Quiet.of_out (s := fun ev => Builtin.unsafeSliceData_ #[t] o.type #[ev x]) (fun a => by simp [execOp, ho, resolve, e1, e2', e3', invoke, builtin]) fun env ι a w R hρ => asliceData_ok R (hρ x m1) (by rw [asliceData_congr (fun id hid => hag x m1 id hid)]; exact hp (Is env h' y env h') ⟨rfl, rfl, rfl⟩)⟩
    · exact .inl hk
  · exact .inl hk
theorem qop_quiet (R : Rel C env h ι a w) {o : Oper} {ρ : Operand → AV} (hρ : ∀ y ∈ o.op.operands, VR w (okB C h ι w) (ρ y) (rf h ι) (a.eval y)) {K : AV → Prop} {stop : Prop} (hk : qop C o ρ h K stop) :
    stop ∨ ∃ x, K x ∧ Quiet C h o ρ x := (qop_quietR R hρ hk).imp id fun ⟨x, hx, hq⟩ => ⟨x, hx, hq h fun _ _ _ _ => rfl⟩
end

end Go.Proofs.YtfodjmemdkibpaaDoor.V
