/-
The walk's own words, rules and proofs: Vm, Vn, Vo.
-/
import Derived.Test.YtfodjmemdkibpaaDoorMB
namespace Go.Proofs.YtfodjmemdkibpaaDoor.V
open Go Go.RowKit
set_option linter.unusedSimpArgs false
set_option linter.unusedVariables false

/-- What an evaluation says, it says to whoever asks. -/
def Par (F : (AV → Prop) → Prop → Prop) (K : AV → Prop) (stop : Prop) : Prop := stop ∨ ∃ y, K y ∧ ∀ K' : AV → Prop, K' y → F K' False

section
variable {P : TT} {h : Heap} {K : AV → Prop} {stop : Prop}
theorem force_par {s : Nat} {K : Nat → Prop} {stop : Prop} (hk : force s K stop) : stop ∨ (K s ∧ ∀ (K' : Nat → Prop) (stop' : Prop), K' s → force s K' stop') := by
  unfold force at hk
  split at hk <;> first | exact .inr ⟨hk, fun K' stop' hK => hK⟩ | exact .inl hk

theorem abin_par {op : BinOp} {x y : AV} (hk : abin op x y K stop) : Par (abin op x y) K stop := by
  unfold abin at hk
  split at hk
  · rename_i k a k' b
    split at hk
    · exact .inr ⟨_, hk.r, fun K' hK => ⟨hk.l, hK⟩⟩
    · exact .inr ⟨_, hk.r, fun K' hK => ⟨hk.l, hK⟩⟩
    · split at hk
      · rename_i h1 h2 he
        subst he
        split at hk <;> first
          | exact .inl hk
          | exact .inr ⟨_, hk, fun K' hK => by simp only [abin, if_true]; exact hK⟩
          | exact .inr ⟨_, hk.r, fun K' hK => by simp only [abin, if_true]; exact ⟨hk.l, hK⟩⟩
      · exact .inl hk
  · split at hk <;> first
      | exact .inl hk
      | exact .inr ⟨_, hk, fun K' hK => by simp only [abin]; exact hK⟩
      | exact .inr ⟨_, hk.r, fun K' hK => by simp only [abin]; exact ⟨hk.l, hK⟩⟩
  · rename_i h1 h2
    split at hk
    · rename_i a b e1 e2
      refine .inr ⟨_, hk, fun K' hK => ?_⟩
      unfold abin
      split
      · exact absurd rfl (h1 _ _ _ _ rfl)
      · exact absurd rfl (h2 _ _ rfl)
      · simp only [e1, e2]; exact hK
    · rename_i a b e1 e2
      refine .inr ⟨_, hk, fun K' hK => ?_⟩
      unfold abin
      split
      · exact absurd rfl (h1 _ _ _ _ rfl)
      · exact absurd rfl (h2 _ _ rfl)
      · simp only [e1, e2]; exact hK
    · exact .inl hk

theorem aun_par {op : UnOp} {x : AV} (hk : aun op x K stop) : Par (aun op x) K stop := by
  unfold aun at hk
  split at hk <;> first | exact .inl hk | exact .inr ⟨_, hk, fun K' hK => hK⟩

theorem aload_par {t : TypeId} {x : AV} (hk : aload P h t x K stop) : Par (aload P h t x) K stop := by
  unfold aload at hk
  split at hk
  · rename_i m get hp ht
    rcases force_par hk with hk | ⟨hk, hf⟩
    · exact .inl hk
    · cases hb : Nat.ble (P.cellsOf t) m with
      | false => rw [hb] at hk; exact .inl hk
      | true =>
        rw [hb] at hk
        exact .inr ⟨_, hk, fun K' hK => by unfold aload; rw [hp, ht]; exact hf _ _ (by rw [hb]; exact hK)⟩
  · rename_i m get hp ht
    cases hb : Nat.blt 0 m with
    | false => rw [hb] at hk; exact .inl hk
    | true =>
      rw [hb] at hk
      exact .inr ⟨_, hk, fun K' hK => by unfold aload; rw [hp, ht]; simp only [hb]; exact hK⟩
  · exact .inl hk

theorem afieldAddr_par {s : TypeId} {x : AV} {f : Nat} (hk : afieldAddr P s x f K stop) : Par (afieldAddr P s x f) K stop := by
  unfold afieldAddr at hk
  split at hk
  · rename_i o t hf
    split at hk
    · rename_i d hd
      cases hb : Nat.blt 0 (P.cellsOf t) with
      | false => rw [hb] at hk; exact .inl hk
      | true =>
        rw [hb, cond_true] at hk
        rcases force_par hk with hk | ⟨hk, hfo⟩
        · exact .inl hk
        · split at hk
          · rename_i y hm
            exact .inr ⟨_, hk, fun K' hK => by unfold afieldAddr; rw [hf]; simp only [hd, hb, cond_true]; exact hfo _ _ (by simp only [hm]; exact hK)⟩
          · exact .inl hk
    · exact .inl hk
  · exact .inl hk

theorem aindexAddr_par {t : TypeId} {x ix : AV} (hk : aindexAddr P h t x ix K stop) : Par (aindexAddr P h t x ix) K stop := by
  unfold aindexAddr at hk
  split at hk
  · rename_i e k i hu
    split at hk
    · rename_i d hd
      split at hk
      · rename_i n sz get
        cases hb : Nat.beq (P.cellsOf e) sz with
        | false => rw [hb] at hk; exact .inl hk
        | true =>
          rw [hb, cond_true] at hk
          exact .inr ⟨_, hk.r, fun K' hK => by unfold aindexAddr; rw [hu]; simp only [hd, hb, cond_true]; exact ⟨hk.l, hK⟩⟩
      · rename_i id
        split at hk
        · rename_i e' sz n get hh
          cases hb : Nat.beq (P.cellsOf e) sz with
          | false => rw [hb] at hk; exact .inl hk
          | true =>
            rw [hb, cond_true] at hk
            exact .inr ⟨_, hk.r, fun K' hK => by unfold aindexAddr; rw [hu]; simp only [hd, hh, hb, cond_true]; exact ⟨hk.l, hK⟩⟩
        · rename_i e' sz n get0 o ei szi len get hole hh
          cases hb : Nat.beq (P.cellsOf e) sz with
          | false => rw [hb] at hk; exact .inl hk
          | true =>
            rw [hb, cond_true] at hk
            exact .inr ⟨_, hk.r, fun K' hK => by unfold aindexAddr; rw [hu]; simp only [hd, hh, hb, cond_true]; exact ⟨hk.l, hK⟩⟩
        · exact .inl hk
      · rename_i id k0
        split at hk
        · rename_i e' sz0 n get0 o ei sz len get hole hh
          cases hb : Nat.beq (P.cellsOf e) sz with
          | false => rw [hb] at hk; exact .inl hk
          | true =>
            rw [hb, cond_true] at hk
            exact .inr ⟨_, hk.r, fun K' hK => by unfold aindexAddr; rw [hu]; simp only [hd, hh, hb, cond_true]; exact ⟨hk.l, hK⟩⟩
        · exact .inl hk
      · exact .inl hk
    · exact .inl hk
  · rename_i len e k i hu
    split at hk
    · rename_i d hd
      split at hk
      · rename_i m get
        cases hb : Nat.beq m (len * P.cellsOf e) with
        | false => rw [hb] at hk; exact .inl hk
        | true =>
          rw [hb, cond_true] at hk
          rcases force_par hk.r with hk2 | ⟨hk2, hf⟩
          · exact .inl hk2
          exact .inr ⟨_, hk2, fun K' hK => by unfold aindexAddr; rw [hu]; simp only [hd, hb, cond_true]; exact ⟨hk.l, hf _ _ hK⟩⟩
      · rcases force_par hk.r with hk2 | ⟨hk2, hf⟩
        · exact .inl hk2
        exact .inr ⟨_, hk2, fun K' hK => by unfold aindexAddr; rw [hu]; simp only [hd]; exact ⟨hk.l, hf _ _ hK⟩⟩
      · exact .inl hk
    · exact .inl hk
  · exact .inl hk

theorem apart_par {t : TypeId} {n : Nat} {get : Nat → AV} {o : Nat} (hk : apart P t n get o K stop) : Par (apart P t n get o) K stop := by
  unfold apart at hk
  split at hk
  · rename_i ht
    rcases force_par hk with hk | ⟨hk, hf⟩
    · exact .inl hk
    · cases hb : Nat.ble (o + P.cellsOf t) n with
      | false => rw [hb] at hk; exact .inl hk
      | true =>
        rw [hb] at hk
        exact .inr ⟨_, hk, fun K' hK => by unfold apart; rw [ht]; exact hf _ _ (by rw [hb]; exact hK)⟩
  · rename_i ht
    cases hb : Nat.blt o n with
    | false => rw [hb] at hk; exact .inl hk
    | true =>
      rw [hb] at hk
      exact .inr ⟨_, hk, fun K' hK => by unfold apart; rw [ht]; simp only [hb]; exact hK⟩
  · exact .inl hk

theorem afield_par {s : TypeId} {x : AV} {f : Nat} (hk : afield P s x f K stop) : Par (afield P s x f) K stop := by
  unfold afield at hk
  split at hk
  · rename_i o t n get hf
    rcases force_par hk with hk | ⟨hk, hfo⟩
    · exact .inl hk
    · rcases apart_par hk with hk | ⟨y, hk, hp⟩
      · exact .inl hk
      · exact .inr ⟨y, hk, fun K' hK => by unfold afield; rw [hf]; exact hfo _ _ (hp _ hK)⟩
  · exact .inl hk

theorem aextract_par {x : AV} {i : Nat} (hk : aextract x i K stop) : Par (aextract x i) K stop := by
  unfold aextract at hk
  split at hk
  · rename_i n get
    cases hb : Nat.blt i n with
    | false => rw [hb] at hk; exact .inl hk
    | true =>
      rw [hb] at hk
      exact .inr ⟨_, hk, fun K' hK => by unfold aextract; simp only [hb]; exact hK⟩
  · exact .inl hk

theorem aindex_par {t : TypeId} {x ix : AV} (hk : aindex P t x ix K stop) : Par (aindex P t x ix) K stop := by
  unfold aindex at hk
  split at hk
  · rename_i s k i hu
    exact .inr ⟨_, hk.r, fun K' hK => by unfold aindex; rw [hu]; exact ⟨hk.l, hK⟩⟩
  · rename_i len e n get k i hu
    split at hk
    · rename_i d hd
      cases hb : Nat.beq n (len * P.cellsOf e) with
      | false => rw [hb] at hk; exact .inl hk
      | true =>
        rw [hb, cond_true] at hk
        rcases apart_par hk.r with hk2 | ⟨y, hk2, hp⟩
        · exact .inl hk2
        · exact .inr ⟨y, hk2, fun K' hK => by unfold aindex; rw [hu]; simp only [hd, hb, cond_true]; exact ⟨hk.l, hp _ hK⟩⟩
    · exact .inl hk
  · exact .inl hk

theorem aconvert_par {s d : TypeId} {x : AV} (hk : aconvert P s d x K stop) : Par (aconvert P s d x) K stop := by
  unfold aconvert at hk
  split at hk
  · rename_i h1 h2; exact .inr ⟨_, hk, fun K' hK => by unfold aconvert; rw [h1, h2]; exact hK⟩
  · rename_i h1 h2; exact .inr ⟨_, hk, fun K' hK => by unfold aconvert; rw [h1, h2]; exact hK⟩
  · rename_i h1 h2; exact .inr ⟨_, hk, fun K' hK => by unfold aconvert; rw [h1, h2]; exact hK⟩
  · exact .inl hk

theorem aslice_par {t : TypeId} {x : AV} {lo hi : Option AV} (hk : aslice P t x lo hi K stop) : Par (aslice P t x lo hi) K stop := by
  unfold aslice at hk
  split at hk
  · rename_i s hu
    split at hk <;> first
      | exact .inl hk
      | exact .inr ⟨_, hk.r, fun K' hK => by unfold aslice; rw [hu]; exact ⟨hk.l, hK⟩⟩
      | exact .inr ⟨_, hk, fun K' hK => by unfold aslice; rw [hu]; exact hK⟩
  · rename_i e n sz get hu
    split at hk
    · rename_i d hd
      cases hb : Nat.beq (P.cellsOf e) sz with
      | false => rw [hb] at hk; exact .inl hk
      | true =>
        rw [hb, cond_true] at hk
        split at hk <;> first
          | exact .inl hk
          | exact .inr ⟨_, hk.r, fun K' hK => by unfold aslice; rw [hu]; simp only [hd, hb, cond_true]; exact ⟨hk.l, hK⟩⟩
    · exact .inl hk
  · exact .inl hk

theorem abuild_par {t : TypeId} {ps : List (Nat × AV)} (hk : abuild P t ps K stop) : Par (abuild P t ps) K stop := by
  unfold abuild at hk
  split at hk
  · rename_i fs l0 hu hz
    split at hk
    · rename_i l h1 h2
      rcases force_par hk with hk | ⟨hk, hf⟩
      · exact .inl hk
      · exact .inr ⟨_, hk, fun K' hK => by unfold abuild; rw [hu, hz]; simp only [h1, h2]; exact hf _ _ hK⟩
    · exact .inl hk
  · exact .inl hk
end

section
variable {C : Ctx} {env : Env} {h : Heap} {ι : Loc} {a : Act} {w : World}

theorem alen_par (R : Rel C env h ι a w) {t : TypeId} {x : AV} {v : Value} {K : AV → Prop} {stop : Prop} (hx : VR w (okB C h ι w) x (rf h ι) v) (hk : alen C.T h t x K stop) : Par (alen C.T h t x) K stop := by
  unfold alen at hk
  split at hk
  · rename_i s hu
    obtain ⟨rfl, hs⟩ : v = .string s ∧ s.size ≤ maxLen := hx
    exact .inr ⟨_, hk.h hs, fun K' hK => by unfold alen; rw [hu]; exact ⟨fun _ => hK⟩⟩
  · rename_i e n sz get hu
    obtain ⟨A, c, rfl, hnc, hc, _⟩ := hx
    exact .inr ⟨_, hk.h (by simp only [maxLen] at hc; omega), fun K' hK => by unfold alen; rw [hu]; exact ⟨fun _ => hK⟩⟩
  · rename_i e hu
    exact .inr ⟨_, hk, fun K' hK => by unfold alen; rw [hu]; exact hK⟩
  · rename_i e id hu
    split at hk
    · rename_i e' sz n get hh
      have ho := R.obj id
      rw [hh] at ho
      obtain ⟨xs, hown, _⟩ := ho
      have hn : n ≤ maxLen := by
        rcases hown.2 with ⟨_, hn0⟩ | ⟨g, cap, cur, hv, hB, hg, hnc, hcap, _⟩
        · subst hn0; simp [maxLen]
        · omega
      exact .inr ⟨_, hk.h hn, fun K' hK => by unfold alen; rw [hu]; simp only [hh]; exact ⟨fun _ => hK⟩⟩
    · rename_i e' sz n get0 o ei szi len get hole hh
      have ho := R.obj id
      rw [hh] at ho
      obtain ⟨_, ⟨xs, hown, _⟩, _⟩ := ho
      have hn : n ≤ maxLen := by
        rcases hown.2 with ⟨_, hn0⟩ | ⟨g, cap, cur, hv, hB, hg, hnc, hcap, _⟩
        · subst hn0; simp [maxLen]
        · omega
      exact .inr ⟨_, hk.h hn, fun K' hK => by unfold alen; rw [hu]; simp only [hh]; exact ⟨fun _ => hK⟩⟩
    · exact .inl hk
  · rename_i e id k0 hu
    split at hk
    · rename_i e' sz n get0 o ei szi len get hole hh
      have ho := R.obj id
      obtain ⟨hvv, h3⟩ := hx
      rw [hh] at ho h3
      obtain ⟨_, _, hrows, _⟩ := ho
      obtain ⟨_, ys, hy, _⟩ := hrows k0 h3.1 h3.2
      have hn : len k0 ≤ maxLen := by
        rcases hy.2 with ⟨_, hn0⟩ | ⟨g, cap, cur, hv, hB, hg, hnc, hcap, _⟩
        · rw [hn0]; simp [maxLen]
        · omega
      exact .inr ⟨_, hk.h hn, fun K' hK => by unfold alen; rw [hu]; simp only [hh]; exact ⟨fun _ => hK⟩⟩
    · exact .inl hk
  · rename_i kt vt id hu
    split at hk
    · rename_i m hh
      exact .inr ⟨_, hk, fun K' hK => by unfold alen; rw [hu]; simp only [hh]; exact hK⟩
    · exact .inl hk
  · exact .inl hk

theorem alookup_par {t : TypeId} {x k : AV} {c : Bool} {K : AV → Prop} {stop : Prop} {T : TT} (hk : alookup T h t x k c K stop) : Par (alookup T h t x k c) K stop := by
  unfold alookup at hk
  split at hk
  · rename_i id
    split at hk
    all_goals first
      | exact .inl hk
      | (rename_i l kt vt n hh ht
         split at hk
         · rename_i hkt hz
           cases h1 : T.one vt with
           | false => rw [h1] at hk; exact .inl hk
           | true =>
             rw [h1, cond_true] at hk
             cases c with
             | true => exact .inr ⟨_, hk, fun K' hK => by unfold alookup; simp only [hh, ht, hkt, hz, h1, cond_true]; exact hK⟩
             | false => exact .inr ⟨_, hk, fun K' hK => by unfold alookup; simp only [hh, ht, hkt, hz, h1, cond_true, cond_false]; exact hK⟩
         · exact .inl hk)
  · exact .inl hk

/-- One operation that only looks. -/
def qop (C : Ctx) (o : Oper) (ρ : Operand → AV) (h : Heap) (K : AV → Prop) (stop : Prop) : Prop :=
  match o.op with
  | .move x => K (ρ x)
  | .assign x => K (ρ x)
  | .pick c x y => match ρ c with
    | .tt => K (ρ x)
    | .ff => K (ρ y)
    | .bool b => AskB b (K (ρ x)) (K (ρ y))
    | _ => stop
  | .build t ps => abuild C.T t (ps.toList.map fun p => (p.1, ρ p.2)) K stop
  | .load t x => aload C.T h t (ρ x) K stop
  | .nilCheck x => match ρ x with
    | .iadr m g => K (.iadr m g)
    | .radr a b c d => K (.radr a b c d)
    | .box a b => K (.box a b)
    | _ => stop
  | .binOp op t x y _ => match aeqT C.T t op (ρ x) (ρ y) with
    | some z => K z
    | none => match avB (ρ x) with
      | some _ => cond (boolTy C.T t) (abin op (ρ x) (ρ y) K stop) stop
      | none => abin op (ρ x) (ρ y) K stop
  | .unOp op _ x => aun op (ρ x) K stop
  | .convert s d x => aconvert C.T s d (ρ x) K stop
  | .slice t x lo hi none => aslice C.T t (ρ x) (lo.map ρ) (hi.map ρ) K stop
  | .fieldAddr s x f => afieldAddr C.T s (ρ x) f K stop
  | .field s x f => afield C.T s (ρ x) f K stop
  | .indexAddr t x i => aindexAddr C.T h t (ρ x) (ρ i) K stop
  | .index t x i => aindex C.T t (ρ x) (ρ i) K stop
  | .extract x i => aextract (ρ x) i K stop
  | .lookup t x k c => alookup C.T h t (ρ x) (ρ k) c K stop
  | .call c => match c.callee, c.args.toList, c.argTypes.toList with
    | .builtin .len, [x], [t] => alen C.T h t (ρ x) K stop
    | .builtin .unsafeSliceData, [x], [t] => asliceData C.T h o.type (ρ x) K stop
    | _, _, _ => stop
  | _ => stop

def Quiet (C : Ctx) (h : Heap) (o : Oper) (ρ : Operand → AV) (x : AV) : Prop :=
  ∀ env ι a w, Rel C env h ι a w → (∀ y ∈ o.op.operands, VR w (okB C h ι w) (ρ y) (rf h ι) (a.eval y)) →
    ∀ (b : Frame) (k : List Item) cs (ops : Array Oper) i rest, ops[i]? = some o → Region.wanted o (yielded ops a.tmps) = true →
      ∃ v w' ι', Steps C.P (lone (b.at a (.inRegion ops (i :: rest) :: k)) cs w) (lone (b.at (a.put o.dst v) (.inRegion ops rest :: k)) cs w') ∧ Rel C env h ι' a w' ∧ VR w' (okB C h ι' w') x (rf h ι') v

def Is (env : Env) (h : Heap) (x : AV) (env' : Env) (h' : Heap) (x' : AV) : Prop := env' = env ∧ h' = h ∧ x' = x

theorem Quiet.of {o : Oper} {ρ : Operand → AV} {x : AV}
    (hq : ∀ env ι a w, Rel C env h ι a w → (∀ y ∈ o.op.operands, VR w (okB C h ι w) (ρ y) (rf h ι) (a.eval y)) → False ∨ OpOut C a w o (Is env h x)) : Quiet C h o ρ x := by
  intro env ι a w R hρ b k cs ops i rest ho hw
  rcases hq env ι a w R hρ with hf | ⟨nx, v, w', ι', env', h', x', hr, hv, R', hx, e1, e2, e3⟩
  · exact hf.elim
  · subst e1; subst e2; subst e3
    exact ⟨v, w', ι', .one (step_op_ok ho hw hr hv), R', hx⟩

theorem Quiet.of_out {o : Oper} {ρ : Operand → AV} {x : AV} {s : (Operand → Value) → Sem Value} (he : ∀ a : Act, execOp a.eval o = (do pure (.value (← s a.eval)) : Sem Next))
    (hq : ∀ env ι a w, Rel C env h ι a w → (∀ y ∈ o.op.operands, VR w (okB C h ι w) (ρ y) (rf h ι) (a.eval y)) → False ∨ Out C a w (s a.eval) (Is env h x)) : Quiet C h o ρ x :=
  Quiet.of fun env ι a w R hρ => (hq env ι a w R hρ).imp id (OpOut.of (he a))

/-- Which objects a value leads to. -/
def idOf : AV → List Nat
  | .row id => [id]
  | .radr id _ _ _ => [id]
  | .box id _ => [id]
  | .obj id => [id]
  | .mrow id _ => [id]
  | .madr id _ _ _ _ => [id]
  | _ => []
theorem placeAt_congr {h h' : Heap} {x : AV} (hag : ∀ id ∈ idOf x, h' id = h id) : placeAt h' x = placeAt h x := by
  cases x <;> simp only [placeAt] <;> (first | rfl | (rw [hag _ (by simp [idOf])]))
theorem aload_congr {T : TT} {h h' : Heap} {t : TypeId} {x : AV} {K : AV → Prop} {stop : Prop} (hag : ∀ id ∈ idOf x, h' id = h id) : aload T h' t x K stop = aload T h t x K stop := by
  unfold aload; rw [placeAt_congr hag]
theorem aindexAddr_congr {T : TT} {h h' : Heap} {t : TypeId} {x ix : AV} {K : AV → Prop} {stop : Prop} (hag : ∀ id ∈ idOf x, h' id = h id) : aindexAddr T h' t x ix K stop = aindexAddr T h t x ix K stop := by
  unfold aindexAddr
  split
  · split
    · cases x <;> first | rfl | (simp only []; rw [hag _ (by simp [idOf])])
    · rfl
  · rfl
  · rfl
theorem alookup_congr {T : TT} {h h' : Heap} {t : TypeId} {x k : AV} {c : Bool} {K : AV → Prop} {stop : Prop} (hag : ∀ id ∈ idOf x, h' id = h id) : alookup T h' t x k c K stop = alookup T h t x k c K stop := by
  unfold alookup
  cases x <;> first | rfl | (simp only []; rw [hag _ (by simp [idOf])])
theorem alen_congr {T : TT} {h h' : Heap} {t : TypeId} {x : AV} {K : AV → Prop} {stop : Prop} (hag : ∀ id ∈ idOf x, h' id = h id) : alen T h' t x K stop = alen T h t x K stop := by
  unfold alen
  cases T.underlying t with
  | none => rfl
  | some d => cases d <;> cases x <;> first | rfl | (simp only []; rw [hag _ (by simp [idOf])])

theorem asliceData_congr {T : TT} {h h' : Heap} {t : TypeId} {x : AV} {K : AV → Prop} {stop : Prop} (hag : ∀ id ∈ idOf x, h' id = h id) : asliceData T h' t x K stop = asliceData T h t x K stop := by
  unfold asliceData
  cases T.underlying t with
  | none => rfl
  | some d => cases d <;> cases x <;> first | rfl | (simp only []; rw [hag _ (by simp [idOf])])
theorem asliceData_par {T : TT} {h : Heap} {t : TypeId} {x : AV} {K : AV → Prop} {stop : Prop} (hk : asliceData T h t x K stop) : Par (asliceData T h t x) K stop := by
  unfold asliceData at hk
  split at hk
  · rename_i hu
    exact .inr ⟨_, hk, fun K' hK => by unfold asliceData; rw [hu]; exact hK⟩
  · rename_i q hu
    split at hk
    · rename_i e sz n get hh
      by_cases hn : n = 0
      · exact .inr ⟨_, hk.t (decide_eq_true hn), fun K' hK => by unfold asliceData; rw [hu]; simp only [hh]; exact ⟨fun _ => hK, fun hf => absurd hn (of_decide_eq_false hf)⟩⟩
      · exact .inr ⟨_, hk.f (decide_eq_false hn), fun K' hK => by unfold asliceData; rw [hu]; simp only [hh]; exact ⟨fun hf => absurd (of_decide_eq_true hf) hn, fun _ => hK⟩⟩
    · exact .inl hk
  · exact .inl hk
theorem qop_quietR (R : Rel C env h ι a w) {o : Oper} {ρ : Operand → AV} (hρ : ∀ y ∈ o.op.operands, VR w (okB C h ι w) (ρ y) (rf h ι) (a.eval y)) {K : AV → Prop} {stop : Prop} (hk : qop C o ρ h K stop) :
    stop ∨ ∃ x, K x ∧ ∀ h', (∀ y ∈ o.op.operands, ∀ id ∈ idOf (ρ y), h' id = h id) → Quiet C h' o ρ x := by
  unfold qop at hk
  split at hk
  · rename_i x ho
    exact .inr ⟨_, hk, fun h' hag => Quiet.of fun env ι a w R hρ => .inr (OpOut.same R ⟨rfl, rfl, rfl⟩ (by simp [execOp, ho]) (hρ x (by rw [ho]; simp [Op.operands])))⟩
  · rename_i x ho
    exact .inr ⟨_, hk, fun h' hag => Quiet.of fun env ι a w R hρ => .inr (OpOut.same R ⟨rfl, rfl, rfl⟩ (by simp [execOp, ho]) (hρ x (by rw [ho]; simp [Op.operands])))⟩
  · rename_i c x y ho
    have m1 : c ∈ o.op.operands := by rw [ho]; simp [Op.operands]
    have m2 : x ∈ o.op.operands := by rw [ho]; simp [Op.operands]
    have m3 : y ∈ o.op.operands := by rw [ho]; simp [Op.operands]
    have yes : ρ c = .tt ∨ ρ c = .bool true → ∀ h', (∀ y ∈ o.op.operands, ∀ id ∈ idOf (ρ y), h' id = h id) → Quiet C h' o ρ (ρ x) := fun e h' hag => Quiet.of fun env ι a w R hρ => .inr (by
      have e2 : a.eval c = .bool true := by have := hρ c m1; rcases e with e | e <;> (rw [e] at this; exact this)
      exact OpOut.same R ⟨rfl, rfl, rfl⟩ (by simp [execOp, ho, e2, asBool]) (hρ x m2))
    have no : ρ c = .ff ∨ ρ c = .bool false → ∀ h', (∀ y ∈ o.op.operands, ∀ id ∈ idOf (ρ y), h' id = h id) → Quiet C h' o ρ (ρ y) := fun e h' hag => Quiet.of fun env ι a w R hρ => .inr (by
      have e2 : a.eval c = .bool false := by have := hρ c m1; rcases e with e | e <;> (rw [e] at this; exact this)
      exact OpOut.same R ⟨rfl, rfl, rfl⟩ (by simp [execOp, ho, e2, asBool]) (hρ y m3))
    split at hk
    · rename_i e; exact .inr ⟨_, hk, yes (.inl e)⟩
    · rename_i e; exact .inr ⟨_, hk, no (.inl e)⟩
    · rename_i b e
      cases b with
      | true => exact .inr ⟨_, hk.t rfl, yes (.inr e)⟩
      | false => exact .inr ⟨_, hk.f rfl, no (.inr e)⟩
    · exact .inl hk
  · rename_i t ps ho
    rcases abuild_par hk with hk | ⟨y, hk, hp⟩
    · exact .inl hk
    · refine .inr ⟨y, hk, fun h' hag => Quiet.of_out (s := fun ev => Instr.build t (ps.map fun (i, x) => (i, ev x))) (fun a => by simp [execOp, ho]) fun env ι a w R hρ => abuild_ok R (by simp) (fun k p q hp hq => ?_) (hp (Is env h' y env h') ⟨rfl, rfl, rfl⟩)⟩
      simp only [List.getElem?_map, Array.getElem?_toList] at hp
      rw [Array.getElem?_map] at hq
      cases hkk : ps[k]? with
      | none => rw [hkk] at hp; cases hp
      | some r =>
        rw [hkk] at hp hq
        cases hp; cases hq
        refine ⟨rfl, hρ _ ?_⟩
        rw [ho]
        simp only [Op.operands, List.mem_toArray, List.mem_map]
        exact ⟨r, Array.mem_toList_iff.mpr (Array.mem_of_getElem? hkk), rfl⟩
  · rename_i t x ho
    rcases aload_par hk with hk | ⟨y, hk, hp⟩
    · exact .inl hk
    · exact .inr ⟨y, hk, fun h' hag => Quiet.of_out (s := fun ev => Instr.loadAt t (ev x)) (fun a => by simp [execOp, ho]) fun env ι a w R hρ => aload_ok R (hρ x (by rw [ho]; simp [Op.operands])) (by rw [aload_congr (fun id hid => hag x (by rw [ho]; simp [Op.operands]) id hid)]; exact hp (Is env h' y env h') ⟨rfl, rfl, rfl⟩)⟩
  · rename_i x ho
    have m1 : x ∈ o.op.operands := by rw [ho]; simp [Op.operands]
    split at hk
    · rename_i m g e
      refine .inr ⟨_, hk, fun h' hag => Quiet.of fun env ι a w R hρ => .inr ?_⟩
      have hx := hρ x m1
      rw [e] at hx
      obtain ⟨ad, e2, hx2⟩ := hx
      exact OpOut.same R ⟨rfl, rfl, rfl⟩ (by simp [execOp, ho, e2]) ⟨ad, rfl, hx2⟩
    · rename_i b1 b2 b3 b4 e
      refine .inr ⟨_, hk, fun h' hag => Quiet.of fun env ι a w R hρ => .inr ?_⟩
      have hx := hρ x m1
      rw [e] at hx
      obtain ⟨g, n, c, h1, e2, hx2⟩ := hx
      exact OpOut.same R ⟨rfl, rfl, rfl⟩ (by simp [execOp, ho, e2]) ⟨g, n, c, h1, rfl, hx2⟩
    · rename_i b1 b2 e
      refine .inr ⟨_, hk, fun h' hag => Quiet.of fun env ι a w R hρ => .inr ?_⟩
      have hx := hρ x m1
      rw [e] at hx
      obtain ⟨g, h1, e2⟩ := hx
      exact OpOut.same R ⟨rfl, rfl, rfl⟩ (by simp [execOp, ho, e2]) ⟨g, h1, rfl⟩
    · exact .inl hk
  · rename_i op t x y ty ho
    have m1 : x ∈ o.op.operands := by rw [ho]; simp [Op.operands]
    have m2 : y ∈ o.op.operands := by rw [ho]; simp [Op.operands]
    have main : abin op (ρ x) (ρ y) K stop → (C.P.underlying t = some .bool ∨ avB (ρ x) = none) → stop ∨ ∃ x, K x ∧ ∀ h', (∀ y ∈ o.op.operands, ∀ id ∈ idOf (ρ y), h' id = h id) → Quiet C h' o ρ x := by
      intro hk hb
      rcases abin_par hk with hk | ⟨z, hk, hp⟩
      · exact .inl hk
      · refine .inr ⟨z, hk, fun h' hag => Quiet.of_out (s := fun ev => do eqGuard op t x y (ev x) (ev y); binOp op t (ev x) (ev y)) (fun a => by simp [execOp, ho]) fun env ι a w R hρ => ?_⟩
        rcases abin_ok (K := fun z' => z' = z) t hb (hp _ rfl) (hρ x m1) (hρ y m2) x y with hf | ⟨z', m, hr, hz, e⟩
        · exact .inl hf
        · subst e; exact .inr (Out.same R ⟨rfl, rfl, rfl⟩ hr hz)
    split at hk
    · rename_i z hz
      refine .inr ⟨z, hk, fun h' hag => Quiet.of_out (s := fun ev => do eqGuard op t x y (ev x) (ev y); binOp op t (ev x) (ev y)) (fun a => by simp [execOp, ho]) fun env ι a w R hρ => ?_⟩
      obtain ⟨m, hr, hv⟩ := aeqT_ok hz (hρ x m1) (hρ y m2) x y
      exact .inr (Out.same R ⟨rfl, rfl, rfl⟩ hr hv)
    split at hk
    · cases hb : boolTy C.T t with
      | false => rw [hb] at hk; exact .inl hk
      | true => rw [hb] at hk; exact main hk (.inl (boolTy_ok hb))
    · rename_i e; exact main hk (.inr e)
  · rename_i op t x ho
    rcases aun_par hk with hk | ⟨y, hk, hp⟩
    · exact .inl hk
    · refine .inr ⟨y, hk, fun h' hag => Quiet.of_out (s := fun ev => Op.unary op (ev x)) (fun a => by simp [execOp, ho]) fun env ι a w R hρ => ?_⟩
      rcases aun_ok R (K := fun z => z = y) (hρ x (by rw [ho]; simp [Op.operands])) (hp _ rfl) with hf | ⟨z, m, hr, hz, e⟩
      · exact .inl hf
      · subst e; exact .inr (Out.same R ⟨rfl, rfl, rfl⟩ hr hz)
  · rename_i s d x ho
    rcases aconvert_par hk with hk | ⟨y, hk, hp⟩
    · exact .inl hk
    · exact .inr ⟨y, hk, fun h' hag => Quiet.of_out (s := fun ev => convert s d (ev x)) (fun a => by simp [execOp, ho]) fun env ι a w R hρ => aconvert_ok R (hρ x (by rw [ho]; simp [Op.operands])) (hp (Is env h' y env h') ⟨rfl, rfl, rfl⟩)⟩
  · rename_i t x lo hi ho
    rcases aslice_par hk with hk | ⟨y, hk, hp⟩
    · exact .inl hk
    · refine .inr ⟨y, hk, fun h' hag => Quiet.of_out (s := fun ev => Instr.sliceAt t (ev x) (lo.map ev) (hi.map ev) none) (fun a => by simp [execOp, ho]) fun env ι a w R hρ =>
        aslice_ok R (hρ x (by rw [ho]; simp [Op.operands])) ⟨by simp, ?_⟩ ⟨by simp, ?_⟩ (hp (Is env h' y env h') ⟨rfl, rfl, rfl⟩)⟩
      · intro y u hy hu
        cases lo with
        | none => cases hy
        | some z => cases hy; cases hu; exact hρ z (by rw [ho]; simp [Op.operands])
      · intro y u hy hu
        cases hi with
        | none => cases hy
        | some z => cases hy; cases hu; exact hρ z (by rw [ho]; simp [Op.operands])
  · rename_i s x f ho
    rcases afieldAddr_par hk with hk | ⟨y, hk, hp⟩
    · exact .inl hk
    · exact .inr ⟨y, hk, fun h' hag => Quiet.of_out (s := fun ev => Instr.fieldAt s (ev x) f) (fun a => by simp [execOp, ho]) fun env ι a w R hρ => afieldAddr_ok R (hρ x (by rw [ho]; simp [Op.operands])) (hp (Is env h' y env h') ⟨rfl, rfl, rfl⟩)⟩
  · rename_i s x f ho
    rcases afield_par hk with hk | ⟨y, hk, hp⟩
    · exact .inl hk
    · exact .inr ⟨y, hk, fun h' hag => Quiet.of_out (s := fun ev => Instr.field s (ev x) f) (fun a => by simp [execOp, ho]) fun env ι a w R hρ => afield_ok R (hρ x (by rw [ho]; simp [Op.operands])) (hp (Is env h' y env h') ⟨rfl, rfl, rfl⟩)⟩
  · rename_i t x i ho
    rcases aindexAddr_par hk with hk | ⟨y, hk, hp⟩
    · exact .inl hk
    · exact .inr ⟨y, hk, fun h' hag => Quiet.of_out (s := fun ev => Instr.indexAt t (ev x) (ev i)) (fun a => by simp [execOp, ho]) fun env ι a w R hρ =>
        aindexAddr_ok R (hρ x (by rw [ho]; simp [Op.operands])) (hρ i (by rw [ho]; simp [Op.operands])) (by rw [aindexAddr_congr (fun id hid => hag x (by rw [ho]; simp [Op.operands]) id hid)]; exact hp (Is env h' y env h') ⟨rfl, rfl, rfl⟩)⟩
  · rename_i t x i ho
    rcases aindex_par hk with hk | ⟨y, hk, hp⟩
    · exact .inl hk
    · exact .inr ⟨y, hk, fun h' hag => Quiet.of_out (s := fun ev => Instr.index t (ev x) (ev i)) (fun a => by simp [execOp, ho]) fun env ι a w R hρ =>
        aindex_ok R (hρ x (by rw [ho]; simp [Op.operands])) (hρ i (by rw [ho]; simp [Op.operands])) (hp (Is env h' y env h') ⟨rfl, rfl, rfl⟩)⟩
  · rename_i x i ho
    rcases aextract_par hk with hk | ⟨y, hk, hp⟩
    · exact .inl hk
    · exact .inr ⟨y, hk, fun h' hag => Quiet.of_out (s := fun ev => Instr.extract (ev x) i) (fun a => by simp [execOp, ho]) fun env ι a w R hρ => aextract_ok R (hρ x (by rw [ho]; simp [Op.operands])) (hp (Is env h' y env h') ⟨rfl, rfl, rfl⟩)⟩
  · rename_i t x k c ho
    rcases alookup_par hk with hk | ⟨y, hk, hp⟩
    · exact .inl hk
    · refine .inr ⟨y, hk, fun h' hag => Quiet.of_out (s := fun ev => Instr.lookup t (ev x) (ev k) c) (fun a => by simp [execOp, ho]) fun env ι a w R hρ => ?_⟩
      rcases alookup_ok R (K := fun z => z = y) (hρ x (by rw [ho]; simp [Op.operands])) (hρ k (by rw [ho]; simp [Op.operands])) (by rw [alookup_congr (fun id hid => hag x (by rw [ho]; simp [Op.operands]) id hid)]; exact hp _ rfl) with hf | ⟨z, m, hr, hz, e⟩
      · exact .inl hf
      · subst e; exact .inr (Out.same R ⟨rfl, rfl, rfl⟩ hr hz)
  · rename_i c ho
    split at hk
    · rename_i x t e1 e2 e3
      have e2' := toList_two e2
      have e3' := toList_two e3
      have m1 : x ∈ o.op.operands := by rw [ho]; simp [Op.operands, Call.operands, e1, e2']
      rcases alen_par R (hρ x m1) hk with hk | ⟨y, hk, hp⟩
      · exact .inl hk
      · exact .inr ⟨y, hk, fun h' hag => Quiet.of_out (s := fun ev => Builtin.len_ #[t] o.type #[ev x]) (fun a => by simp [execOp, ho, resolve, e1, e2', e3', invoke, builtin]) fun env ι a w R hρ => alen_ok R o.type (hρ x m1) (by rw [alen_congr (fun id hid => hag x m1 id hid)]; exact hp (Is env h' y env h') ⟨rfl, rfl, rfl⟩)⟩
    · rename_i x t e1 e2 e3
      have e2' := toList_two e2
      have e3' := toList_two e3
      have m1 : x ∈ o.op.operands := by rw [ho]; simp [Op.operands, Call.operands, e1, e2']
      rcases asliceData_par hk with hk | ⟨y, hk, hp⟩
      · exact .inl hk
      · exact .inr ⟨y, hk, fun h' hag => Quiet.of_out (s := fun ev => Builtin.unsafeSliceData_ #[t] o.type #[ev x]) (fun a => by simp [execOp, ho, resolve, e1, e2', e3', invoke, builtin]) fun env ι a w R hρ => asliceData_ok R (hρ x m1) (by rw [asliceData_congr (fun id hid => hag x m1 id hid)]; exact hp (Is env h' y env h') ⟨rfl, rfl, rfl⟩)⟩
    · exact .inl hk
  · exact .inl hk
theorem qop_quiet (R : Rel C env h ι a w) {o : Oper} {ρ : Operand → AV} (hρ : ∀ y ∈ o.op.operands, VR w (okB C h ι w) (ρ y) (rf h ι) (a.eval y)) {K : AV → Prop} {stop : Prop} (hk : qop C o ρ h K stop) :
    stop ∨ ∃ x, K x ∧ Quiet C h o ρ x := (qop_quietR R hρ hk).imp id fun ⟨x, hx, hq⟩ => ⟨x, hx, hq h fun _ _ _ _ => rfl⟩
end

end Go.Proofs.YtfodjmemdkibpaaDoor.V

namespace Go.Proofs.YtfodjmemdkibpaaDoor.V
open Go Go.RowKit
set_option linter.unusedSimpArgs false
set_option linter.unusedVariables false

def tmpOf : Operand → Option Nat
  | .tmp t => some t
  | _ => none
def looks (ops : Array Oper) (o : Oper) : List Nat :=
  o.op.operands.toList.filterMap tmpOf ++ (match o.guard with | some (j, _) => (dstOf ops j).toList | none => [])

/-- Does this statement wait for all that stand ahead of it? -/
def tailOp (i : Nat) (o : Oper) : Bool := cond (Nat.beq i 0) false (cond (Nat.ble i o.after.toList.length) ((List.range i).all fun j => o.after.toList.any fun e => Region.binds .any e && Nat.beq e.on j) false)
def allTail : List Oper → Nat → Bool
  | [], _ => true
  | o :: rest, i => cond (tailOp i o) (allTail rest (i + 1)) false
def pfxOf : List Oper → Nat → Nat
  | [], i => i
  | o :: rest, i => cond (allTail (o :: rest) i) i (pfxOf rest (i + 1))

def drawStat (ops : Array Oper) : Bool := (fun p => Nat.ble p ops.size && (List.range ops.size).all fun i => match ops.toList[i]? with
  | none => false
  | some o => (o.after.toList.all fun e => !Region.binds .any e || Nat.blt e.on i) &&
    cond (Nat.blt i p) (((looks ops o).all fun s => (List.range p).all fun j => match dstOf ops j with
      | some d => !(Nat.beq d s) || (o.after.toList.any fun e => Region.binds .any e && Nat.beq e.on j)
      | none => true) &&
    ((List.range p).all fun j => Nat.beq j i || match dstOf ops j, o.dst with
      | some d, some d' => !(Nat.beq d d')
      | _, _ => true)) (tailOp i o)) (pfxOf ops.toList 0)

/-! ### schedules -/
/-- A list of what is left to do that keeps the order that is asked for. -/
def Sched (ops : Array Oper) : Array Bool → List Nat → Prop
  | listed, [] => ∀ j, j < ops.size → listed.getD j true = true
  | listed, i :: rest => i < ops.size ∧ listed.getD i true = false ∧ (∀ o, ops[i]? = some o → ∀ e ∈ o.after, Region.binds .any e = true → listed.getD e.on false = true) ∧ Sched ops (listed.setIfInBounds i true) rest

theorem go_sched {ops : Array Oper} (hlt : ∀ (i : Nat) o, ops[i]? = some o → ∀ e ∈ o.after, Region.binds .any e = true → e.on < i) :
    ∀ (fuel t : Nat) (listed : Array Bool) (acc : List Nat), listed.size = ops.size → listed.toList.countP (· == false) = fuel →
      ∃ rest, Region.linearise.go .any ops fuel t listed acc = acc.reverse ++ rest ∧ Sched ops listed rest := by
  intro fuel
  induction fuel with
  | zero =>
    intro t listed acc hs hc
    refine ⟨[], by simp [Region.linearise.go], fun j hj => ?_⟩
    have hj' : j < listed.size := by omega
    have hmem : listed[j] ∈ listed.toList := by simp
    have := List.countP_eq_zero.mp hc _ hmem
    rw [Array.getD_eq_getD_getElem?, Array.getElem?_eq_getElem hj']
    simpa using this
  | succ fuel ih =>
    intro t listed acc hs hc
    have hready : ∃ i, i ∈ (List.range ops.size).filter (fun i => !listed.getD i true && ((ops[i]?).map (·.after.all fun e => !Region.binds .any e || listed.getD e.on false)).getD false) := by
      have hex : ∃ j, j < ops.size ∧ listed.getD j true = false := by
        have hpos : 0 < listed.toList.countP (· == false) := by omega
        obtain ⟨b, hb, hbf⟩ := List.countP_pos_iff.mp hpos
        obtain ⟨j, hj, rfl⟩ := List.getElem_of_mem hb
        have hj' : j < listed.size := by simpa using hj
        refine ⟨j, by omega, ?_⟩
        rw [Array.getD_eq_getD_getElem?, Array.getElem?_eq_getElem hj']
        simpa using hbf
      have hmin : ∃ j, (j < ops.size ∧ listed.getD j true = false) ∧ ∀ m, m < j → ¬ (m < ops.size ∧ listed.getD m true = false) := by
        obtain ⟨j, hj⟩ := hex
        induction j using Nat.strongRecOn with
        | _ j ihj =>
          by_cases hm : ∃ m, m < j ∧ (m < ops.size ∧ listed.getD m true = false)
          · obtain ⟨m, h1, h2⟩ := hm
            exact ihj m h1 h2
          · exact ⟨j, hj, fun m h1 h2 => hm ⟨m, h1, h2⟩⟩
      obtain ⟨j, ⟨h1, h2⟩, h3⟩ := hmin
      refine ⟨j, ?_⟩
      rw [List.mem_filter]
      refine ⟨List.mem_range.mpr h1, ?_⟩
      rw [h2, Array.getElem?_eq_getElem h1]
      simp only [Bool.not_false, Option.map_some, Option.getD_some, Bool.true_and, Array.all_eq_true', Bool.or_eq_true, Bool.not_eq_true']
      intro e he
      cases hb : Region.binds .any e with
      | false => exact .inl rfl
      | true =>
        have hlt' := hlt j _ (Array.getElem?_eq_getElem h1) e he hb
        have := h3 e.on hlt'
        refine .inr ?_
        have hsz : e.on < listed.size := by omega
        rw [Array.getD_eq_getD_getElem?, Array.getElem?_eq_getElem hsz]
        cases hq : listed[e.on] with
        | true => rfl
        | false => exact absurd ⟨by omega, by rw [Array.getD_eq_getD_getElem?, Array.getElem?_eq_getElem hsz]; simpa using hq⟩ this
    generalize hrs : (List.range ops.size).filter (fun i => !listed.getD i true && ((ops[i]?).map (·.after.all fun e => !Region.binds .any e || listed.getD e.on false)).getD false) = rs at hready
    have hlen : 0 < rs.length := by
      obtain ⟨i, hi⟩ := hready
      exact List.length_pos_of_mem hi
    have hlt2 := Nat.mod_lt t hlen
    have hgo : Region.linearise.go .any ops (fuel + 1) t listed acc = Region.linearise.go .any ops fuel (t / rs.length) (listed.setIfInBounds rs[t % rs.length] true) (rs[t % rs.length] :: acc) := by
      simp only [Region.linearise.go]
      rw [hrs, List.getElem?_eq_getElem hlt2]
    have hin : rs[t % rs.length] ∈ rs := List.getElem_mem hlt2
    generalize rs[t % rs.length] = i at hgo hin
    rw [← hrs, List.mem_filter] at hin
    obtain ⟨hi1, hi2⟩ := hin
    have hi1 := List.mem_range.mp hi1
    rw [Bool.and_eq_true] at hi2
    have hif : listed.getD i true = false := by simpa using hi2.1
    have hil : i < listed.size := by omega
    have hif' : listed[i] = false := by
      rw [Array.getD_eq_getD_getElem?, Array.getElem?_eq_getElem hil] at hif
      simpa using hif
    obtain ⟨rest, hr1, hr2⟩ := ih (t / rs.length) (listed.setIfInBounds i true) (i :: acc) (by simpa using hs) (by
      rw [Array.toList_setIfInBounds]
      have hl : i < listed.toList.length := by simpa using hil
      have h7 := List.countP_set (p := (· == false)) (l := listed.toList) (i := i) (a := true) hl
      have e1 : listed.toList[i] = false := by simpa using hif'
      have e2 : ((true == false) = true) = False := by simp
      have e3 : ((listed.toList[i] == false) = true) = True := by rw [e1]; simp
      simp only [e2, e3, if_true, if_false] at h7
      rw [h7, hc]; rfl)
    refine ⟨i :: rest, by rw [hgo, hr1]; simp, hi1, hif, fun o ho e he hb => ?_, hr2⟩
    have h3 := hi2.2
    rw [ho] at h3
    simp only [Option.map_some, Option.getD_some, Array.all_eq_true', Bool.or_eq_true, Bool.not_eq_true'] at h3
    rcases h3 e he with h4 | h4
    · rw [hb] at h4; cases h4
    · exact h4

theorem sched_of {P : Program} {ops : Array Oper} (hm : P.follows .mixedOrders = true) (hlt : ∀ (i : Nat) o, ops[i]? = some o → ∀ e ∈ o.after, Region.binds .any e = true → e.on < i) (t : Nat) :
    Sched ops (Array.replicate ops.size false) (Region.schedule (P.follows .mixedOrders) ops t) := by
  obtain ⟨rest, h1, h2⟩ := go_sched hlt ops.size t (Array.replicate ops.size false) [] (by simp) (by
    rw [Array.toList_replicate]
    exact (List.countP_eq_length.mpr (fun b hb => by rw [List.eq_of_mem_replicate hb]; rfl)).trans (by simp))
  rw [hm]
  simp only [Region.schedule, Bool.true_or, if_true, Region.linearise]
  rw [h1]; simpa using h2

/-! ### in the text's order -/
structure CallQ (C : Ctx) (h : Heap) (o : Oper) (env : Env) (K : AV → Prop) : Prop where
  out : ∃ x, K x ∧ Quiet C h o (ev env) x

def withDst (o : Oper) (F : Option Nat → Prop) : Prop := match o.dst with | none => F none | some d => F (some d)
theorem withDst_eq (o : Oper) (F : Option Nat → Prop) : withDst o F = F o.dst := by unfold withDst; cases o.dst <;> rfl

def aqStep (C : Ctx) (h : Heap) (o : Oper) (dst : Option Nat) (env : Env) (K : Env → Prop) : Prop :=
  match calls? o with
  | some _ => CallQ C h o env (fun x => K (putE env dst x))
  | none => qop C o (ev env) h (fun x => fv x fun x => K (putE env dst x)) False

def aq (C : Ctx) (h : Heap) (ops : Array Oper) : List Oper → Env → (Env → Prop) → Prop
  | [], env, K => K env
  | o :: rest, env, K => withDst o fun dst => cond (okD C.N dst) (match o.guard with
      | none => aqStep C h o dst env (fun env' => aq C h ops rest env' K)
      | some (j, want) => match dstOf ops j with
        | some d => match env d with
          | .tt => cond want (aqStep C h o dst env (fun env' => aq C h ops rest env' K)) (aq C h ops rest (putE env dst .sk) K)
          | .ff => cond want (aq C h ops rest (putE env dst .sk) K) (aqStep C h o dst env (fun env' => aq C h ops rest env' K))
          | .bool b => AskB b (cond want (aqStep C h o dst (upd env d .tt) (fun env' => aq C h ops rest env' K)) (aq C h ops rest (putE (upd env d .tt) dst .sk) K))
              (cond want (aq C h ops rest (putE (upd env d .ff) dst .sk) K) (aqStep C h o dst (upd env d .ff) (fun env' => aq C h ops rest env' K)))
          | .sk => aq C h ops rest (putE env dst .sk) K
          | _ => False
        | none => False) False

def Eqv (x y : AV) : Prop := Le x y ∧ Le y x
theorem Eqv.refl (x : AV) : Eqv x x := ⟨Le.refl _, Le.refl _⟩
theorem Eqv.trans {x y z : AV} (h : Eqv x y) (k : Eqv y z) : Eqv x z := ⟨h.1.trans k.1, k.2.trans h.2⟩

def GuardSem (ops : Array Oper) (E : Env) (o : Oper) (want' : Bool) : Prop :=
  match o.guard with
  | none => want' = true
  | some (j, want) => ∃ d, dstOf ops j = some d ∧ ((∃ b, (∀ w ok r v, VR w ok (E d) r v → v = .bool b) ∧ want' = (b == want)) ∨ ((∀ w ok r v, VR w ok (E d) r v → v = undef) ∧ want' = false))

def OpSem (C : Ctx) (h : Heap) (ops : Array Oper) (E : Env) (j : Nat) : Prop :=
  ∃ o, ops[j]? = some o ∧ okD C.N o.dst = true ∧
    ((GuardSem ops E o true ∧ ∃ x, Quiet C h o (ev E) x ∧ ∀ d, o.dst = some d → Le x (E d)) ∨ (GuardSem ops E o false ∧ ∀ d, o.dst = some d → Le .sk (E d)))

theorem Quiet.congr {C : Ctx} {h : Heap} {o : Oper} {env env' : Env} {x : AV} (hq : Quiet C h o (ev env) x) (he : ∀ s, Operand.tmp s ∈ o.op.operands → Le (env' s) (env s)) : Quiet C h o (ev env') x := by
  intro e ι a w R hρ
  refine hq e ι a w R fun y hy => ?_
  have := hρ y hy
  cases y with
  | tmp s => exact he s hy _ _ _ _ this
  | const v => exact this
  | global g => exact this
  | func f => exact this

theorem looks_tmp {ops : Array Oper} {o : Oper} {s : Nat} (hs : Operand.tmp s ∈ o.op.operands) : s ∈ looks ops o := by
  unfold looks
  rw [List.mem_append]
  exact .inl (List.mem_filterMap.mpr ⟨.tmp s, by simpa using hs, rfl⟩)
theorem looks_guard {ops : Array Oper} {o : Oper} {j d : Nat} {want : Bool} (hg : o.guard = some (j, want)) (hd : dstOf ops j = some d) : d ∈ looks ops o := by
  unfold looks
  rw [List.mem_append, hg]
  exact .inr (by simp [hd])

structure Stat (ops : Array Oper) (p : Nat) : Prop where
  le : p ≤ ops.size
  edge : ∀ (i : Nat) o, ops[i]? = some o → ∀ e ∈ o.after, Region.binds .any e = true → e.on < i
  look : ∀ (i : Nat) o, i < p → ops[i]? = some o → ∀ s ∈ looks ops o, ∀ j, j < p → dstOf ops j = some s → ∃ e ∈ o.after, Region.binds .any e = true ∧ e.on = j
  one : ∀ i j d, i < p → j < p → dstOf ops i = some d → dstOf ops j = some d → i = j
  tail : ∀ (i : Nat) o, p ≤ i → ops[i]? = some o → ∀ j, j < i → ∃ e ∈ o.after, Region.binds .any e = true ∧ e.on = j

/-- What the free ones need. -/
structure Stat0 (ops : Array Oper) (p : Nat) : Prop where
  le : p ≤ ops.size
  edge : ∀ (i : Nat) o, ops[i]? = some o → ∀ e ∈ o.after, Region.binds .any e = true → e.on < i
  look : ∀ (i : Nat) o, i < p → ops[i]? = some o → ∀ s ∈ looks ops o, ∀ j, j < p → dstOf ops j = some s → ∃ e ∈ o.after, Region.binds .any e = true ∧ e.on = j
  one : ∀ i j d, i < p → j < p → dstOf ops i = some d → dstOf ops j = some d → i = j
theorem Stat.to0 {ops : Array Oper} {p : Nat} (S : Stat ops p) : Stat0 ops p := ⟨S.le, S.edge, S.look, S.one⟩

theorem dstOf_lt {ops : Array Oper} {j d : Nat} (h : dstOf ops j = some d) : j < ops.size := by
  unfold dstOf at h
  rcases Nat.lt_or_ge j ops.size with h' | h'
  · exact h'
  · rw [List.getElem?_eq_none (by simpa using h')] at h; cases h

theorem tailOp_ok {i : Nat} {o : Oper} (h : tailOp i o = true) : ∀ j, j < i → ∃ e ∈ o.after, Region.binds .any e = true ∧ e.on = j := by
  intro j hj
  unfold tailOp at h
  cases h0 : Nat.beq i 0 with
  | true => rw [h0] at h; cases h
  | false =>
    rw [h0, cond_false] at h
    cases h1 : Nat.ble i o.after.toList.length with
    | false => rw [h1] at h; cases h
    | true =>
      rw [h1, cond_true] at h
      obtain ⟨e, he, h3⟩ := List.any_eq_true.mp (List.all_eq_true.mp h j (List.mem_range.mpr hj))
      rw [Bool.and_eq_true] at h3
      exact ⟨e, by simpa using he, h3.1, Nat.eq_of_beq_eq_true h3.2⟩

theorem Stat.of {ops : Array Oper} (hs : drawStat ops = true) : Stat ops (pfxOf ops.toList 0) := by
  unfold drawStat at hs
  generalize pfxOf ops.toList 0 = p at hs
  rw [Bool.and_eq_true] at hs
  obtain ⟨hle, hs⟩ := hs
  have key : ∀ (i : Nat) o, ops[i]? = some o → (o.after.toList.all fun e => !Region.binds .any e || Nat.blt e.on i) = true ∧
    cond (Nat.blt i p) (((looks ops o).all fun s => (List.range p).all fun j => match dstOf ops j with
      | some d => !(Nat.beq d s) || (o.after.toList.any fun e => Region.binds .any e && Nat.beq e.on j)
      | none => true) &&
    ((List.range p).all fun j => Nat.beq j i || match dstOf ops j, o.dst with
      | some d, some d' => !(Nat.beq d d')
      | _, _ => true)) (tailOp i o) = true := by
    intro i o ho
    have hi : i < ops.size := (Array.getElem?_eq_some_iff.1 ho).1
    have := List.all_eq_true.mp hs i (List.mem_range.mpr hi)
    have ho' : ops.toList[i]? = some o := by simpa using ho
    rw [ho'] at this
    simpa only [Bool.and_eq_true] using this
  have hlt : ∀ i, i < p → Nat.blt i p = true := fun i hi => by rw [Nat.blt_eq]; exact hi
  refine ⟨Nat.ble_eq ▸ hle, ?_, ?_, ?_, ?_⟩
  · intro i o ho e he hb
    have := List.all_eq_true.mp (key i o ho).1 e (by simpa using he)
    rw [hb] at this
    simpa [Nat.blt_eq] using this
  · intro i o hip ho s hs' j hjp hj
    have h0 := (key i o ho).2
    rw [hlt i hip, cond_true, Bool.and_eq_true] at h0
    have h1 := List.all_eq_true.mp h0.1 s hs'
    have h2 := List.all_eq_true.mp h1 j (List.mem_range.mpr hjp)
    rw [hj] at h2
    simp only [Nat.beq_refl, Bool.not_true, Bool.false_or] at h2
    obtain ⟨e, he, h3⟩ := List.any_eq_true.mp h2
    rw [Bool.and_eq_true] at h3
    exact ⟨e, by simpa using he, h3.1, Nat.eq_of_beq_eq_true h3.2⟩
  · intro i j d hip hjp hi hj
    have hi' := hi
    unfold dstOf at hi'
    cases ho : ops.toList[i]? with
    | none => rw [ho] at hi'; cases hi'
    | some o =>
      rw [ho] at hi'
      have hd : o.dst = some d := hi'
      have h0 := (key i o (by simpa using ho)).2
      rw [hlt i hip, cond_true, Bool.and_eq_true] at h0
      have h1 := List.all_eq_true.mp h0.2 j (List.mem_range.mpr hjp)
      rw [hj, hd] at h1
      simp only [Nat.beq_refl, Bool.not_true, Bool.or_false] at h1
      exact (Nat.eq_of_beq_eq_true h1).symm
  · intro i o hip ho
    have h0 := (key i o ho).2
    have : Nat.blt i p = false := by rw [Bool.eq_false_iff]; intro e; rw [Nat.blt_eq] at e; omega
    rw [this, cond_false] at h0
    exact tailOp_ok h0

section
variable {C : Ctx} {h : Heap} {ops : Array Oper}

theorem aq_ok {p : Nat} (S : Stat0 ops p) : ∀ (idxs : List Oper) (lo : Nat), idxs = (ops.toList.take p).drop lo → ∀ (env : Env) (ι : Loc) (a : Act) (w : World) (K : Env → Prop), Rel C env h ι a w → aq C h ops idxs env K →
    ∃ E, K E ∧ (∀ s, (∀ j, lo ≤ j → j < p → dstOf ops j ≠ some s) → Eqv (env s) (E s)) ∧ ∀ j, lo ≤ j → j < p → OpSem C h ops E j := by
  intro idxs
  have h4 : ops.toList.length = ops.size := Array.length_toList
  have h5 : (ops.toList.take p).length = p := by rw [List.length_take, h4]; have := S.le; omega
  induction idxs with
  | nil =>
    intro lo hl env ι a w K R hq
    refine ⟨env, hq, fun s _ => Eqv.refl _, fun j h1 h2 => ?_⟩
    have h3 : ((ops.toList.take p).drop lo).length = 0 := by rw [← hl]; rfl
    rw [List.length_drop, h5] at h3; omega
  | cons o rest ih =>
    intro i hl env ι a w K R hq
    have hilt : i < (ops.toList.take p).length := by
      rcases Nat.lt_or_ge i (ops.toList.take p).length with h' | h'
      · exact h'
      · rw [List.drop_eq_nil_of_le h'] at hl; cases hl
    rw [List.drop_eq_getElem_cons hilt] at hl
    injection hl with e1 e2
    have hip : i < p := by omega
    have ho : ops.toList[i]? = some o := by
      have : (ops.toList.take p)[i]? = some o := by rw [List.getElem?_eq_getElem hilt, ← e1]
      rwa [List.getElem?_take_of_lt hip] at this
    have hrest : rest = (ops.toList.take p).drop (i + 1) := e2
    unfold aq at hq
    rw [withDst_eq] at hq
    · have ho' : ops[i]? = some o := by simpa using ho
      have hdsti : dstOf ops i = o.dst := by unfold dstOf; rw [ho]; rfl
      cases hd : okD C.N o.dst with
      | false => rw [hd] at hq; exact hq.elim
      | true =>
        rw [hd, cond_true] at hq
        -- a looked-at slot is written by nothing from here on
        have hfree : ∀ s ∈ looks ops o, ∀ j, i ≤ j → j < p → dstOf ops j ≠ some s := by
          intro s hs j hij hjp e
          obtain ⟨ed, h1, h2, h3⟩ := S.look i o hip ho' s hs j hjp e
          have := S.edge i o ho' ed h1 h2
          omega
        have step : ∀ (env1 : Env) (ι1 : Loc) (a1 : Act) (w1 : World), Rel C env1 h ι1 a1 w1 → (∀ s, Eqv (env s) (env1 s)) → (∀ E, (∀ s, s ∈ looks ops o → Eqv (env1 s) (E s)) → GuardSem ops E o true) →
            (Region.wanted o (yielded ops a1.tmps) = true) → aqStep C h o o.dst env1 (fun env' => aq C h ops rest env' K) →
            ∃ E, K E ∧ (∀ s, (∀ j, i ≤ j → j < p → dstOf ops j ≠ some s) → Eqv (env s) (E s)) ∧ ∀ j, i ≤ j → j < p → OpSem C h ops E j := by
          intro env1 ι1 a1 w1 R1 heq hguard hwant hstep
          have hx : ∃ x, aq C h ops rest (putE env1 o.dst x) K ∧ Quiet C h o (ev env1) x := by
            unfold aqStep at hstep
            split at hstep
            · exact hstep.out
            · rcases qop_quiet R1 (fun y _ => ev_ok R1 y) hstep with hf | hx
              · exact hf.elim
              · exact hx.imp fun x hp => ⟨(fv_eq _ _).mp hp.1, hp.2⟩
          obtain ⟨x, hk, hqx⟩ := hx
          obtain ⟨v, w2, ι2, _, R2, hv⟩ := hqx env1 ι1 a1 w1 R1 (fun y _ => ev_ok R1 y) default [] [] ops i [] ho' hwant
          obtain ⟨E, hE, hE1, hE2⟩ := ih (i + 1) hrest _ ι2 _ w2 K (R2.put hv hd) hk
          have hput : ∀ s, (∀ d, o.dst = some d → s ≠ d) → putE env1 o.dst x s = env1 s := by
            intro s hs
            cases hq : o.dst with
            | none => rfl
            | some d => exact upd_other _ _ (hs d hq)
          have hlook : ∀ s ∈ looks ops o, Eqv (env1 s) (E s) := by
            intro s hs
            have h1 := hE1 s (fun j hj hjp => hfree s hs j (by omega) hjp)
            rw [hput s (fun d hd' e => hfree s hs i (Nat.le_refl _) hip (by rw [hdsti, hd', e]))] at h1
            exact h1
          refine ⟨E, hE, fun s hs => ?_, fun j h1 h2 => ?_⟩
          · have h3 := hE1 s (fun j hj hjp => hs j (by omega) hjp)
            rw [hput s (fun d hd' e => hs i (Nat.le_refl _) hip (by rw [hdsti, hd', e]))] at h3
            exact (heq s).trans h3
          · by_cases hji : j = i
            · subst hji
              refine ⟨o, ho', hd, .inl ⟨hguard E hlook, x, hqx.congr (fun s hs => (hlook s (looks_tmp hs)).2), fun d hd' => ?_⟩⟩
              have h3 := hE1 d (fun j' hj' hjp' e => by
                have := S.one _ _ _ hjp' hip e (hdsti.trans hd')
                omega)
              rw [hd'] at h3
              simp only [putE, upd_same] at h3
              exact h3.1
            · exact hE2 j (by omega) h2
        have skip : ∀ (env1 : Env) (ι1 : Loc) (a1 : Act) (w1 : World), Rel C env1 h ι1 a1 w1 → (∀ s, Eqv (env s) (env1 s)) → (∀ E, (∀ s, s ∈ looks ops o → Eqv (env1 s) (E s)) → GuardSem ops E o false) →
            aq C h ops rest (putE env1 o.dst .sk) K →
            ∃ E, K E ∧ (∀ s, (∀ j, i ≤ j → j < p → dstOf ops j ≠ some s) → Eqv (env s) (E s)) ∧ ∀ j, i ≤ j → j < p → OpSem C h ops E j := by
          intro env1 ι1 a1 w1 R1 heq hguard hk
          obtain ⟨E, hE, hE1, hE2⟩ := ih (i + 1) hrest _ ι1 _ w1 K (R1.put (x := .sk) (v := undef) rfl hd) hk
          have hput : ∀ s, (∀ d, o.dst = some d → s ≠ d) → putE env1 o.dst .sk s = env1 s := by
            intro s hs
            cases hq : o.dst with
            | none => rfl
            | some d => exact upd_other _ _ (hs d hq)
          have hlook : ∀ s ∈ looks ops o, Eqv (env1 s) (E s) := by
            intro s hs
            have h1 := hE1 s (fun j hj hjp => hfree s hs j (by omega) hjp)
            rw [hput s (fun d hd' e => hfree s hs i (Nat.le_refl _) hip (by rw [hdsti, hd', e]))] at h1
            exact h1
          refine ⟨E, hE, fun s hs => ?_, fun j h1 h2 => ?_⟩
          · have h3 := hE1 s (fun j hj hjp => hs j (by omega) hjp)
            rw [hput s (fun d hd' e => hs i (Nat.le_refl _) hip (by rw [hdsti, hd', e]))] at h3
            exact (heq s).trans h3
          · by_cases hji : j = i
            · subst hji
              refine ⟨o, ho', hd, .inr ⟨hguard E hlook, fun d hd' => ?_⟩⟩
              have h3 := hE1 d (fun j' hj' hjp' e => by
                have := S.one _ _ _ hjp' hip e (hdsti.trans hd')
                omega)
              rw [hd'] at h3
              simp only [putE, upd_same] at h3
              exact h3.1
            · exact hE2 j (by omega) h2
        split at hq
        · rename_i hg
          exact step env ι a w R (fun _ => Eqv.refl _) (fun E _ => by unfold GuardSem; rw [hg]) (wanted_none hg _) hq
        · rename_i j want hg
          split at hq
          · rename_i d hj
            have hgs : ∀ (env1 : Env) (b : Bool), (∀ w ok r v, VR w ok (env1 d) r v → v = .bool b) → ∀ E, (∀ s, s ∈ looks ops o → Eqv (env1 s) (E s)) → GuardSem ops E o (b == want) := by
              intro env1 b hb E hE
              unfold GuardSem
              rw [hg]
              exact ⟨d, hj, .inl ⟨b, fun w ok r v hv => hb w ok r v ((hE d (looks_guard hg hj)).2 _ _ _ _ hv), rfl⟩⟩
            have hwt : ∀ (env1 : Env) (ι1 : Loc) (a1 : Act) (w1 : World) (b : Bool), Rel C env1 h ι1 a1 w1 → (∀ w ok r v, VR w ok (env1 d) r v → v = .bool b) → Region.wanted o (yielded ops a1.tmps) = (b == want) := by
              intro env1 ι1 a1 w1 b R1 hb
              have hv := hb _ _ _ _ (R1.env d)
              have hy : yielded ops a1.tmps j = some b := by
                have hj' : (ops[j]?).bind (·.dst) = some d := by unfold dstOf at hj; simpa using hj
                unfold yielded
                rw [hj']
                rw [Array.getD_eq_getD_getElem?] at hv
                simp only [Option.bind_some]
                cases hq2 : a1.tmps[d]? with
                | none => rw [hq2] at hv; cases hv
                | some u => rw [hq2] at hv; simp only [Option.getD_some] at hv; subst hv; rfl
              exact wanted_some hg hy
            have told : ∀ (b : Bool) (y : AV), env d = .bool b → (y = .tt ∧ b = true ∨ y = .ff ∧ b = false) → Rel C (upd env d y) h ι a w ∧ (∀ s, Eqv (env s) (upd env d y s)) := by
              intro b y e hy
              have hE : ∀ s, Eqv (env s) (upd env d y s) := by
                intro s
                by_cases hs : s = d
                · subst hs
                  rw [upd_same, e]
                  rcases hy with ⟨rfl, rfl⟩ | ⟨rfl, rfl⟩
                  · exact ⟨fun _ _ _ _ h => h, fun _ _ _ _ h => h⟩
                  · exact ⟨fun _ _ _ _ h => h, fun _ _ _ _ h => h⟩
                · rw [upd_other _ _ hs]; exact Eqv.refl _
              exact ⟨R.env_ (fun s => (hE s).1 _ _ _ _ (R.env s)), hE⟩
            split at hq
            · rename_i e
              have hb : ∀ w ok r v, VR w ok (env d) r v → v = .bool true := by intro w ok r v hv; rw [e] at hv; exact hv
              cases want with
              | true => exact step env ι a w R (fun _ => Eqv.refl _) (hgs env true hb) (hwt env ι a w true R hb) hq
              | false => exact skip env ι a w R (fun _ => Eqv.refl _) (hgs env true hb) hq
            · rename_i e
              have hb : ∀ w ok r v, VR w ok (env d) r v → v = .bool false := by intro w ok r v hv; rw [e] at hv; exact hv
              cases want with
              | true => exact skip env ι a w R (fun _ => Eqv.refl _) (hgs env false hb) hq
              | false => exact step env ι a w R (fun _ => Eqv.refl _) (hgs env false hb) (hwt env ι a w false R hb) hq
            · rename_i b e
              cases b with
              | true =>
                obtain ⟨R1, hE⟩ := told true .tt e (.inl ⟨rfl, rfl⟩)
                have hb : ∀ w ok r v, VR w ok (upd env d .tt d) r v → v = .bool true := by intro w ok r v hv; rw [upd_same] at hv; exact hv
                have hq := hq.t rfl
                cases want with
                | true => exact step _ ι a w R1 hE (hgs _ true hb) (hwt _ ι a w true R1 hb) hq
                | false => exact skip _ ι a w R1 hE (hgs _ true hb) hq
              | false =>
                obtain ⟨R1, hE⟩ := told false .ff e (.inr ⟨rfl, rfl⟩)
                have hb : ∀ w ok r v, VR w ok (upd env d .ff d) r v → v = .bool false := by intro w ok r v hv; rw [upd_same] at hv; exact hv
                have hq := hq.f rfl
                cases want with
                | true => exact skip _ ι a w R1 hE (hgs _ false hb) hq
                | false => exact step _ ι a w R1 hE (hgs _ false hb) (hwt _ ι a w false R1 hb) hq
            · rename_i e
              refine skip env ι a w R (fun _ => Eqv.refl _) (fun E hE => ?_) hq
              unfold GuardSem
              rw [hg]
              refine ⟨d, hj, .inr ⟨fun w ok r v hv => ?_, rfl⟩⟩
              have := (hE d (looks_guard hg hj)).2 _ _ _ _ hv
              rw [e] at this; exact this
            · exact hq.elim
          · exact hq.elim

/-! ### in any order -/
/-- Is this slot yet to be written? -/
def unl (ops : Array Oper) (p : Nat) (listed : Array Bool) (s : Nat) : Bool := (List.range p).any fun j => !listed.getD j true && (dstOf ops j == some s)
def envX (ops : Array Oper) (p : Nat) (E : Env) (listed : Array Bool) : Env := fun s => cond (unl ops p listed s) .u (E s)

theorem unl_false {p : Nat} {listed : Array Bool} {s : Nat} (hs : ∀ j, j < p → dstOf ops j = some s → listed.getD j true = true) : unl ops p listed s = false := by
  unfold unl
  rw [List.any_eq_false]
  intro j hj
  simp only [Bool.and_eq_true, Bool.not_eq_true', beq_iff_eq, not_and]
  intro h1 h2
  rw [hs j (List.mem_range.mp hj) h2] at h1; cases h1

theorem getD_set {listed : Array Bool} {i j : Nat} : (listed.setIfInBounds i true).getD j true = if i = j then true else listed.getD j true := by
  rw [Array.getD_eq_getD_getElem?, Array.getD_eq_getD_getElem?, Array.getElem?_setIfInBounds]
  by_cases h : i = j
  · subst h
    by_cases h2 : i < listed.size
    · simp [h2]
    · simp [h2]
  · simp [h]

theorem getD_two {listed : Array Bool} {j : Nat} (h : j < listed.size) {a b : Bool} : listed.getD j a = listed.getD j b := by
  rw [Array.getD_eq_getD_getElem?, Array.getD_eq_getD_getElem?, Array.getElem?_eq_getElem h]; rfl

/-- Behind the statements that are free, the others come in the text's order. -/
theorem sched_tail {p : Nat} (S : Stat ops p) : ∀ (m q : Nat) (listed : Array Bool) (l : List Nat), m = ops.size - q → p ≤ q → q ≤ ops.size → listed.size = ops.size → (∀ j, j < q → listed.getD j true = true) → (∀ j, q ≤ j → j < ops.size → listed.getD j true = false) →
    Sched ops listed l → l = List.range' q (ops.size - q) := by
  intro m
  induction m with
  | zero =>
    intro q listed l hm hpq hqs hsz h1 h2 hs
    have hq : q = ops.size := by omega
    subst hq
    rw [Nat.sub_self]
    cases l with
    | nil => rfl
    | cons i rest => obtain ⟨hi, hil, _⟩ := hs; rw [h1 i hi] at hil; cases hil
  | succ m ih =>
    intro q listed l hm hpq hqs hsz h1 h2 hs
    have hq : q < ops.size := by omega
    cases l with
    | nil => have := hs q hq; rw [h2 q (Nat.le_refl _) hq] at this; cases this
    | cons i rest =>
      obtain ⟨hi, hil, hpre, hs'⟩ := hs
      have hqi : q ≤ i := by
        rcases Nat.lt_or_ge i q with h' | h'
        · rw [h1 i h'] at hil; cases hil
        · exact h'
      have hiq : i = q := by
        rcases Nat.lt_or_ge q i with h' | h'
        · exfalso
          obtain ⟨o, ho⟩ : ∃ o, ops[i]? = some o := ⟨_, Array.getElem?_eq_getElem hi⟩
          obtain ⟨e, he, hb, hon⟩ := S.tail i o (by omega) ho q h'
          have := hpre o ho e he hb
          rw [hon, getD_two (b := true) (by omega), h2 q (Nat.le_refl _) hq] at this; cases this
        · omega
      subst hiq
      have e1 : ops.size - i = (ops.size - (i + 1)) + 1 := by omega
      rw [e1, List.range'_succ]
      congr 1
      refine ih (i + 1) (listed.setIfInBounds i true) rest (by omega) (by omega) (by omega) (by simpa using hsz) (fun j hj => ?_) (fun j hj1 hj2 => ?_) hs'
      · rw [getD_set]
        split
        · rfl
        · exact h1 j (by omega)
      · rw [getD_set, if_neg (by omega)]
        exact h2 j (by omega) hj2

theorem any_ok {p : Nat} (S : Stat ops p) {k : List Item} {E : Env} (hall : ∀ j, j < p → OpSem C h ops E j) (next : Run C (.inRegion ops (List.range' p (ops.size - p)) :: k) E h) :
    ∀ (l : List Nat) (listed : Array Bool), listed.size = ops.size → (∀ j, p ≤ j → j < ops.size → listed.getD j true = false) → Sched ops listed l → Run C (.inRegion ops l :: k) (envX ops p E listed) h := by
  have fin : ∀ (l : List Nat) (listed : Array Bool), listed.size = ops.size → (∀ j, p ≤ j → j < ops.size → listed.getD j true = false) → (∀ j, j < p → listed.getD j true = true) → Sched ops listed l → Run C (.inRegion ops l :: k) (envX ops p E listed) h := by
    intro l listed hsz h2 h1 hs
    rw [sched_tail S _ p listed l rfl (Nat.le_refl _) S.le hsz h1 h2 hs]
    refine Run.weaken (fun s => ?_) (fun _ => MOle.refl _) next
    unfold envX
    rw [unl_false (fun j hj _ => h1 j hj)]
    exact Le.refl _
  intro l
  induction l with
  | nil =>
    intro listed hsz h2 hs
    refine fin [] listed hsz h2 (fun j hj => hs j (by have := S.le; omega)) hs
  | cons i rest ih =>
    intro listed hsz h2 hs
    by_cases hip : p ≤ i
    · have hs0 := hs
      obtain ⟨hi, hil, hpre, hs'⟩ := hs
      refine fin (i :: rest) listed hsz h2 (fun j hj => ?_) hs0
      obtain ⟨o, ho⟩ : ∃ o, ops[i]? = some o := ⟨_, Array.getElem?_eq_getElem hi⟩
      obtain ⟨e, he, hb, hon⟩ := S.tail i o hip ho j (by omega)
      have := hpre o ho e he hb
      rw [hon] at this
      rw [getD_two (b := false) (by have := S.le; omega)]; exact this
    have hip : i < p := by omega
    obtain ⟨hi, hil, hpre, hs'⟩ := hs
    obtain ⟨o, ho, hd, hsem⟩ := hall i hip
    have hdsti : dstOf ops i = o.dst := by unfold dstOf; rw [show ops.toList[i]? = some o by simpa using ho]; rfl
    have hlk : ∀ s ∈ looks ops o, envX ops p E listed s = E s := by
      intro s hs2
      unfold envX
      rw [unl_false (fun j hjp hj => ?_)]
      · rfl
      · obtain ⟨e, h1, h2, h3⟩ := S.look i o hip ho s hs2 j hjp hj
        have := hpre o ho e h1 h2
        rw [h3] at this
        have hjl : j < listed.size := by rw [hsz]; exact dstOf_lt hj
        rw [getD_two (b := false) hjl]; exact this
    have hrec := ih (listed.setIfInBounds i true) (by simpa using hsz) (fun j h1 h3 => by rw [getD_set, if_neg (by omega)]; exact h2 j h1 h3) hs'
    have hw : ∀ (want' : Bool), GuardSem ops E o want' → ∀ ι a w, Rel C (envX ops p E listed) h ι a w → Region.wanted o (yielded ops a.tmps) = want' := by
      intro want' hgs ι a w R
      unfold GuardSem at hgs
      split at hgs
      · rename_i hg; rw [hgs]; exact wanted_none hg _
      · rename_i j want hg
        obtain ⟨d, hj, hbb⟩ := hgs
        have hv := R.env d
        rw [hlk d (looks_guard hg hj)] at hv
        rcases hbb with ⟨b, hb, rfl⟩ | ⟨hb, rfl⟩
        · have hv := hb _ _ _ _ hv
          have hy : yielded ops a.tmps j = some b := by
            have hj' : (ops[j]?).bind (·.dst) = some d := by unfold dstOf at hj; simpa using hj
            unfold yielded
            rw [hj']
            rw [Array.getD_eq_getD_getElem?] at hv
            simp only [Option.bind_some]
            cases hq2 : a.tmps[d]? with
            | none => rw [hq2] at hv; cases hv
            | some u => rw [hq2] at hv; simp only [Option.getD_some] at hv; subst hv; rfl
          exact wanted_some hg hy
        · exact wanted_sk hg (yield_sk hj (hb _ _ _ _ hv))
    have hle : ∀ (x : AV), (∀ d, o.dst = some d → Le x (E d)) → ∀ s, Le (putE (envX ops p E listed) o.dst x s) (envX ops p E (listed.setIfInBounds i true) s) := by
      intro x hx s
      by_cases hsd : o.dst = some s
      · rw [hsd]
        simp only [putE, upd_same]
        unfold envX
        cases unl ops p (listed.setIfInBounds i true) s with
        | true => exact Le.u _
        | false => exact hx s hsd
      · have e1 : putE (envX ops p E listed) o.dst x s = envX ops p E listed s := by
          cases hq : o.dst with
          | none => rfl
          | some d => exact upd_other _ _ (fun e => hsd (by rw [hq, e]))
        rw [e1]
        unfold envX
        cases hu : unl ops p (listed.setIfInBounds i true) s with
        | true => exact Le.u _
        | false =>
          have : unl ops p listed s = false := by
            refine unl_false fun j hjp hj => ?_
            unfold unl at hu
            rw [List.any_eq_false] at hu
            have := hu j (List.mem_range.mpr hjp)
            simp only [hj, beq_self_eq_true, Bool.and_true, Bool.not_eq_true, Bool.not_eq_false'] at this
            rw [getD_set] at this
            by_cases hij : i = j
            · subst hij; exact absurd (hdsti ▸ hj) hsd
            · rwa [if_neg hij] at this
          rw [this]; exact Le.refl _
    rcases hsem with ⟨hgs, x, hq, hx⟩ | ⟨hgs, hx⟩
    · refine Run.of_step fun ι a w b cs _ R => ?_
      obtain ⟨v, w', ι', hst, R', hv⟩ := hq _ ι a w R (fun y hy => by
        have := ev_ok R y
        cases y with
        | tmp s => have e : ev (envX ops p E listed) (.tmp s) = ev E (.tmp s) := hlk s (looks_tmp hy)
                   rw [e] at this; exact this
        | const v => exact this
        | global g => exact this
        | func f => exact this) b k cs ops i rest ho (hw true hgs ι a w R)
      exact ⟨_, h, ι', _, w', _, hst, (R'.put hv hd).weaken (hle x hx) (fun _ => MOle.refl _), hrec⟩
    · exact skip_ok ho hd (hw false hgs) (Run.weaken (hle .sk hx) (fun _ => MOle.refl _) hrec)

theorem Run.draw0 {id : Nat} {k : List Item} {env : Env} {p : Nat} (hm : C.P.follows .mixedOrders = true) (S : Stat ops p) (hq : aq C h ops (ops.toList.take p) env (fun E => Run C (.inRegion ops (List.range' p (ops.size - p)) :: k) E h)) :
    Run C (.code (.region id ops true) :: k) env h := by
  refine ⟨fun ι a w b cs hb hkd R => ?_⟩
  obtain ⟨E, hE, hE1, hE2⟩ := aq_ok S.to0 (ops.toList.take p) 0 (by simp) env ι a w _ R hq
  have hf : ∀ j, j < ops.size → (Array.replicate ops.size false).getD j true = false := fun j hj => by simp [hj]
  have hrun := any_ok S (fun j hj => hE2 j (Nat.zero_le _) hj) hE (Region.schedule (C.P.follows .mixedOrders) ops (w.tape w.drawn (.order b.fn id))) (Array.replicate ops.size false) (by simp)
    (fun j _ hj => hf j hj) (sched_of hm S.edge _)
  have Rd : Rel C env h ι a { w with drawn := w.drawn + 1 } := R.grow ((Below.refl _ _).drew)
  have R' : Rel C (envX ops p E (Array.replicate ops.size false)) h ι a { w with drawn := w.drawn + 1 } := Rd.weaken (fun s => by
    unfold envX
    cases hu : unl ops p (Array.replicate ops.size false) s with
    | true => exact Le.u _
    | false =>
      refine (hE1 s fun j _ hjp hj => ?_).1
      unfold unl at hu
      rw [List.any_eq_false] at hu
      have := hu j (List.mem_range.mpr hjp)
      have hjl := dstOf_lt hj
      simp [hj, hjl] at this) (fun _ => MOle.refl _)
  obtain ⟨e, w2, fr, h1, h2, h3⟩ := hrun.run ι a _ b cs hb hkd R'
  exact ⟨e, w2, fr, h1, Comes.of_steps (.one step_region_draw) h2, h3⟩

/-- The free ones are gone through; where the others begin, one goes on. -/
def aqT (C : Ctx) (h : Heap) (ops : Array Oper) (k : List Item) (X : List Item → Env → Heap → Prop) (l : List Oper) (env : Env) : Prop :=
  (fun p => aq C h ops (ops.toList.take p) env (fun E => X (.inRegion ops (List.range' p (ops.size - p)) :: k) E h)) (pfxOf l 0)

theorem Run.draw {id : Nat} {k : List Item} {env : Env} (hm : C.P.follows .mixedOrders = true) (hs : drawStat ops = true) (hq : aqT C h ops k (Run C) ops.toList env) :
    Run C (.code (.region id ops true) :: k) env h := Run.draw0 hm (Stat.of hs) hq

/-! ### calls among them -/
theorem CallQ.flat {o : Oper} {env : Env} {K : AV → Prop} {f : FuncId} {xs : List Operand} {args : List AV} {r : AV} (hfn : Fn C.P f args r) (hc : calls? o = some (f, xs))
    (hargs : ArgsLe (xs.map (fun x => bor h (ev env x))) args) (hflat : V.flat r = true) (next : K r) : CallQ C h o env K := by
  refine ⟨r, next, fun env' ι a w R hρ b k cs ops i rest ho hw => ?_⟩
  have hmem : ∀ y ∈ xs, y ∈ o.op.operands := by
    intro y hy
    unfold calls? at hc
    split at hc
    · rename_i heq
      cases hc
      rw [heq]; simp only [Op.operands, Call.operands, Array.mem_append]; exact .inr (by simpa using hy)
    · cases hc
  have hcalls := hfn.calls (fun b => b < w.heap.size) w (xs.map a.eval).toArray (fun b hb => hb) R.globAll (by rw [hargs.at.1]; simp) (fun i x v hx hv => by
    obtain ⟨x0, hx0, hle0⟩ := hargs.at.2 i x hx
    rw [List.getElem?_map] at hx0
    rw [List.getElem?_toArray, List.getElem?_map] at hv
    cases hq : xs[i]? with
    | none => rw [hq] at hx0; cases hx0
    | some y =>
      rw [hq] at hx0 hv
      cases hx0; cases hv
      exact hle0 _ _ _ _ (fz_ok R (fun b hb => hb.1) (fun id hl g hg => (R.base id hl g hg).2) _ _ (hρ y (hmem y (List.mem_of_getElem? hq)))))
  obtain ⟨v, w', ⟨v', e, hbel, hv⟩, hst⟩ := step_call (b := b) (k := k) (cs := cs) (rest := rest) ho hw (exec_call hc hfn.there a w) hcalls post_returned
  cases e
  exact ⟨_, w', ι, hst, R.grow hbel, Run.callA.imm_any hflat hv⟩

theorem CallQ.imm {o : Oper} {env : Env} {K : AV → Prop} {f : FuncId} {xs : List Operand} {args : List AV} {r : AV} (hfn : Fn C.P f args r) (hc : calls? o = some (f, xs))
    (hargs : ArgsLe (xs.map (ev env)) args) (himm : args.all V.imm = true) (next : K r) : CallQ C h o env K := by
  refine ⟨r, next, fun env' ι a w R hρ b k cs ops i rest ho hw => ?_⟩
  have hmem : ∀ y ∈ xs, y ∈ o.op.operands := by
    intro y hy
    unfold calls? at hc
    split at hc
    · rename_i heq
      cases hc
      rw [heq]; simp only [Op.operands, Call.operands, Array.mem_append]; exact .inr (by simpa using hy)
    · cases hc
  have hcalls := hfn.calls (okB C h ι w) w (xs.map a.eval).toArray (fun b hb => hb.1) R.globOk (by rw [hargs.at.1]; simp) (fun i x v hx hv => by
    have hix : V.imm x = true := List.all_eq_true.mp himm x (List.mem_of_getElem? hx)
    obtain ⟨x0, hx0, hle0⟩ := hargs.at.2 i x hx
    rw [List.getElem?_map] at hx0
    rw [List.getElem?_toArray, List.getElem?_map] at hv
    cases hq : xs[i]? with
    | none => rw [hq] at hx0; cases hx0
    | some y =>
      rw [hq] at hx0 hv
      cases hx0; cases hv
      exact imm_ok _ _ _ _ hix (hle0 _ _ _ _ (hρ y (hmem y (List.mem_of_getElem? hq)))))
  obtain ⟨v, w', ⟨v', e, hbel, hv⟩, hst⟩ := step_call (b := b) (k := k) (cs := cs) (rest := rest) ho hw (exec_call hc hfn.there a w) hcalls post_returned
  cases e
  have R' := R.grow hbel
  refine ⟨_, w', ι, hst, R', VR.mono (fun b hb => ?_) (fun _ _ => rfl) _ _ _ _ (fun _ _ h => False.elim h) hv⟩
  refine ⟨hb.2, ?_, ?_⟩
  · rcases hb.1 with hb1 | hb1
    · exact hb1.2.1
    · exact .inr (Nat.le_trans R.below.size hb1)
  · intro id hl e
    rcases hb.1 with hb1 | hb1
    · exact hb1.2.2 id hl e
    · have := (R.base id hl b e).2; omega
end

end Go.Proofs.YtfodjmemdkibpaaDoor.V

namespace Go.Proofs.YtfodjmemdkibpaaDoor.V
open Go Go.RowKit
set_option linter.unusedSimpArgs false
set_option linter.unusedVariables false

section
variable {C : Ctx} {env : Env} {h : Heap}
theorem Run.go {k : List Item} (hx : aexec C 400 k env h) : Run C k env h := aexec_ok 400 hx

/-- The free statements, one by one; where the others begin, one goes on. -/
def aqS (C : Ctx) (h : Heap) (ops : Array Oper) (k : List Item) : List Oper → Nat → Env → Prop
  | [], _, env => aexec C 400 k env h
  | o :: rest, i, env => cond (allTail (o :: rest) i) (aexec C 400 (.inRegion ops (List.range' i (rest.length + 1)) :: k) env h) (withDst o fun dst => cond (okD C.N dst) (match o.guard with
      | none => aqStep C h o dst env (fun env' => aqS C h ops k rest (i + 1) env')
      | some (j, want) => match dstOf ops j with
        | some d => match env d with
          | .tt => cond want (aqStep C h o dst env (fun env' => aqS C h ops k rest (i + 1) env')) (aqS C h ops k rest (i + 1) (putE env dst .sk))
          | .ff => cond want (aqS C h ops k rest (i + 1) (putE env dst .sk)) (aqStep C h o dst env (fun env' => aqS C h ops k rest (i + 1) env'))
          | .bool b => AskB b (cond want (aqStep C h o dst (upd env d .tt) (fun env' => aqS C h ops k rest (i + 1) env')) (aqS C h ops k rest (i + 1) (putE (upd env d .tt) dst .sk)))
              (cond want (aqS C h ops k rest (i + 1) (putE (upd env d .ff) dst .sk)) (aqStep C h o dst (upd env d .ff) (fun env' => aqS C h ops k rest (i + 1) env')))
          | .sk => aqS C h ops k rest (i + 1) (putE env dst .sk)
          | _ => False
        | none => False) False)

theorem pfxOf_ge : ∀ (l : List Oper) (i : Nat), i ≤ pfxOf l i
  | [], i => Nat.le_refl _
  | o :: rest, i => by
    unfold pfxOf
    cases allTail (o :: rest) i with
    | true => exact Nat.le_refl _
    | false => exact Nat.le_trans (Nat.le_succ _) (pfxOf_ge rest (i + 1))

/-- Statements that make memory. -/
def memOp (o : Oper) : Bool := match o.op with
  | .buildSlice .. => true
  | .alloc .. => true
  | .box .. => true
  | .makeSlice .. => true
  | .makeMap .. => true
  | .makeFunc .. => true
  | .insert .. => true
  | .mapUpdate .. => true
  | .call c => (match c.callee with
    | .builtin .len => false
    | .builtin .unsafeSliceData => false
    | .builtin _ => true
    | _ => false)
  | _ => false
def storeOp (o : Oper) : Bool := match o.op with
  | .store .. => true
  | _ => memOp o
def drawStatX (ops : Array Oper) : Bool := drawStat ops && (ops.toList.take (pfxOf ops.toList 0)).all fun o => !storeOp o
theorem Run.drawX {id : Nat} {ops : Array Oper} {k : List Item} (hm : C.P.follows .mixedOrders = true) (hsx : drawStatX ops = true) (hq : aqS C h ops k ops.toList 0 env) :
    Run C (.code (.region id ops true) :: k) env h := by
  have hs : drawStat ops = true := by unfold drawStatX at hsx; rw [Bool.and_eq_true] at hsx; exact hsx.1
  refine Run.draw hm hs ?_
  have mono : ∀ (l : List Oper) (i : Nat) (env : Env), aqS C h ops k l i env → aq C h ops (l.take (pfxOf l i - i)) env (fun E => Run C (.inRegion ops (List.range' (pfxOf l i) (i + l.length - pfxOf l i)) :: k) E h) := by
    intro l
    induction l with
    | nil =>
      intro i env hq
      have e : i + ([] : List Oper).length - pfxOf [] i = 0 := by simp [pfxOf]
      rw [e, List.take_nil]
      show Run C (.inRegion ops [] :: k) env h
      exact Run.quiet (fun b a cs w => step_region_end) (aexec_ok 400 hq)
    | cons o rest ih =>
      intro i env hq
      unfold aqS at hq
      cases ht : allTail (o :: rest) i with
      | true =>
        rw [ht, cond_true] at hq
        have e1 : pfxOf (o :: rest) i = i := by unfold pfxOf; rw [ht]; rfl
        rw [e1, Nat.sub_self, Nat.add_sub_cancel_left]
        exact aexec_ok 400 hq
      | false =>
        rw [ht, cond_false] at hq
        have e1 : pfxOf (o :: rest) i = pfxOf rest (i + 1) := by rw [pfxOf, ht]; rfl
        have h1 := pfxOf_ge rest (i + 1)
        have e2 : pfxOf rest (i + 1) - i = (pfxOf rest (i + 1) - (i + 1)) + 1 := by omega
        have e3 : i + (o :: rest).length - pfxOf rest (i + 1) = i + 1 + rest.length - pfxOf rest (i + 1) := by rw [List.length_cons]; omega
        rw [e1, e2, e3, List.take_succ_cons]
        unfold aq
        rw [withDst_eq] at hq ⊢
        have hstep : ∀ env1, aqStep C h o o.dst env1 (fun env' => aqS C h ops k rest (i + 1) env') → aqStep C h o o.dst env1 (fun env' => aq C h ops (rest.take (pfxOf rest (i + 1) - (i + 1))) env' (fun E => Run C (.inRegion ops (List.range' (pfxOf rest (i + 1)) (i + 1 + rest.length - pfxOf rest (i + 1))) :: k) E h)) := by
          intro env1 hs
          unfold aqStep at hs ⊢
          split at hs
          · obtain ⟨x, h1, h2⟩ := hs.out
            exact ⟨x, ih _ _ h1, h2⟩
          · exact qop_mono (fun x hx => (fv_eq _ _).mpr (ih _ _ ((fv_eq _ _).mp hx))) hs
        cases hd : okD C.N o.dst with
        | false => rw [hd] at hq; exact hq
        | true =>
          rw [hd, cond_true] at hq
          rw [cond_true]
          cases hg : o.guard with
          | none => rw [hg] at hq; exact hstep _ hq
          | some jw =>
            obtain ⟨j, want⟩ := jw
            rw [hg] at hq
            simp only at hq ⊢
            cases hj : dstOf ops j with
            | none => rw [hj] at hq; exact hq.elim
            | some d =>
              rw [hj] at hq
              simp only at hq ⊢
              cases he : env d with
              | tt => rw [he] at hq; cases want <;> first | exact hstep _ hq | exact ih _ _ hq
              | ff => rw [he] at hq; cases want <;> first | exact hstep _ hq | exact ih _ _ hq
              | bool b =>
                rw [he] at hq
                refine ⟨fun hb => ?_, fun hb => ?_⟩
                · have := hq.t hb; cases want <;> first | exact hstep _ this | exact ih _ _ this
                · have := hq.f hb; cases want <;> first | exact hstep _ this | exact ih _ _ this
              | sk => rw [he] at hq; exact ih _ _ hq
              | _ => rw [he] at hq; exact hq.elim
  have := mono ops.toList 0 env hq
  have e4 : ops.toList.length = ops.size := Array.length_toList
  rw [Nat.zero_add, e4] at this
  exact this
where
  qop_mono {C : Ctx} {h : Heap} {o : Oper} {ρ : Operand → AV} {K K' : AV → Prop} {stop : Prop} (hK : ∀ x, K x → K' x) (hq : qop C o ρ h K stop) : qop C o ρ h K' stop := by
    have hK0 := hK
    unfold qop at hq ⊢
    split at hq <;> try exact hK _ hq
    · split at hq <;> first | exact hK _ hq | exact ⟨fun hb => hK _ (hq.t hb), fun hb => hK _ (hq.f hb)⟩ | exact hq
    · unfold abuild at hq ⊢; split at hq
      · split at hq
        · exact force_mono (fun x => hK _) hq
        · exact hq
      · exact hq
    · unfold aload at hq ⊢; split at hq
      · refine force_mono (fun s hs => ?_) hq
        cases hb : Nat.ble s _ with
        | true => rw [hb] at hs; exact hK _ hs
        | false => rw [hb] at hs; exact hs
      · cases hb : Nat.blt 0 _ with
        | true => rw [hb] at hq; exact hK _ hq
        | false => rw [hb] at hq; exact hq
      · exact hq
    · split at hq <;> first | exact hK _ hq | exact hq
    · have hab : ∀ {op x y}, abin op x y K stop → abin op x y K' stop := by
        intro op x y hab
        unfold abin at hab ⊢
        split at hab
        · split at hab
          · exact ⟨hab.l, hK _ hab.r⟩
          · exact ⟨hab.l, hK _ hab.r⟩
          · split at hab
            · rename_i he
              subst he
              simp only [if_true]
              split at hab <;> first | exact hK _ hab | exact ⟨hab.l, hK _ hab.r⟩ | exact hab
            · rename_i he
              rw [if_neg he]; exact hab
        · split at hab <;> first | exact hK _ hab | exact ⟨hab.l, hK _ hab.r⟩ | exact hab
        · split at hab <;> first | exact hK _ hab | exact hab
      split at hq
      · exact hK _ hq
      split at hq
      · cases hb : boolTy C.T _ with
        | true => rw [hb] at hq; exact hab hq
        | false => rw [hb] at hq; exact hq
      · exact hab hq
    · unfold aun at hq ⊢; split at hq <;> first | exact hK _ hq | exact hq
    · unfold aconvert at hq ⊢; split at hq <;> first | exact hK _ hq | exact hq
    · unfold aslice at hq ⊢; split at hq
      · split at hq <;> first | exact hK _ hq | exact ⟨hq.l, hK _ hq.r⟩ | exact hq
      · split at hq
        · cases hb : Nat.beq _ _ with
          | true => rw [hb, cond_true] at hq; rw [cond_true]; split at hq <;> first | exact hK _ hq | exact ⟨hq.l, hK _ hq.r⟩ | exact hq
          | false => rw [hb] at hq; exact hq
        · exact hq
      · exact hq
    · unfold afieldAddr at hq ⊢; split at hq
      · split at hq
        · cases hb : Nat.blt 0 _ with
          | true =>
            rw [hb, cond_true] at hq; rw [cond_true]
            refine force_mono (fun s hs => ?_) hq
            split at hs <;> first | exact hK _ hs | exact hs
          | false => rw [hb] at hq; exact hq
        · exact hq
      · exact hq
    · unfold afield at hq ⊢; split at hq
      · exact force_mono (fun s hs => apart_mono hK hs) hq
      · exact hq
    · unfold aindexAddr at hq ⊢; split at hq
      · split at hq
        · split at hq
          · cases hb : Nat.beq _ _ with
            | true => rw [hb, cond_true] at hq; exact ⟨hq.l, hK _ hq.r⟩
            | false => rw [hb] at hq; exact hq
          · split at hq
            · cases hb : Nat.beq _ _ with
              | true => rw [hb, cond_true] at hq; exact ⟨hq.l, hK _ hq.r⟩
              | false => rw [hb] at hq; exact hq
            · cases hb : Nat.beq _ _ with
              | true => rw [hb, cond_true] at hq; exact ⟨hq.l, hK _ hq.r⟩
              | false => rw [hb] at hq; exact hq
            · exact hq
          · split at hq
            · cases hb : Nat.beq _ _ with
              | true => rw [hb, cond_true] at hq; exact ⟨hq.l, hK _ hq.r⟩
              | false => rw [hb] at hq; exact hq
            · exact hq
          · exact hq
        · exact hq
      · split at hq
        · split at hq
          · cases hb : Nat.beq _ _ with
            | true => rw [hb, cond_true] at hq; exact ⟨hq.l, force_mono (fun x => hK _) hq.r⟩
            | false => rw [hb] at hq; exact hq
          · exact ⟨hq.l, force_mono (fun x => hK _) hq.r⟩
          · exact hq
        · exact hq
      · exact hq
    · unfold aindex at hq ⊢; split at hq
      · exact ⟨hq.l, hK _ hq.r⟩
      · split at hq
        · cases hb : Nat.beq _ _ with
          | true => rw [hb, cond_true] at hq; exact ⟨hq.l, apart_mono hK hq.r⟩
          | false => rw [hb] at hq; exact hq
        · exact hq
      · exact hq
    · unfold aextract at hq ⊢; split at hq
      · cases hb : Nat.blt _ _ with
        | true => rw [hb] at hq; exact hK _ hq
        | false => rw [hb] at hq; exact hq
      · exact hq
    · exact alookup_mono hK hq
    · split at hq
      · unfold alen at hq ⊢; split at hq
        · exact ⟨fun hp => hK _ (hq.h hp)⟩
        · exact ⟨fun hp => hK _ (hq.h hp)⟩
        · exact hK _ hq
        · split at hq
          · exact ⟨fun hp => hK _ (hq.h hp)⟩
          · exact ⟨fun hp => hK _ (hq.h hp)⟩
          · exact hq
        · split at hq
          · exact ⟨fun hp => hK _ (hq.h hp)⟩
          · exact hq
        · split at hq
          · exact hK _ hq
          · exact hq
        · exact hq
      · unfold asliceData at hq ⊢; split at hq
        · exact hK _ hq
        · split at hq
          · exact ⟨fun hb => hK _ (hq.t hb), fun hb => hK _ (hq.f hb)⟩
          · exact hq
        · exact hq
      · exact hq
    · exact hq
  alookup_mono {T : TT} {h : Heap} {t : TypeId} {x k : AV} {c : Bool} {K K' : AV → Prop} {stop : Prop} (hK : ∀ x, K x → K' x) (hq : alookup T h t x k c K stop) : alookup T h t x k c K' stop := by
    cases c <;>
    · unfold alookup at hq ⊢
      split at hq
      · split at hq
        all_goals first
          | exact hq
          | (split at hq
             · cases h1 : T.one _ with
               | false => rw [h1] at hq; exact hq
               | true =>
                 rw [h1, cond_true] at hq
                 rw [cond_true]
                 exact hK _ hq
             · exact hq)
      · exact hq
  force_mono {s : Nat} {K K' : Nat → Prop} {stop : Prop} (hK : ∀ x, K x → K' x) (hq : force s K stop) : force s K' stop := by
    unfold force at hq ⊢
    split at hq <;> first | exact hK _ hq | exact hq
  apart_mono {P : TT} {t : TypeId} {n : Nat} {get : Nat → AV} {o : Nat} {K K' : AV → Prop} {stop : Prop} (hK : ∀ x, K x → K' x) (hq : apart P t n get o K stop) : apart P t n get o K' stop := by
    unfold apart at hq ⊢
    split at hq
    · refine force_mono (fun s hs => ?_) hq
      cases hb : Nat.ble _ n with
      | true => rw [hb] at hs; exact hK _ hs
      | false => rw [hb] at hs; exact hs
    · cases hb : Nat.blt o n with
      | true => rw [hb] at hq; exact hK _ hq
      | false => rw [hb] at hq; exact hq
    · exact hq

/-- Calls, going on. -/
theorem Run.callAX {ops : Array Oper} {i : Nat} {rest : List Nat} {k : List Item} {o : Oper} {f : FuncId} {xs : List Operand} {args : List AV} {r : AV} (hfn : Fn C.P f args r) (ho : ops.toList[i]? = some o) (hc : calls? o = some (f, xs))
    (hargs : ArgsLe (xs.map (fun x => bor h (ev env x))) args) (hd : okD C.N o.dst = true) (hr : ready env ops o = true) (hflat : flat r = true)
    (next : aexec C 400 (.inRegion ops rest :: k) (putE env o.dst r) h) : Run C (.inRegion ops (i :: rest) :: k) env h := Run.callA hfn ho hc hargs hd hr hflat (aexec_ok 400 next)
theorem Run.callBX {ops : Array Oper} {i : Nat} {rest : List Nat} {k : List Item} {o : Oper} {f : FuncId} {xs : List Operand} {args : List AV} {r : AV} (hfn : Fn C.P f args r) (ho : ops.toList[i]? = some o) (hc : calls? o = some (f, xs))
    (hargs : ArgsLe (xs.map (ev env)) args) (himm : args.all imm = true) (hd : okD C.N o.dst = true) (hr : ready env ops o = true)
    (next : aexec C 400 (.inRegion ops rest :: k) (putE env o.dst r) h) : Run C (.inRegion ops (i :: rest) :: k) env h := Run.callB hfn ho hc hargs himm hd hr (aexec_ok 400 next)
end

end Go.Proofs.YtfodjmemdkibpaaDoor.V

