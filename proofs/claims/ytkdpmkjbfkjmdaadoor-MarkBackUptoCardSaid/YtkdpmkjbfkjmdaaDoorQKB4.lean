/-
The texts BKv, BLc, BLd, of each what the law needs.
-/
import Derived.Test.YtkdpmkjbfkjmdaaDoorQKB3
namespace Go.Proofs.YtkdpmkjbfkjmdaaDoor.V
set_option linter.unusedVariables false
set_option linter.unusedSimpArgs false
open Go Go.Proofs Go.RowKit
set_option maxRecDepth 100000
set_option maxHeartbeats 1000000
theorem parseT_zero {l : List UInt8} {ps : List Pc} {n : Nat} (h : parseT l = (ps, n, 0)) : l.length ≤ 65536 ∧ parseL l = .ok ps ∧ n = 0 := by
  unfold parseT at h
  by_cases hl : 65536 < l.length
  · rw [if_pos hl] at h; injection h with h1 h2; injection h2 with h2 h3; exact absurd h3 (by decide)
  · rw [if_neg hl] at h
    cases hp : parseL l with
    | bad k => rw [hp] at h; injection h with h1 h2; injection h2 with h2 h3; exact absurd h3 (by decide)
    | ok qs => rw [hp] at h; injection h with h1 h2; injection h2 with h2 h3; exact ⟨by omega, by rw [h1], h2.symm⟩
theorem parseT_ok {l : List UInt8} {ps : List Pc} (hl : l.length ≤ 65536) (h : parseL l = .ok ps) : parseT l = (ps, 0, 0) := by
  unfold parseT
  rw [if_neg (by omega), h]
end Go.Proofs.YtkdpmkjbfkjmdaaDoor.V

namespace Go.Proofs.YtkdpmkjbfkjmdaaDoor.V
set_option linter.unusedVariables false
set_option linter.unusedSimpArgs false
open Go Go.Proofs Go.RowKit
set_option maxRecDepth 100000
set_option maxHeartbeats 1000000
theorem joinL_mem {x : List UInt8} : ∀ {ts : List (List UInt8)}, x ∈ ts → x.length ≤ (joinL ts).length
  | [], h => nomatch h
  | [a], h => by rw [List.mem_singleton.mp h]; exact Nat.le_refl _
  | a :: b :: r, h => by
    show _ ≤ (a ++ 124 :: joinL (b :: r)).length
    rw [List.length_append, List.length_cons]
    rcases List.mem_cons.mp h with rfl | h
    · omega
    · have := joinL_mem h; omega
theorem text_le {p : Pc} (h : rightP p) {x : ByteArray} (hx : x ∈ p.texts) : x.size ≤ (pcL p).length := by
  have h1 : (escB x).length ≤ (joinL (p.texts.map escB)).length := joinL_mem (List.mem_map_of_mem hx)
  have h2 : x.size ≤ (escB x).length := (escL_len (bl x)).1
  have h3 : p.kind ≠ 2 := fun e => by
    rcases h with h | h | h
    · omega
    · have : p.texts = [] := List.length_eq_zero_iff.mp h.2.1
      rw [this] at hx; cases hx
    · omega
  unfold pcL
  rw [if_neg h3]
  split
  · simp only [List.length_cons, List.length_append, List.length_nil]; omega
  split
  · simp only [List.length_cons, List.length_append, List.length_nil]; omega
  · omega
theorem pcL_mem {p : Pc} : ∀ {ps : List Pc}, p ∈ ps → (pcL p).length ≤ (prK ps).length
  | q :: ps, h => by
    rw [prK_cons, List.length_append]
    rcases List.mem_cons.mp h with rfl | h
    · omega
    · have := pcL_mem h; omega
theorem markPrints_fn (ps : List Pc) (l : List UInt8) (hl : ps.length ≤ 1000000) (ht : ∀ p ∈ ps, p.texts.length ≤ 2000000) (hx : ∀ p ∈ ps, ∀ x ∈ p.texts, x.size ≤ 2000000) (hpk : (prK ps).length ≤ 20000000000) (hll : l.length ≤ 2000000) :
    Fn Tryd.prog 8 [tPc.L ps, .str (bs l)] .tt := by
  have hp := print_fn ps hl ht hx
  have hr := rprint_fn ps hl ht hx hpk
  have hh := hands_fn ps hl ht
  have hrh := rhands_fn ps hl ht
  have he := escape_fn l hll
  have hre := resc_fn l hll
  unfold prtA at hp hr
  unfold handsA at hh hrh
  generalize (prtL ps).1 = t at hp hr
  generalize (prtL ps).2 = e at hp hr
  generalize (if checkB 0 ps = true then ((hdM 1 ps : Nat) : Int) else 0) = n at hh hrh
  generalize (if checkB 0 ps = true then (0 : Int) else 51) = g at hh hrh
  refine Fn.of Tryd.f8 _ Tryd.func8 rfl (by decide) (by show 2 ≤ _; decide) tbOk 60 rfl fun S w0 gl => ?_
  refine Run.go ?_; (conv => whnf); repeat' (first | ((with_reducible refine Know.mk fun _ => ?_); conv => whnf) | ((with_reducible refine Need.mk ?_ ?_); exact nd; conv => whnf) | ((with_reducible first | refine Both.mk ?_ ?_ | refine Any.mk fun b hb => ?_ | refine AskB.dec (fun hb => ?_) (fun hb => ?_) | refine AskB.ndec (fun hb => ?_) (fun hb => ?_) | refine AskB.mk (fun hb => ?_) (fun hb => ?_)) <;> conv => whnf) | ((with_reducible first | refine Run.drawX rfl (by decide +kernel) ?_ | refine Run.drawT rfl (by decide +kernel) ?_ | refine Run.drawW rfl (by decide +kernel) ?_); conv => whnf) | fail)
  refine Run.callBX awake05_fn rfl rfl trivial rfl rfl rfl ?_
  (conv => whnf); repeat' (first | ((with_reducible refine Know.mk fun _ => ?_); conv => whnf) | ((with_reducible refine Need.mk ?_ ?_); exact nd; conv => whnf) | ((with_reducible first | refine Both.mk ?_ ?_ | refine Any.mk fun b hb => ?_ | refine AskB.dec (fun hb => ?_) (fun hb => ?_) | refine AskB.ndec (fun hb => ?_) (fun hb => ?_) | refine AskB.mk (fun hb => ?_) (fun hb => ?_)) <;> conv => whnf) | ((with_reducible first | refine Run.drawX rfl (by decide +kernel) ?_ | refine Run.drawT rfl (by decide +kernel) ?_ | refine Run.drawW rfl (by decide +kernel) ?_); conv => whnf) | fail)
  refine Run.callBX hp rfl rfl ⟨Le.refl _, trivial⟩ rfl rfl rfl ?_
  (conv => whnf); repeat' (first | ((with_reducible refine Know.mk fun _ => ?_); conv => whnf) | ((with_reducible refine Need.mk ?_ ?_); exact nd; conv => whnf) | ((with_reducible first | refine Both.mk ?_ ?_ | refine Any.mk fun b hb => ?_ | refine AskB.dec (fun hb => ?_) (fun hb => ?_) | refine AskB.ndec (fun hb => ?_) (fun hb => ?_) | refine AskB.mk (fun hb => ?_) (fun hb => ?_)) <;> conv => whnf) | ((with_reducible first | refine Run.drawX rfl (by decide +kernel) ?_ | refine Run.drawT rfl (by decide +kernel) ?_ | refine Run.drawW rfl (by decide +kernel) ?_); conv => whnf) | fail)
  refine Run.callBX hr rfl rfl ⟨Le.refl _, trivial⟩ rfl rfl rfl ?_
  (conv => whnf); repeat' (first | ((with_reducible refine Know.mk fun _ => ?_); conv => whnf) | ((with_reducible refine Need.mk ?_ ?_); exact nd; conv => whnf) | ((with_reducible first | refine Both.mk ?_ ?_ | refine Any.mk fun b hb => ?_ | refine AskB.dec (fun hb => ?_) (fun hb => ?_) | refine AskB.ndec (fun hb => ?_) (fun hb => ?_) | refine AskB.mk (fun hb => ?_) (fun hb => ?_)) <;> conv => whnf) | ((with_reducible first | refine Run.drawX rfl (by decide +kernel) ?_ | refine Run.drawT rfl (by decide +kernel) ?_ | refine Run.drawW rfl (by decide +kernel) ?_); conv => whnf) | fail)
  refine Run.callBX hh rfl rfl ⟨Le.refl _, trivial⟩ rfl rfl rfl ?_
  (conv => whnf); repeat' (first | ((with_reducible refine Know.mk fun _ => ?_); conv => whnf) | ((with_reducible refine Need.mk ?_ ?_); exact nd; conv => whnf) | ((with_reducible first | refine Both.mk ?_ ?_ | refine Any.mk fun b hb => ?_ | refine AskB.dec (fun hb => ?_) (fun hb => ?_) | refine AskB.ndec (fun hb => ?_) (fun hb => ?_) | refine AskB.mk (fun hb => ?_) (fun hb => ?_)) <;> conv => whnf) | ((with_reducible first | refine Run.drawX rfl (by decide +kernel) ?_ | refine Run.drawT rfl (by decide +kernel) ?_ | refine Run.drawW rfl (by decide +kernel) ?_); conv => whnf) | fail)
  refine Run.callBX hrh rfl rfl ⟨Le.refl _, trivial⟩ rfl rfl rfl ?_
  (conv => whnf); repeat' (first | ((with_reducible refine Know.mk fun _ => ?_); conv => whnf) | ((with_reducible refine Need.mk ?_ ?_); exact nd; conv => whnf) | ((with_reducible first | refine Both.mk ?_ ?_ | refine Any.mk fun b hb => ?_ | refine AskB.dec (fun hb => ?_) (fun hb => ?_) | refine AskB.ndec (fun hb => ?_) (fun hb => ?_) | refine AskB.mk (fun hb => ?_) (fun hb => ?_)) <;> conv => whnf) | ((with_reducible first | refine Run.drawX rfl (by decide +kernel) ?_ | refine Run.drawT rfl (by decide +kernel) ?_ | refine Run.drawW rfl (by decide +kernel) ?_); conv => whnf) | fail)
  rotate_left
  all_goals try exact absurd rfl (by assumption)
  refine Run.callBX he rfl rfl ⟨Le.refl _, trivial⟩ rfl rfl rfl ?_
  (conv => whnf); repeat' (first | ((with_reducible refine Know.mk fun _ => ?_); conv => whnf) | ((with_reducible refine Need.mk ?_ ?_); exact nd; conv => whnf) | ((with_reducible first | refine Both.mk ?_ ?_ | refine Any.mk fun b hb => ?_ | refine AskB.dec (fun hb => ?_) (fun hb => ?_) | refine AskB.ndec (fun hb => ?_) (fun hb => ?_) | refine AskB.mk (fun hb => ?_) (fun hb => ?_)) <;> conv => whnf) | ((with_reducible first | refine Run.drawX rfl (by decide +kernel) ?_ | refine Run.drawT rfl (by decide +kernel) ?_ | refine Run.drawW rfl (by decide +kernel) ?_); conv => whnf) | fail)
  refine Run.callBX hre rfl rfl ⟨Le.refl _, trivial⟩ rfl rfl rfl ?_
  (conv => whnf); repeat' (first | ((with_reducible refine Know.mk fun _ => ?_); conv => whnf) | ((with_reducible refine Need.mk ?_ ?_); exact nd; conv => whnf) | ((with_reducible first | refine Both.mk ?_ ?_ | refine Any.mk fun b hb => ?_ | refine AskB.dec (fun hb => ?_) (fun hb => ?_) | refine AskB.ndec (fun hb => ?_) (fun hb => ?_) | refine AskB.mk (fun hb => ?_) (fun hb => ?_)) <;> conv => whnf) | ((with_reducible first | refine Run.drawX rfl (by decide +kernel) ?_ | refine Run.drawT rfl (by decide +kernel) ?_ | refine Run.drawW rfl (by decide +kernel) ?_); conv => whnf) | fail)
  exact Run.leave (ts := [4]) (.inr ⟨_, rfl⟩) rfl Tryd.func8 rfl (Le.tt' (decide_eq_true rfl))
theorem markBack_fn (l : List UInt8) (ps : List Pc) (hl : ps.length ≤ 1000000) (ht : ∀ p ∈ ps, p.texts.length ≤ 2000000) (hx : ∀ p ∈ ps, ∀ x ∈ p.texts, x.size ≤ 2000000) :
    Fn Tryd.prog 7 [.str (bs l), tPc.L ps] .tt := by
  have hp := print_fn ps hl ht hx
  obtain ⟨gs, n, e, hT⟩ : ∃ gs n e, parseT l = (gs, n, e) := ⟨_, _, _, rfl⟩
  have hpe := parse_fn l
  unfold parseA at hpe
  rw [hT] at hpe
  simp only [] at hpe
  have hgl := parseT_len l
  rw [hT] at hgl
  simp only [] at hgl
  have hback : e = 0 → Fn Tryd.prog 14 [tPc.L gs] (tupL [.str (bs l), .int .i64 0]) := fun h0 => by
    subst h0
    obtain ⟨h1, h2, h3⟩ := parseT_zero hT
    obtain ⟨e1, e2⟩ := parse_inv _ l (Nat.le_refl _) h2 0 (fun h => absurd h (by decide))
    have hr := check_len e2
    have := print_fn gs (by omega) (fun p hp => by have := hgl.2 p hp; omega) (fun p hp x hx => by
      have a := text_le (hr p hp) hx
      have b := pcL_mem hp
      rw [← e1] at b
      omega)
    unfold prtA prtL at this
    rw [if_pos e2, ← e1, if_neg (by omega)] at this
    exact this
  have hsame := samePc_fn ps ps hl ht
  rw [decide_eq_true rfl] at hsame
  have hcase : (∃ f : Int, (f = 51 ∨ f = 1) ∧ Fn Tryd.prog 14 [tPc.L ps] (tupL [.str .empty, .int .i64 f])) ∨ (Fn Tryd.prog 14 [tPc.L ps] (tupL [.str (bs (prK ps)), .int .i64 0]) ∧ Fn Tryd.prog 10 [.str (bs (prK ps))] (tupL [tPc.L ps, .int .i64 0, .int .i64 0])) := by
    unfold prtA prtL at hp
    by_cases hk : checkB 0 ps = true
    · rw [if_pos hk] at hp
      by_cases hb : 65536 < (prK ps).length
      · rw [if_pos hb] at hp
        exact .inl ⟨1, .inr rfl, hp⟩
      · rw [if_neg hb] at hp
        refine .inr ⟨hp, ?_⟩
        have h2 := parse_fn (prK ps)
        unfold parseA at h2
        rw [parseT_ok (by omega) (parse_pr ps 0 hk)] at h2
        exact h2
    · rw [if_neg hk] at hp
      exact .inl ⟨51, .inl rfl, hp⟩
  clear hp
  rcases hcase with ⟨f, hf, hp⟩ | ⟨hp, hq⟩
  · refine Fn.of Tryd.f7 _ Tryd.func7 rfl (by decide) (by show 2 ≤ _; decide) tbOk 71 rfl fun S w0 gl => ?_
    refine Run.go ?_; (conv => whnf); repeat' (first | ((with_reducible refine Know.mk fun _ => ?_); conv => whnf) | ((with_reducible refine Need.mk ?_ ?_); exact nd; conv => whnf) | ((with_reducible first | refine Both.mk ?_ ?_ | refine Any.mk fun b hb => ?_ | refine AskB.dec (fun hb => ?_) (fun hb => ?_) | refine AskB.ndec (fun hb => ?_) (fun hb => ?_) | refine AskB.mk (fun hb => ?_) (fun hb => ?_)) <;> conv => whnf) | ((with_reducible first | refine Run.drawX rfl (by decide +kernel) ?_ | refine Run.drawT rfl (by decide +kernel) ?_ | refine Run.drawW rfl (by decide +kernel) ?_); conv => whnf) | fail)
    refine Run.callBX awake05_fn rfl rfl trivial rfl rfl rfl ?_
    (conv => whnf); repeat' (first | ((with_reducible refine Know.mk fun _ => ?_); conv => whnf) | ((with_reducible refine Need.mk ?_ ?_); exact nd; conv => whnf) | ((with_reducible first | refine Both.mk ?_ ?_ | refine Any.mk fun b hb => ?_ | refine AskB.dec (fun hb => ?_) (fun hb => ?_) | refine AskB.ndec (fun hb => ?_) (fun hb => ?_) | refine AskB.mk (fun hb => ?_) (fun hb => ?_)) <;> conv => whnf) | ((with_reducible first | refine Run.drawX rfl (by decide +kernel) ?_ | refine Run.drawT rfl (by decide +kernel) ?_ | refine Run.drawW rfl (by decide +kernel) ?_); conv => whnf) | fail)
    refine Run.callBX hpe rfl rfl ⟨Le.refl _, trivial⟩ rfl rfl rfl ?_
    (conv => whnf); repeat' (first | ((with_reducible refine Know.mk fun _ => ?_); conv => whnf) | ((with_reducible refine Need.mk ?_ ?_); exact nd; conv => whnf) | ((with_reducible first | refine Both.mk ?_ ?_ | refine Any.mk fun b hb => ?_ | refine AskB.dec (fun hb => ?_) (fun hb => ?_) | refine AskB.ndec (fun hb => ?_) (fun hb => ?_) | refine AskB.mk (fun hb => ?_) (fun hb => ?_)) <;> conv => whnf) | ((with_reducible first | refine Run.drawX rfl (by decide +kernel) ?_ | refine Run.drawT rfl (by decide +kernel) ?_ | refine Run.drawW rfl (by decide +kernel) ?_); conv => whnf) | fail)
    · refine Run.callBX (hback (by assumption)) rfl rfl ⟨Le.refl _, trivial⟩ rfl rfl rfl ?_
      (conv => whnf); repeat' (first | ((with_reducible refine Know.mk fun _ => ?_); conv => whnf) | ((with_reducible refine Need.mk ?_ ?_); exact nd; conv => whnf) | ((with_reducible first | refine Both.mk ?_ ?_ | refine Any.mk fun b hb => ?_ | refine AskB.dec (fun hb => ?_) (fun hb => ?_) | refine AskB.ndec (fun hb => ?_) (fun hb => ?_) | refine AskB.mk (fun hb => ?_) (fun hb => ?_)) <;> conv => whnf) | ((with_reducible first | refine Run.drawX rfl (by decide +kernel) ?_ | refine Run.drawT rfl (by decide +kernel) ?_ | refine Run.drawW rfl (by decide +kernel) ?_); conv => whnf) | fail)
      all_goals try exact absurd rfl (by assumption)
      refine Run.callBX hp rfl rfl ⟨Le.refl _, trivial⟩ rfl rfl rfl ?_
      (conv => whnf); repeat' (first | ((with_reducible refine Know.mk fun _ => ?_); conv => whnf) | ((with_reducible refine Need.mk ?_ ?_); exact nd; conv => whnf) | ((with_reducible first | refine Both.mk ?_ ?_ | refine Any.mk fun b hb => ?_ | refine AskB.dec (fun hb => ?_) (fun hb => ?_) | refine AskB.ndec (fun hb => ?_) (fun hb => ?_) | refine AskB.mk (fun hb => ?_) (fun hb => ?_)) <;> conv => whnf) | ((with_reducible first | refine Run.drawX rfl (by decide +kernel) ?_ | refine Run.drawT rfl (by decide +kernel) ?_ | refine Run.drawW rfl (by decide +kernel) ?_); conv => whnf) | fail)
      all_goals try (exfalso; omega)
      all_goals try exact absurd rfl (by assumption)
      all_goals first
        | exact Run.leave (ts := [4]) (.inr ⟨_, rfl⟩) rfl Tryd.func7 rfl (Le.refl _)
        | exact Run.leave (ts := [4]) (.inr ⟨_, rfl⟩) rfl Tryd.func7 rfl (Le.tt' (decide_eq_true (by omega)))
        | exact Run.leave (ts := [4]) (.inr ⟨_, rfl⟩) rfl Tryd.func7 rfl (Le.tt' (by simp only [decide_eq_true_eq]; omega))
    · refine Run.callBX hp rfl rfl ⟨Le.refl _, trivial⟩ rfl rfl rfl ?_
      (conv => whnf); repeat' (first | ((with_reducible refine Know.mk fun _ => ?_); conv => whnf) | ((with_reducible refine Need.mk ?_ ?_); exact nd; conv => whnf) | ((with_reducible first | refine Both.mk ?_ ?_ | refine Any.mk fun b hb => ?_ | refine AskB.dec (fun hb => ?_) (fun hb => ?_) | refine AskB.ndec (fun hb => ?_) (fun hb => ?_) | refine AskB.mk (fun hb => ?_) (fun hb => ?_)) <;> conv => whnf) | ((with_reducible first | refine Run.drawX rfl (by decide +kernel) ?_ | refine Run.drawT rfl (by decide +kernel) ?_ | refine Run.drawW rfl (by decide +kernel) ?_); conv => whnf) | fail)
      all_goals try (exfalso; omega)
      all_goals try exact absurd rfl (by assumption)
      all_goals first
        | exact Run.leave (ts := [4]) (.inr ⟨_, rfl⟩) rfl Tryd.func7 rfl (Le.refl _)
        | exact Run.leave (ts := [4]) (.inr ⟨_, rfl⟩) rfl Tryd.func7 rfl (Le.tt' (decide_eq_true (by omega)))
        | exact Run.leave (ts := [4]) (.inr ⟨_, rfl⟩) rfl Tryd.func7 rfl (Le.tt' (by simp only [decide_eq_true_eq]; omega))
  · refine Fn.of Tryd.f7 _ Tryd.func7 rfl (by decide) (by show 2 ≤ _; decide) tbOk 71 rfl fun S w0 gl => ?_
    refine Run.go ?_; (conv => whnf); repeat' (first | ((with_reducible refine Know.mk fun _ => ?_); conv => whnf) | ((with_reducible refine Need.mk ?_ ?_); exact nd; conv => whnf) | ((with_reducible first | refine Both.mk ?_ ?_ | refine Any.mk fun b hb => ?_ | refine AskB.dec (fun hb => ?_) (fun hb => ?_) | refine AskB.ndec (fun hb => ?_) (fun hb => ?_) | refine AskB.mk (fun hb => ?_) (fun hb => ?_)) <;> conv => whnf) | ((with_reducible first | refine Run.drawX rfl (by decide +kernel) ?_ | refine Run.drawT rfl (by decide +kernel) ?_ | refine Run.drawW rfl (by decide +kernel) ?_); conv => whnf) | fail)
    refine Run.callBX awake05_fn rfl rfl trivial rfl rfl rfl ?_
    (conv => whnf); repeat' (first | ((with_reducible refine Know.mk fun _ => ?_); conv => whnf) | ((with_reducible refine Need.mk ?_ ?_); exact nd; conv => whnf) | ((with_reducible first | refine Both.mk ?_ ?_ | refine Any.mk fun b hb => ?_ | refine AskB.dec (fun hb => ?_) (fun hb => ?_) | refine AskB.ndec (fun hb => ?_) (fun hb => ?_) | refine AskB.mk (fun hb => ?_) (fun hb => ?_)) <;> conv => whnf) | ((with_reducible first | refine Run.drawX rfl (by decide +kernel) ?_ | refine Run.drawT rfl (by decide +kernel) ?_ | refine Run.drawW rfl (by decide +kernel) ?_); conv => whnf) | fail)
    refine Run.callBX hpe rfl rfl ⟨Le.refl _, trivial⟩ rfl rfl rfl ?_
    (conv => whnf); repeat' (first | ((with_reducible refine Know.mk fun _ => ?_); conv => whnf) | ((with_reducible refine Need.mk ?_ ?_); exact nd; conv => whnf) | ((with_reducible first | refine Both.mk ?_ ?_ | refine Any.mk fun b hb => ?_ | refine AskB.dec (fun hb => ?_) (fun hb => ?_) | refine AskB.ndec (fun hb => ?_) (fun hb => ?_) | refine AskB.mk (fun hb => ?_) (fun hb => ?_)) <;> conv => whnf) | ((with_reducible first | refine Run.drawX rfl (by decide +kernel) ?_ | refine Run.drawT rfl (by decide +kernel) ?_ | refine Run.drawW rfl (by decide +kernel) ?_); conv => whnf) | fail)
    · refine Run.callBX (hback (by assumption)) rfl rfl ⟨Le.refl _, trivial⟩ rfl rfl rfl ?_
      (conv => whnf); repeat' (first | ((with_reducible refine Know.mk fun _ => ?_); conv => whnf) | ((with_reducible refine Need.mk ?_ ?_); exact nd; conv => whnf) | ((with_reducible first | refine Both.mk ?_ ?_ | refine Any.mk fun b hb => ?_ | refine AskB.dec (fun hb => ?_) (fun hb => ?_) | refine AskB.ndec (fun hb => ?_) (fun hb => ?_) | refine AskB.mk (fun hb => ?_) (fun hb => ?_)) <;> conv => whnf) | ((with_reducible first | refine Run.drawX rfl (by decide +kernel) ?_ | refine Run.drawT rfl (by decide +kernel) ?_ | refine Run.drawW rfl (by decide +kernel) ?_); conv => whnf) | fail)
      all_goals try exact absurd rfl (by assumption)
      refine Run.callBX hp rfl rfl ⟨Le.refl _, trivial⟩ rfl rfl rfl ?_
      (conv => whnf); repeat' (first | ((with_reducible refine Know.mk fun _ => ?_); conv => whnf) | ((with_reducible refine Need.mk ?_ ?_); exact nd; conv => whnf) | ((with_reducible first | refine Both.mk ?_ ?_ | refine Any.mk fun b hb => ?_ | refine AskB.dec (fun hb => ?_) (fun hb => ?_) | refine AskB.ndec (fun hb => ?_) (fun hb => ?_) | refine AskB.mk (fun hb => ?_) (fun hb => ?_)) <;> conv => whnf) | ((with_reducible first | refine Run.drawX rfl (by decide +kernel) ?_ | refine Run.drawT rfl (by decide +kernel) ?_ | refine Run.drawW rfl (by decide +kernel) ?_); conv => whnf) | fail)
      all_goals try exact absurd rfl (by assumption)
      refine Run.callBX hq rfl rfl ⟨Le.refl _, trivial⟩ rfl rfl rfl ?_
      (conv => whnf); repeat' (first | ((with_reducible refine Know.mk fun _ => ?_); conv => whnf) | ((with_reducible refine Need.mk ?_ ?_); exact nd; conv => whnf) | ((with_reducible first | refine Both.mk ?_ ?_ | refine Any.mk fun b hb => ?_ | refine AskB.dec (fun hb => ?_) (fun hb => ?_) | refine AskB.ndec (fun hb => ?_) (fun hb => ?_) | refine AskB.mk (fun hb => ?_) (fun hb => ?_)) <;> conv => whnf) | ((with_reducible first | refine Run.drawX rfl (by decide +kernel) ?_ | refine Run.drawT rfl (by decide +kernel) ?_ | refine Run.drawW rfl (by decide +kernel) ?_); conv => whnf) | fail)
      all_goals try exact absurd rfl (by assumption)
      refine Run.callBX hsame rfl rfl ⟨Le.refl _, Le.refl _, trivial⟩ rfl rfl rfl ?_
      (conv => whnf); repeat' (first | ((with_reducible refine Know.mk fun _ => ?_); conv => whnf) | ((with_reducible refine Need.mk ?_ ?_); exact nd; conv => whnf) | ((with_reducible first | refine Both.mk ?_ ?_ | refine Any.mk fun b hb => ?_ | refine AskB.dec (fun hb => ?_) (fun hb => ?_) | refine AskB.ndec (fun hb => ?_) (fun hb => ?_) | refine AskB.mk (fun hb => ?_) (fun hb => ?_)) <;> conv => whnf) | ((with_reducible first | refine Run.drawX rfl (by decide +kernel) ?_ | refine Run.drawT rfl (by decide +kernel) ?_ | refine Run.drawW rfl (by decide +kernel) ?_); conv => whnf) | fail)
      exact Run.leave (ts := [4]) (.inr ⟨_, rfl⟩) rfl Tryd.func7 rfl (Le.refl _)
    · refine Run.callBX hp rfl rfl ⟨Le.refl _, trivial⟩ rfl rfl rfl ?_
      (conv => whnf); repeat' (first | ((with_reducible refine Know.mk fun _ => ?_); conv => whnf) | ((with_reducible refine Need.mk ?_ ?_); exact nd; conv => whnf) | ((with_reducible first | refine Both.mk ?_ ?_ | refine Any.mk fun b hb => ?_ | refine AskB.dec (fun hb => ?_) (fun hb => ?_) | refine AskB.ndec (fun hb => ?_) (fun hb => ?_) | refine AskB.mk (fun hb => ?_) (fun hb => ?_)) <;> conv => whnf) | ((with_reducible first | refine Run.drawX rfl (by decide +kernel) ?_ | refine Run.drawT rfl (by decide +kernel) ?_ | refine Run.drawW rfl (by decide +kernel) ?_); conv => whnf) | fail)
      all_goals try exact absurd rfl (by assumption)
      refine Run.callBX hq rfl rfl ⟨Le.refl _, trivial⟩ rfl rfl rfl ?_
      (conv => whnf); repeat' (first | ((with_reducible refine Know.mk fun _ => ?_); conv => whnf) | ((with_reducible refine Need.mk ?_ ?_); exact nd; conv => whnf) | ((with_reducible first | refine Both.mk ?_ ?_ | refine Any.mk fun b hb => ?_ | refine AskB.dec (fun hb => ?_) (fun hb => ?_) | refine AskB.ndec (fun hb => ?_) (fun hb => ?_) | refine AskB.mk (fun hb => ?_) (fun hb => ?_)) <;> conv => whnf) | ((with_reducible first | refine Run.drawX rfl (by decide +kernel) ?_ | refine Run.drawT rfl (by decide +kernel) ?_ | refine Run.drawW rfl (by decide +kernel) ?_); conv => whnf) | fail)
      all_goals try exact absurd rfl (by assumption)
      refine Run.callBX hsame rfl rfl ⟨Le.refl _, Le.refl _, trivial⟩ rfl rfl rfl ?_
      (conv => whnf); repeat' (first | ((with_reducible refine Know.mk fun _ => ?_); conv => whnf) | ((with_reducible refine Need.mk ?_ ?_); exact nd; conv => whnf) | ((with_reducible first | refine Both.mk ?_ ?_ | refine Any.mk fun b hb => ?_ | refine AskB.dec (fun hb => ?_) (fun hb => ?_) | refine AskB.ndec (fun hb => ?_) (fun hb => ?_) | refine AskB.mk (fun hb => ?_) (fun hb => ?_)) <;> conv => whnf) | ((with_reducible first | refine Run.drawX rfl (by decide +kernel) ?_ | refine Run.drawT rfl (by decide +kernel) ?_ | refine Run.drawW rfl (by decide +kernel) ?_); conv => whnf) | fail)
      exact Run.leave (ts := [4]) (.inr ⟨_, rfl⟩) rfl Tryd.func7 rfl (Le.refl _)
end Go.Proofs.YtkdpmkjbfkjmdaaDoor.V

namespace Go.Proofs.YtkdpmkjbfkjmdaaDoor.V
set_option linter.unusedVariables false
set_option linter.unusedSimpArgs false
open Go Go.Proofs Go.RowKit
set_option maxRecDepth 100000
theorem dInt5 : Dec Tryd.prog 3 tI (fun _ => 1) := Dec.int (by kernel_rfl) (by kernel_rfl)
def bkPc (p : Pc) : Nat := sumL (fun x : ByteArray => x.size + 1) p.texts + 3
theorem dTs : Dec Tryd.prog 32 (⟨1, fun x _ => tS.L x, []⟩ : Ty (List ByteArray)) (fun l => sumL (fun x : ByteArray => x.size + 1) l + 1) := Dec.slice (e := 9) (t := 32) (by kernel_rfl) (by kernel_rfl) (by decide) (Dec.str (by kernel_rfl) (by kernel_rfl))
theorem dPc : Dec Tryd.prog 34 tPc bkPc :=
  Dec.map (fun x : Int × List ByteArray × Int × Unit => ⟨x.1, x.2.1, x.2.2.1⟩) rfl (fun x j hj => match j, hj with | 0, _ => Le.refl _ | 1, _ => Le.refl _ | 2, _ => Le.refl _) (fun x => by simp only [bkPc]; omega)
    (Dec.struct (t := 34) (fs := #[⟨"Kind", 3, 0, false, "", "", 0⟩, ⟨"Texts", 32, 1, false, "", "", 8⟩, ⟨"N", 3, 2, false, "", "", 32⟩]) (by kernel_rfl) (by kernel_rfl) (DecF.cons rfl dInt5 (DecF.cons rfl dTs (DecF.cons rfl dInt5 DecF.nil))))
theorem argPcs : Arg Tryd.prog 23 (fun l : List Pc => tPc.L l) (fun l => sumL bkPc l + 1) := Arg.slice (T := tPc) (e := 34) (by kernel_rfl) (by kernel_rfl) (by decide) dPc
/-! ### what the bulk bounds -/
theorem sumLm {α : Type} (f : α → Nat) {x : α} : ∀ {l : List α}, x ∈ l → f x ≤ sumL f l
  | a :: l, h => by
    show _ ≤ f a + sumL f l
    rcases List.mem_cons.mp h with rfl | h
    · omega
    · have := sumLm f h; omega
theorem sumLp {α : Type} (f : α → Nat) (h : ∀ x, 1 ≤ f x) : ∀ l : List α, l.length ≤ sumL f l
  | [] => Nat.zero_le _
  | a :: l => by
    have := sumLp f h l
    have := h a
    show l.length + 1 ≤ f a + sumL f l
    omega
theorem joinL_sum : ∀ l : List ByteArray, (joinL (l.map escB)).length ≤ 2 * sumL (fun x : ByteArray => x.size + 1) l
  | [] => Nat.zero_le _
  | [x] => by
    have h2 : (escB x).length ≤ 2 * x.size := (escL_len (bl x)).2
    show (escB x).length ≤ 2 * ((x.size + 1) + 0)
    omega
  | x :: y :: r => by
    have h2 : (escB x).length ≤ 2 * x.size := (escL_len (bl x)).2
    have ih := joinL_sum (y :: r)
    show (escB x ++ 124 :: joinL ((y :: r).map escB)).length ≤ 2 * ((x.size + 1) + sumL (fun x : ByteArray => x.size + 1) (y :: r))
    rw [List.length_append, List.length_cons]
    omega
theorem pcL_bk (p : Pc) : (pcL p).length ≤ 4 * bkPc p := by
  have hJ := joinL_sum p.texts
  have hn2 : (numL p.n.toNat).length ≤ 2 := by unfold numL; split <;> simp
  unfold pcL bkPc
  split
  · simp only [List.length_cons, List.length_append, List.length_nil]; omega
  split
  · simp only [List.length_cons, List.length_append, List.length_nil]; omega
  split
  · simp only [List.length_cons, List.length_append, List.length_nil]; omega
  · omega
theorem prK_bk : ∀ ps : List Pc, (prK ps).length ≤ 4 * sumL bkPc ps
  | [] => Nat.zero_le _
  | p :: ps => by
    have := prK_bk ps
    have := pcL_bk p
    rw [prK_cons, List.length_append]
    show _ ≤ 4 * (bkPc p + sumL bkPc ps)
    omega
structure PcsFit (ps : List Pc) : Prop where
  hl : ps.length ≤ 1000000
  ht : ∀ p ∈ ps, p.texts.length ≤ 2000000
  hx : ∀ p ∈ ps, ∀ x ∈ p.texts, x.size ≤ 2000000
  hpk : (prK ps).length ≤ 20000000000
theorem pcsFit {ps : List Pc} (h : sumL bkPc ps ≤ 1048576) : PcsFit ps := by
  have hb : ∀ p ∈ ps, bkPc p ≤ 1048576 := fun p hp => Nat.le_trans (sumLm bkPc hp) h
  refine ⟨?_, fun p hp => ?_, fun p hp x hx => ?_, ?_⟩
  · have h3 : ∀ l : List Pc, 3 * l.length ≤ sumL bkPc l := by
      intro l
      induction l with
      | nil => exact Nat.zero_le _
      | cons a l ih =>
        show 3 * (l.length + 1) ≤ bkPc a + sumL bkPc l
        have : 3 ≤ bkPc a := by unfold bkPc; omega
        omega
    have := h3 ps
    omega
  · have h1 := hb p hp
    unfold bkPc at h1
    have h2 := sumLp (fun x : ByteArray => x.size + 1) (fun x => by omega) p.texts
    omega
  · have h1 := hb p hp
    unfold bkPc at h1
    have h2 : x.size + 1 ≤ sumL (fun x : ByteArray => x.size + 1) p.texts := sumLm (fun x : ByteArray => x.size + 1) hx
    omega
  · have := prK_bk ps
    omega
end Go.Proofs.YtkdpmkjbfkjmdaaDoor.V

