/-
The texts BKv, of each what the law needs.
-/
import Derived.Test.YtkdpmkjbfkjmdaaDoorQK3
namespace Go.Proofs.YtkdpmkjbfkjmdaaDoor.V
set_option linter.unusedVariables false
set_option linter.unusedSimpArgs false
open Go Go.Proofs Go.RowKit
set_option maxRecDepth 100000
set_option maxHeartbeats 1000000
def lastK : Int → List Pc → Int
  | k, [] => k
  | _, p :: ps => lastK p.kind ps
theorem checkB_app : ∀ (xs ys : List Pc) (k : Int), checkB k (xs ++ ys) = (checkB k xs && checkB (lastK k xs) ys)
  | [], ys, k => by simp [checkB, lastK]
  | p :: xs, ys, k => by
    show (rightB p k && checkB p.kind (xs ++ ys)) = (rightB p k && checkB p.kind xs && checkB (lastK p.kind xs) ys)
    rw [checkB_app xs ys p.kind, Bool.and_assoc]
theorem lastK_app (xs : List Pc) (p : Pc) : ∀ k, lastK k (xs ++ [p]) = p.kind := by
  induction xs with
  | nil => intro k; rfl
  | cons q xs ih => intro k; exact ih q.kind
theorem kind1 {p : Pc} (h : rightP p) (hk : p.kind = 1) : ∃ x : List UInt8, x ≠ [] ∧ p = ⟨1, [bs x], 0⟩ := by
  rcases h with ⟨_, h1, hne, hn⟩ | ⟨h, _⟩ | ⟨h, _⟩
  · obtain ⟨kind, texts, n⟩ := p
    simp only at hk h1 hne hn
    subst hk; subst hn
    rw [one_text h1] at hne ⊢
    refine ⟨bl (texts.getD 0 .empty), bl_ne hne, ?_⟩
    rw [bs_bl]
  all_goals omega
theorem rightB_split {p : Pc} {a : Int} (h : rightB p a = true) : rightP p ∧ ¬ (p.kind = 1 ∧ a = 1) := by
  unfold rightB at h
  rw [Bool.and_eq_true, decide_eq_true_eq] at h
  refine ⟨h.1, fun ⟨h1, h2⟩ => ?_⟩
  have := h.2
  rw [decide_eq_true h1, decide_eq_true h2] at this
  cases this
theorem rightB_of {p : Pc} {a : Int} (h : rightP p) (h2 : ¬ (p.kind = 1 ∧ a = 1)) : rightB p a = true := by
  unfold rightB
  rw [Bool.and_eq_true, decide_eq_true_eq]
  refine ⟨h, ?_⟩
  by_cases h1 : p.kind = 1
  · rw [decide_eq_true h1, decide_eq_false (fun e => h2 ⟨h1, e⟩)]; rfl
  · rw [decide_eq_false h1]; rfl
theorem parse_check {s : List UInt8} {a : List Pc} (h : parseL s = .ok a) : s = prK a ∧ checkB 0 a = true :=
  parse_inv _ s (Nat.le_refl _) h 0 (fun h => absurd h (by decide))
theorem join_plain {s t : List UInt8} {a0 b0 : List Pc} {x y : List UInt8} (hx : x ≠ []) (h1 : parseL s = .ok (a0 ++ [⟨1, [bs x], 0⟩])) (h2 : parseL t = .ok (⟨1, [bs y], 0⟩ :: b0)) : parseL (s ++ t) = .ok (a0 ++ ⟨1, [bs (x ++ y)], 0⟩ :: b0) := by
  obtain ⟨rfl, c1⟩ := parse_check h1
  obtain ⟨rfl, c2⟩ := parse_check h2
  rw [checkB_app, Bool.and_eq_true] at c1
  have c3 : rightB ⟨1, [bs x], 0⟩ (lastK 0 a0) = true := by
    have := c1.2
    unfold checkB at this
    rw [Bool.and_eq_true] at this
    exact this.1
  have c4 : checkB 1 b0 = true := by
    unfold checkB at c2
    rw [Bool.and_eq_true] at c2
    exact c2.2
  have hp : ∀ z : List UInt8, pcL ⟨1, [bs z], 0⟩ = escL z := fun z => by
    show escL (bl (bs z)) = _
    rw [bl_bs]
  have he : prK (a0 ++ [⟨1, [bs x], 0⟩]) ++ prK (⟨1, [bs y], 0⟩ :: b0) = prK (a0 ++ ⟨1, [bs (x ++ y)], 0⟩ :: b0) := by
    rw [prK_app, prK_app, prK_cons, prK_cons, prK_cons, hp, hp, hp, escL_app]
    show prK a0 ++ (escL x ++ []) ++ _ = _
    simp
  rw [he]
  refine parse_pr _ 0 ?_
  rw [checkB_app, c1.1, Bool.true_and]
  unfold checkB
  rw [rightB_of (p := ⟨1, [bs (x ++ y)], 0⟩) (.inl ⟨.inl rfl, rfl, (show bs (x ++ y) ≠ .empty from bs_ne (fun e => hx (List.append_eq_nil_iff.mp e).1)), rfl⟩) (fun h => (rightB_split c3).2 ⟨rfl, h.2⟩), Bool.true_and]
  exact c4
theorem join_app {s t : List UInt8} {a b : List Pc} (h1 : parseL s = .ok a) (h2 : parseL t = .ok b) (h : ¬ (lastK 0 a = 1 ∧ ∃ q b0, b = q :: b0 ∧ q.kind = 1)) : parseL (s ++ t) = .ok (a ++ b) := by
  obtain ⟨rfl, c1⟩ := parse_check h1
  obtain ⟨rfl, c2⟩ := parse_check h2
  rw [← prK_app]
  refine parse_pr _ 0 ?_
  rw [checkB_app, c1, Bool.true_and]
  cases b with
  | nil => rfl
  | cons q b0 =>
    unfold checkB at c2 ⊢
    rw [Bool.and_eq_true] at c2 ⊢
    exact ⟨rightB_of (rightB_split c2.1).1 (fun hh => h ⟨hh.2, q, b0, rfl, hh.1⟩), c2.2⟩
theorem parseT_zero {l : List UInt8} {ps : List Pc} {n : Nat} (h : parseT l = (ps, n, 0)) : l.length ≤ 65536 ∧ parseL l = .ok ps ∧ n = 0 := by
  unfold parseT at h
  by_cases hl : 65536 < l.length
  · rw [if_pos hl] at h; injection h with h1 h2; injection h2 with h2 h3; exact absurd h3 (by decide)
  · rw [if_neg hl] at h
    cases hp : parseL l with
    | bad k => rw [hp] at h; injection h with h1 h2; injection h2 with h2 h3; exact absurd h3 (by decide)
    | ok qs => rw [hp] at h; injection h with h1 h2; injection h2 with h2 h3; exact ⟨by omega, by rw [h1], h2.symm⟩
theorem parseT_ok {l : List UInt8} {ps : List Pc} (hl : l.length ≤ 65536) (h : parseL l = .ok ps) : parseT l = (ps, 0, 0) := by
  unfold parseT
  rw [if_neg (by omega), h]
theorem join2_row (e : Nat) (a b : List Pc) (g0 : Nat → Nat → AV) : MOle (.row e tPc.sz (0 + a.length + b.length) (joinRow (0 + a.length) (joinRow 0 g0 (tPc.G a)) (tPc.G b))) (tPc.R e (a ++ b)) := by
  have h1 := tPc.join e [] a 0 a.length (tPc.G a) g0 rfl rfl (fun i j hi _ => absurd hi (Nat.not_lt_zero _)) (fun _ _ _ _ => Le.refl _)
  obtain ⟨_, _, hn, h1⟩ := h1
  exact tPc.join e a b (0 + a.length) b.length (tPc.G b) _ (by omega) rfl (fun i j hi hj => h1 i j hi hj) (fun _ _ _ _ => Le.refl _)
def jF (A B J : List Pc) (n : Nat) (x y : List UInt8) : Env := lst ([(5, tPc.L A), (8, tPc.L B), (11, tPc.L J)] ++ [(105, tPc.L A), (106, tPc.L A), (107, .int .i64 (A.length : Int)), (108, .int .i64 (n : Int)), (109, .iadr tPc.sz (tPc.G A (n : Int).toNat)), (110, .iadr (tPc.sz - 1) (fun q => tPc.G A (n : Int).toNat (1 + q))), (111, tS.L [bs x]), (112, .iadr tS.sz (tS.G [bs x] (Int.toNat 0))), (113, .str (bs x)), (114, tPc.L B), (115, .iadr tPc.sz (tPc.G B (Int.toNat 0))), (116, .iadr (tPc.sz - 1) (fun q => tPc.G B (Int.toNat 0) (1 + q))), (117, tS.L [bs y]), (118, .iadr tS.sz (tS.G [bs y] (Int.toNat 0))), (119, .str (bs y)), (120, .str (bs (x ++ y))), (121, tS.L [bs (x ++ y)]), (122, .agg 3 (tPc.enc ⟨1, [bs (x ++ y)], 0⟩))])
def jF1 (A B J : List Pc) (n : Nat) (x y : List UInt8) : Env := upd (fun s => scrub 14 (jF A B J n x y s)) 14 (.box 14 0)
def jH1 : Heap := upd (upd (scrubH 14 (lstH [])) 14 .dead) 14 (.box 34 [.int .i64 0, .nils, .int .i64 0])
def jG (A B J : List Pc) (n : Nat) (x y : List UInt8) : Env := lst ([(5, tPc.L A), (8, tPc.L B), (11, tPc.L J), (14, .box 14 0)] ++ [(123, tPc.L A), (124, tPc.L A), (125, .int .i64 (A.length : Int)), (126, .int .i64 (n : Int)), (127, .sl (n : Int).toNat tPc.sz (tPc.G A)), (129, .agg 3 (tPc.enc ⟨1, [bs (x ++ y)], 0⟩)), (130, tPc.L [⟨1, [bs (x ++ y)], 0⟩])])
def jG1 (A B J : List Pc) (n : Nat) (x y : List UInt8) : Env := upd (fun s => scrub 128 (jG A B J n x y s)) 128 (.row 128)
def jG2 (A B J : List Pc) (n : Nat) (x y : List UInt8) : Env := upd (fun s => scrub 131 (jG1 A B J n x y s)) 131 (.row 131)
def jK1 (A : List Pc) (n : Nat) (x y : List UInt8) : Heap := upd (upd (scrubH 128 (lstH [(14, .box 34 [.int .i64 1, tS.L [bs (x ++ y)], .int .i64 0])])) 128 .dead) 128 (.row 34 3 (0 + (n : Int).toNat) (joinRow 0 (fun _ _ => .u) (tPc.G A)))
def jK2 (A : List Pc) (n : Nat) (x y : List UInt8) : Heap := upd (upd (scrubH 131 (jK1 A n x y)) 128 .dead) 131 (.row 34 3 (0 + (n : Int).toNat + 1) (joinRow (0 + (n : Int).toNat) (joinRow 0 (fun _ _ => .u) (tPc.G A)) (tPc.G [⟨1, [bs (x ++ y)], 0⟩])))
theorem onePc_sl (p : Pc) (g : Nat → Nat → AV) (h : ∀ j, j < 3 → Le (g 0 j) (tPc.enc p j)) : Le (.sl 1 3 g) (tPc.L [p]) := Le.sl fun i j hi hj => by
  obtain rfl : i = 0 := by omega
  exact h j hj
theorem join3_row (e : Nat) (a0 b0 A B J : List Pc) (P : Pc) (g0 : Nat → Nat → AV) (hJ : a0 ++ P :: b0 = J) (hA : ∀ i, i < a0.length → A.getD i tPc.z = a0.getD i tPc.z) (hB : ∀ i, B.getD (1 + i) tPc.z = b0.getD i tPc.z) {m : Nat} (hm : m = b0.length := by simp) :
    MOle (.row e tPc.sz (0 + (a0.length : Int).toNat + 1 + m) (joinRow (0 + (a0.length : Int).toNat + 1) (joinRow (0 + (a0.length : Int).toNat) (joinRow 0 g0 (tPc.G A)) (tPc.G [P])) (fun i j => tPc.G B (Int.toNat 1 + i) j))) (tPc.R e J) := by
  rw [Int.toNat_natCast]
  have h1 := tPc.join e [] a0 0 a0.length (tPc.G A) g0 rfl rfl (fun i j hi _ => absurd hi (Nat.not_lt_zero _)) (fun i j hi hj => by unfold Ty.G; rw [hA i hi]; exact Le.refl _)
  obtain ⟨_, _, _, h1⟩ := h1
  have h2 := tPc.join e a0 [P] (0 + a0.length) 1 (tPc.G [P]) _ (by omega) rfl (fun i j hi hj => h1 i j hi hj) (fun _ _ _ _ => Le.refl _)
  obtain ⟨_, _, _, h2⟩ := h2
  have h3 := tPc.join e (a0 ++ [P]) b0 (0 + a0.length + 1) m (fun i j => tPc.G B (Int.toNat 1 + i) j) _ (by simp) hm (fun i j hi hj => h2 i j hi hj) (fun i j hi hj => by
    show Le (tPc.enc (B.getD (1 + i) tPc.z) j) _
    rw [hB i]; exact Le.refl _)
  rw [← hJ, show a0 ++ P :: b0 = (a0 ++ [P]) ++ b0 by simp]
  exact h3
theorem markJoins_fn (s t : List UInt8) (hs : s.length ≤ 2000000) (ht : t.length ≤ 2000000) : Fn Tryd.prog 5 [.str (bs s), .str (bs t)] .tt := by
  have hss := bs_size s
  have hst := bs_size t
  have hw1 : IntKind.i64.wrap (65536 - ((bs s).size : Int)) = 65536 - ((bs s).size : Int) := wrap64 (by omega) (by omega)
  obtain ⟨a, n1, e1, hA⟩ : ∃ ps n e, parseT s = (ps, n, e) := ⟨_, _, _, rfl⟩
  obtain ⟨b, n2, e2, hB⟩ : ∃ ps n e, parseT t = (ps, n, e) := ⟨_, _, _, rfl⟩
  have hla := parseT_len s
  have hlb := parseT_len t
  rw [hA] at hla
  rw [hB] at hlb
  have hfa := parseA_is hA
  have hfb := parseA_is hB
  have hab : (bs s).size + (bs t).size ≤ 9223372036854775807 := by omega
  have hlc := parseT_len (s ++ t)
  by_cases hguard : s.length + t.length ≤ 65536
  · by_cases h12 : e1 = 0 ∧ e2 = 0
    · obtain ⟨rfl, rfl⟩ := h12
      obtain ⟨_, ha, rfl⟩ := parseT_zero hA
      obtain ⟨_, hb, rfl⟩ := parseT_zero hB
      by_cases hj : lastK 0 a = 1 ∧ ∃ q b0, b = q :: b0 ∧ q.kind = 1
      · obtain ⟨hj1, q, b0, rfl, hq1⟩ := hj
        have hca := (parse_check ha).2
        have hcb := (parse_check hb).2
        obtain ⟨a0, p, rfl, hp1⟩ : ∃ a0 p, a = a0 ++ [p] ∧ p.kind = 1 := by
          by_cases hn : a = []
          · subst hn; exact absurd hj1 (by show ¬ (0 : Int) = 1; decide)
          · have e := List.dropLast_concat_getLast hn
            refine ⟨a.dropLast, a.getLast hn, e.symm, ?_⟩
            rw [← e, lastK_app] at hj1; exact hj1
        obtain ⟨x, hx, rfl⟩ := kind1 (check_len hca p (by simp)) hp1
        obtain ⟨y, hy, rfl⟩ := kind1 (check_len hcb q (by simp)) hq1
        have hxs : x.length ≤ s.length := by
          rw [(parse_check ha).1, prK_app, List.length_append]
          have h1 : prK [(⟨1, [bs x], 0⟩ : Pc)] = escL x := by show escL (bl (bs x)) ++ [] = _; rw [bl_bs]; simp
          have := (escL_len x).1
          rw [h1]; omega
        have hyt : y.length ≤ t.length := by
          rw [(parse_check hb).1, prK_cons, List.length_append]
          have h1 : pcL (⟨1, [bs y], 0⟩ : Pc) = escL y := by show escL (bl (bs y)) = _; rw [bl_bs]
          have := (escL_len y).1
          rw [h1]; omega
        have hjp := join_plain hx ha hb
        have hc := parseA_is (parseT_ok (by rw [List.length_append]; omega) hjp)
        rw [parseT_ok (by rw [List.length_append]; omega) hjp] at hlc
        simp only [] at hla hlb hlc
        generalize hJ : a0 ++ ⟨1, [bs (x ++ y)], 0⟩ :: b0 = J at hc hlc
        have hsm := samePc_fn J J (by omega) (fun p hp => by have := hlc.2 p hp; omega)
        rw [decide_eq_true rfl] at hsm
        have hlA : (a0 ++ [(⟨1, [bs x], 0⟩ : Pc)]).length = a0.length + 1 := by simp
        have hlB : ((⟨1, [bs y], 0⟩ : Pc) :: b0).length = b0.length + 1 := by simp
        have hlJ : J.length = a0.length + b0.length + 1 := by rw [← hJ]; simp; omega
        have hwA : IntKind.i64.wrap (((a0 ++ [(⟨1, [bs x], 0⟩ : Pc)]).length : Int) - 1) = (a0.length : Int) := by rw [hlA, wrap64 (by omega) (by omega)]; omega
        have hwAB : IntKind.i64.wrap (IntKind.i64.wrap (((a0 ++ [(⟨1, [bs x], 0⟩ : Pc)]).length : Int) + (((⟨1, [bs y], 0⟩ : Pc) :: b0).length : Int)) - 1) = (J.length : Int) := by
          rw [hlA, hlB, hlJ, wrap64 (x := ((a0.length + 1 : Nat) : Int) + ((b0.length + 1 : Nat) : Int)) (by omega) (by omega), wrap64 (by omega) (by omega)]; omega
        have hgA : (a0 ++ [(⟨1, [bs x], 0⟩ : Pc)]).getD (IntKind.i64.wrap (((a0 ++ [(⟨1, [bs x], 0⟩ : Pc)]).length : Int) - 1)).toNat tPc.z = ⟨1, [bs x], 0⟩ := by
          rw [hwA, Int.toNat_natCast, List.getD, List.getElem?_append_right (Nat.le_refl _), Nat.sub_self]; rfl
        have hkA : ((a0 ++ [(⟨1, [bs x], 0⟩ : Pc)]).getD (IntKind.i64.wrap (((a0 ++ [(⟨1, [bs x], 0⟩ : Pc)]).length : Int) - 1)).toNat tPc.z).kind = 1 := by rw [hgA]
        have htA : (((a0 ++ [(⟨1, [bs x], 0⟩ : Pc)]).getD (IntKind.i64.wrap (((a0 ++ [(⟨1, [bs x], 0⟩ : Pc)]).length : Int) - 1)).toNat tPc.z).texts.length : Int) = 1 := by rw [hgA]; rfl
        refine Fn.of Tryd.f5 _ Tryd.func5 rfl (by decide) (by show 2 ≤ _; decide) tbOk 144 rfl fun S w0 gl => ?_
        refine Run.go ?_; (conv => whnf); repeat' (first | ((with_reducible refine Know.mk fun _ => ?_); conv => whnf) | ((with_reducible refine Need.mk ?_ ?_); exact nd; conv => whnf) | ((with_reducible first | refine Both.mk ?_ ?_ | refine Any.mk fun b hb => ?_ | refine AskB.dec (fun hb => ?_) (fun hb => ?_) | refine AskB.ndec (fun hb => ?_) (fun hb => ?_) | refine AskB.mk (fun hb => ?_) (fun hb => ?_)) <;> conv => whnf) | ((with_reducible first | refine Run.drawX rfl (by decide +kernel) ?_ | refine Run.drawT rfl (by decide +kernel) ?_ | refine Run.drawW rfl (by decide +kernel) ?_); conv => whnf) | fail)
        refine Run.callBX awake05_fn rfl rfl trivial rfl rfl rfl ?_
        (conv => whnf); repeat' (first | ((with_reducible refine Know.mk fun _ => ?_); conv => whnf) | ((with_reducible refine Need.mk ?_ ?_); exact nd; conv => whnf) | ((with_reducible first | refine Both.mk ?_ ?_ | refine Any.mk fun b hb => ?_ | refine AskB.dec (fun hb => ?_) (fun hb => ?_) | refine AskB.ndec (fun hb => ?_) (fun hb => ?_) | refine AskB.mk (fun hb => ?_) (fun hb => ?_)) <;> conv => whnf) | ((with_reducible first | refine Run.drawX rfl (by decide +kernel) ?_ | refine Run.drawT rfl (by decide +kernel) ?_ | refine Run.drawW rfl (by decide +kernel) ?_); conv => whnf) | fail)
        all_goals try (exfalso; omega)
        refine Run.callBX hfa rfl rfl ⟨Le.refl _, trivial⟩ rfl rfl rfl ?_
        (conv => whnf); repeat' (first | ((with_reducible refine Know.mk fun _ => ?_); conv => whnf) | ((with_reducible refine Need.mk ?_ ?_); exact nd; conv => whnf) | ((with_reducible first | refine Both.mk ?_ ?_ | refine Any.mk fun b hb => ?_ | refine AskB.dec (fun hb => ?_) (fun hb => ?_) | refine AskB.ndec (fun hb => ?_) (fun hb => ?_) | refine AskB.mk (fun hb => ?_) (fun hb => ?_)) <;> conv => whnf) | ((with_reducible first | refine Run.drawX rfl (by decide +kernel) ?_ | refine Run.drawT rfl (by decide +kernel) ?_ | refine Run.drawW rfl (by decide +kernel) ?_); conv => whnf) | fail)
        refine Run.callBX hfb rfl rfl ⟨Le.refl _, trivial⟩ rfl rfl rfl ?_
        (conv => whnf); repeat' (first | ((with_reducible refine Know.mk fun _ => ?_); conv => whnf) | ((with_reducible refine Need.mk ?_ ?_); exact nd; conv => whnf) | ((with_reducible first | refine Both.mk ?_ ?_ | refine Any.mk fun b hb => ?_ | refine AskB.dec (fun hb => ?_) (fun hb => ?_) | refine AskB.ndec (fun hb => ?_) (fun hb => ?_) | refine AskB.mk (fun hb => ?_) (fun hb => ?_)) <;> conv => whnf) | ((with_reducible first | refine Run.drawX rfl (by decide +kernel) ?_ | refine Run.drawT rfl (by decide +kernel) ?_ | refine Run.drawW rfl (by decide +kernel) ?_); conv => whnf) | fail)
        refine Run.callBX hc rfl rfl ⟨Le.str (bs_app s t), trivial⟩ rfl rfl rfl ?_
        (conv => whnf); repeat' (first | ((with_reducible refine Know.mk fun _ => ?_); conv => whnf) | ((with_reducible refine Need.mk ?_ ?_); exact nd; conv => whnf) | ((with_reducible first | refine Both.mk ?_ ?_ | refine Any.mk fun b hb => ?_ | refine AskB.dec (fun hb => ?_) (fun hb => ?_) | refine AskB.ndec (fun hb => ?_) (fun hb => ?_) | refine AskB.mk (fun hb => ?_) (fun hb => ?_)) <;> conv => whnf) | ((with_reducible first | refine Run.drawX rfl (by decide +kernel) ?_ | refine Run.drawT rfl (by decide +kernel) ?_ | refine Run.drawW rfl (by decide +kernel) ?_); conv => whnf) | fail)
        all_goals try (exfalso; omega)
        all_goals try (exact absurd rfl (by assumption))
        generalize hPA : a0 ++ [(⟨1, [bs x], 0⟩ : Pc)] = A at *
        generalize hPB : (⟨1, [bs y], 0⟩ : Pc) :: b0 = B at *
        refine Run.to [(5, tPc.L A), (8, tPc.L B), (11, tPc.L J)] [] ⟨Le.refl _, Le.refl _, Le.refl _, trivial⟩ (by trivial) ?_
        have hAt : (A.getD (a0.length : Int).toNat tPc.z).texts = [bs x] := by rw [← hwA, hgA]
        have hBt : (B.getD (Int.toNat 0) tPc.z).texts = [bs y] := by rw [← hPB]; rfl
        have hx1 : ([bs x] : List ByteArray).length = 1 := rfl
        have hy1 : ([bs y] : List ByteArray).length = 1 := rfl
        have hxy : (bs x).size + (bs y).size ≤ 9223372036854775807 := by rw [bs_size, bs_size]; omega
        refine Run.drawS [18, 19] (jF A B J a0.length x y) rfl (by decide +kernel) (lst_dsts rfl) ?_
        refine ⟨?_, by decide +kernel, by decide, jF1 A B J a0.length x y, jH1, fun listed rest hsz hpre next => ?_, ?_⟩
        · intro i hi ha
          have hc : i < 18 := by revert ha; revert i; decide +kernel
          clear ha hi
          have hcs : i = 0 ∨ i = 1 ∨ i = 2 ∨ i = 3 ∨ i = 4 ∨ i = 5 ∨ i = 6 ∨ i = 7 ∨ i = 8 ∨ i = 9 ∨ i = 10 ∨ i = 11 ∨ i = 12 ∨ i = 13 ∨ i = 14 ∨ i = 15 ∨ i = 16 ∨ i = 17 := by omega
          rcases hcs with rfl | rfl | rfl | rfl | rfl | rfl | rfl | rfl | rfl | rfl | rfl | rfl | rfl | rfl | rfl | rfl | rfl | rfl
          case inr.inr.inr.inr.inr.inr.inr.inr.inr.inr.inr.inr.inr.inr.inr.inr.inl =>
            refine ⟨_, rfl, rfl, rfl, fun env ι a w R hρ => ⟨_, quiet_fresh (d := 121) (e := 9) (sz := 1) rfl (fun p hp => by simp at hp; subst hp; rfl) (fun K stop hk => by (conv => whnf); exact hk), fun d hd => by cases hd; exact one_sl 5 _ _ (Le.refl _)⟩⟩
          all_goals refine opAt_ok ?_
          all_goals ((conv => whnf); repeat' (first | ((with_reducible refine Know.mk fun _ => ?_); conv => whnf) | ((with_reducible refine Need.mk ?_ ?_); exact nd; conv => whnf) | ((with_reducible first | refine Both.mk ?_ ?_ | refine Any.mk fun b hb => ?_ | refine AskB.dec (fun hb => ?_) (fun hb => ?_) | refine AskB.ndec (fun hb => ?_) (fun hb => ?_) | refine AskB.mk (fun hb => ?_) (fun hb => ?_)) <;> conv => whnf) | ((with_reducible first | refine Run.drawX rfl (by decide +kernel) ?_ | refine Run.drawT rfl (by decide +kernel) ?_ | refine Run.drawW rfl (by decide +kernel) ?_); conv => whnf) | fail))
          all_goals first
            | exact Le.refl _
            | exact Le.int hwA
            | (show Le (tS.L (A.getD (a0.length : Int).toNat tPc.z).texts) (tS.L [bs x]); rw [hAt]; exact Le.refl _)
            | (show Le (tS.L (B.getD (Int.toNat 0) tPc.z).texts) (tS.L [bs y]); rw [hBt]; exact Le.refl _)
            | exact Le.str (bs_app x y)
            | exact Le.agg (fun j hj => by match j, hj with | 0, _ => exact Le.refl _ | 1, _ => exact Le.refl _ | 2, _ => exact Le.refl _)
        · refine Run.stageOp (StatS.of (all := [18, 19]) (by decide +kernel)) (scrub 14) (.box 14 0) rfl (by decide) rfl rfl rfl (fun s hs => ?_) (fun d hd => ?_) hsz hpre (fun G hG K stop hk => ?_) next
          · have h1 : s ≠ 14 := fun e => hs (by subst e; rfl)
            unfold jF1
            rw [upd_other _ _ h1]; exact Le.refl _
          · cases hd; exact Le.refl _
          · (conv => whnf)
            exact hk
        refine ⟨?_, by decide +kernel, by decide, jF1 A B J a0.length x y, ?_⟩
        · intro i hi ha
          have hc : i < 18 := by revert ha; revert i; decide +kernel
          clear ha hi
          have hcs : i = 0 ∨ i = 1 ∨ i = 2 ∨ i = 3 ∨ i = 4 ∨ i = 5 ∨ i = 6 ∨ i = 7 ∨ i = 8 ∨ i = 9 ∨ i = 10 ∨ i = 11 ∨ i = 12 ∨ i = 13 ∨ i = 14 ∨ i = 15 ∨ i = 16 ∨ i = 17 := by omega
          rcases hcs with rfl | rfl | rfl | rfl | rfl | rfl | rfl | rfl | rfl | rfl | rfl | rfl | rfl | rfl | rfl | rfl | rfl | rfl
          case inr.inr.inr.inr.inr.inr.inr.inr.inr.inr.inr.inr.inr.inr.inr.inr.inl =>
            refine ⟨_, rfl, rfl, rfl, fun env ι a w R hρ => ⟨_, quiet_fresh (d := 121) (e := 9) (sz := 1) rfl (fun p hp => by simp at hp; subst hp; rfl) (fun K stop hk => by (conv => whnf); exact hk), fun d hd => by cases hd; exact one_sl 5 _ _ (Le.refl _)⟩⟩
          all_goals refine opAt_ok ?_
          all_goals ((conv => whnf); repeat' (first | ((with_reducible refine Know.mk fun _ => ?_); conv => whnf) | ((with_reducible refine Need.mk ?_ ?_); exact nd; conv => whnf) | ((with_reducible first | refine Both.mk ?_ ?_ | refine Any.mk fun b hb => ?_ | refine AskB.dec (fun hb => ?_) (fun hb => ?_) | refine AskB.ndec (fun hb => ?_) (fun hb => ?_) | refine AskB.mk (fun hb => ?_) (fun hb => ?_)) <;> conv => whnf) | ((with_reducible first | refine Run.drawX rfl (by decide +kernel) ?_ | refine Run.drawT rfl (by decide +kernel) ?_ | refine Run.drawW rfl (by decide +kernel) ?_); conv => whnf) | fail))
          all_goals first
            | exact Le.refl _
            | exact Le.int hwA
            | (show Le (tS.L (A.getD (a0.length : Int).toNat tPc.z).texts) (tS.L [bs x]); rw [hAt]; exact Le.refl _)
            | (show Le (tS.L (B.getD (Int.toNat 0) tPc.z).texts) (tS.L [bs y]); rw [hBt]; exact Le.refl _)
            | exact Le.str (bs_app x y)
            | exact Le.agg (fun j hj => by match j, hj with | 0, _ => exact Le.refl _ | 1, _ => exact Le.refl _ | 2, _ => exact Le.refl _)
        apply Exists.intro
        refine ⟨fun listed rest hsz hpre next => ?_, ?_⟩
        · refine Run.stageOp (StatS.of (all := [18, 19]) (by decide +kernel)) (fun x => x) .u rfl (by decide) rfl rfl rfl (fun s hs => Le.refl _) (fun d hd => by cases hd) hsz hpre (fun G hG K stop hk => ?_) next
          have h14 : G 14 = .box 14 0 := hG 14 (by decide)
          have h122 : G 122 = .agg 3 (fun j => scrub 14 (tPc.enc ⟨1, [bs (x ++ y)], 0⟩ j)) := hG 122 (by decide)
          (conv => whnf)
          rw [show ev G (Operand.tmp 14) = .box 14 0 from h14, show ev G (Operand.tmp 122) = _ from h122]
          (conv => whnf); repeat' (first | ((with_reducible refine Know.mk fun _ => ?_); conv => whnf) | ((with_reducible refine Need.mk ?_ ?_); exact nd; conv => whnf) | ((with_reducible first | refine Both.mk ?_ ?_ | refine Any.mk fun b hb => ?_ | refine AskB.dec (fun hb => ?_) (fun hb => ?_) | refine AskB.ndec (fun hb => ?_) (fun hb => ?_) | refine AskB.mk (fun hb => ?_) (fun hb => ?_)) <;> conv => whnf) | ((with_reducible first | refine Run.drawX rfl (by decide +kernel) ?_ | refine Run.drawT rfl (by decide +kernel) ?_ | refine Run.drawW rfl (by decide +kernel) ?_); conv => whnf) | fail)
          exact hk
        refine ⟨fun i hi ha => absurd ha (by revert i; decide +kernel), ?_⟩
        refine Run.go ?_; (conv => whnf); repeat' (first | ((with_reducible refine Know.mk fun _ => ?_); conv => whnf) | ((with_reducible refine Need.mk ?_ ?_); exact nd; conv => whnf) | ((with_reducible first | refine Both.mk ?_ ?_ | refine Any.mk fun b hb => ?_ | refine AskB.dec (fun hb => ?_) (fun hb => ?_) | refine AskB.ndec (fun hb => ?_) (fun hb => ?_) | refine AskB.mk (fun hb => ?_) (fun hb => ?_)) <;> conv => whnf) | ((with_reducible first | refine Run.drawX rfl (by decide +kernel) ?_ | refine Run.drawT rfl (by decide +kernel) ?_ | refine Run.drawW rfl (by decide +kernel) ?_); conv => whnf) | fail)
        refine Run.to [(5, tPc.L A), (8, tPc.L B), (11, tPc.L J), (14, .box 14 0)] [(14, .box 34 [.int .i64 1, tS.L [bs (x ++ y)], .int .i64 0])] ⟨Le.refl _, Le.refl _, Le.refl _, Le.refl _, trivial⟩ ⟨MOle.refl _, trivial⟩ ?_
        have hP1 : ([⟨1, [bs (x ++ y)], 0⟩] : List Pc).length = 1 := rfl
        refine Run.drawS [5, 8, 9] (jG A B J a0.length x y) rfl (by decide +kernel) (lst_dsts rfl) ?_
        refine ⟨?_, by decide +kernel, by decide, jG1 A B J a0.length x y, jK1 A a0.length x y, fun listed rest hsz hpre next => ?_, ?_⟩
        · intro i hi ha
          have hc : i = 0 ∨ i = 1 ∨ i = 2 ∨ i = 3 ∨ i = 4 ∨ i = 6 ∨ i = 7 := by revert ha; revert i; decide +kernel
          clear ha hi
          rcases hc with rfl | rfl | rfl | rfl | rfl | rfl | rfl
          case inr.inr.inr.inr.inr.inr =>
            refine ⟨_, rfl, rfl, rfl, fun env ι a w R hρ => ⟨_, quiet_fresh (d := 130) (e := 34) (sz := 3) rfl (fun p hp => by simp at hp; subst hp; rfl) (fun K stop hk => by (conv => whnf); exact hk), fun d hd => by cases hd; exact onePc_sl _ _ (fun j hj => by match j, hj with | 0, _ => exact Le.refl _ | 1, _ => exact Le.refl _ | 2, _ => exact Le.refl _)⟩⟩
          all_goals refine opAt_ok ?_
          all_goals ((conv => whnf); repeat' (first | ((with_reducible refine Know.mk fun _ => ?_); conv => whnf) | ((with_reducible refine Need.mk ?_ ?_); exact nd; conv => whnf) | ((with_reducible first | refine Both.mk ?_ ?_ | refine Any.mk fun b hb => ?_ | refine AskB.dec (fun hb => ?_) (fun hb => ?_) | refine AskB.ndec (fun hb => ?_) (fun hb => ?_) | refine AskB.mk (fun hb => ?_) (fun hb => ?_)) <;> conv => whnf) | ((with_reducible first | refine Run.drawX rfl (by decide +kernel) ?_ | refine Run.drawT rfl (by decide +kernel) ?_ | refine Run.drawW rfl (by decide +kernel) ?_); conv => whnf) | fail))
          all_goals first
            | exact Le.refl _
            | exact Le.int hwA
            | exact Le.agg (fun j hj => by match j, hj with | 0, _ => exact Le.refl _ | 1, _ => exact Le.refl _ | 2, _ => exact Le.refl _)
        · refine Run.stageOp (StatS.of (all := [5, 8, 9]) (by decide +kernel)) (scrub 128) (.row 128) rfl (by decide) rfl rfl rfl (fun s hs => ?_) (fun d hd => ?_) hsz hpre (fun G hG K stop hk => ?_) next
          · have h1 : s ≠ 128 := fun e => hs (by subst e; rfl)
            unfold jG1
            rw [upd_other _ _ h1]; exact Le.refl _
          · cases hd; exact Le.refl _
          · have h127 : G 127 = .sl (a0.length : Int).toNat tPc.sz (tPc.G A) := hG 127 (by decide)
            (conv => whnf)
            rw [show ev G (Operand.tmp 127) = _ from h127]
            (conv => whnf); repeat' (first | ((with_reducible refine Know.mk fun _ => ?_); conv => whnf) | ((with_reducible refine Need.mk ?_ ?_); exact nd; conv => whnf) | ((with_reducible first | refine Both.mk ?_ ?_ | refine Any.mk fun b hb => ?_ | refine AskB.dec (fun hb => ?_) (fun hb => ?_) | refine AskB.ndec (fun hb => ?_) (fun hb => ?_) | refine AskB.mk (fun hb => ?_) (fun hb => ?_)) <;> conv => whnf) | ((with_reducible first | refine Run.drawX rfl (by decide +kernel) ?_ | refine Run.drawT rfl (by decide +kernel) ?_ | refine Run.drawW rfl (by decide +kernel) ?_); conv => whnf) | fail)
            exact hk
        refine ⟨?_, by decide +kernel, by decide, jG2 A B J a0.length x y, jK2 A a0.length x y, fun listed rest hsz hpre next => ?_, ?_⟩
        · intro i hi ha
          have hc : i = 6 ∨ i = 7 := by revert ha; revert i; decide +kernel
          clear ha hi
          rcases hc with rfl | rfl
          · refine opAt_ok ?_
            (conv => whnf); repeat' (first | ((with_reducible refine Know.mk fun _ => ?_); conv => whnf) | ((with_reducible refine Need.mk ?_ ?_); exact nd; conv => whnf) | ((with_reducible first | refine Both.mk ?_ ?_ | refine Any.mk fun b hb => ?_ | refine AskB.dec (fun hb => ?_) (fun hb => ?_) | refine AskB.ndec (fun hb => ?_) (fun hb => ?_) | refine AskB.mk (fun hb => ?_) (fun hb => ?_)) <;> conv => whnf) | ((with_reducible first | refine Run.drawX rfl (by decide +kernel) ?_ | refine Run.drawT rfl (by decide +kernel) ?_ | refine Run.drawW rfl (by decide +kernel) ?_); conv => whnf) | fail)
            exact Le.agg (fun j hj => by match j, hj with | 0, _ => exact Le.refl _ | 1, _ => exact Le.refl _ | 2, _ => exact Le.refl _)
          · refine ⟨_, rfl, rfl, rfl, fun env ι a w R hρ => ⟨_, quiet_fresh (d := 130) (e := 34) (sz := 3) rfl (fun p hp => by simp at hp; subst hp; rfl) (fun K stop hk => by (conv => whnf); exact hk), fun d hd => by cases hd; exact onePc_sl _ _ (fun j hj => by match j, hj with | 0, _ => exact Le.refl _ | 1, _ => exact Le.refl _ | 2, _ => exact Le.refl _)⟩⟩
        · refine Run.stageOp (StatS.of (all := [5, 8, 9]) (by decide +kernel)) (scrub 131) (.row 131) rfl (by decide) rfl rfl rfl (fun s hs => ?_) (fun d hd => ?_) hsz hpre (fun G hG K stop hk => ?_) next
          · have h1 : s ≠ 131 := fun e => hs (by subst e; rfl)
            unfold jG2
            rw [upd_other _ _ h1]; exact Le.refl _
          · cases hd; exact Le.refl _
          · have h128 : G 128 = .row 128 := hG 128 (by decide)
            have h130 : G 130 = tPc.L [⟨1, [bs (x ++ y)], 0⟩] := hG 130 (by decide)
            (conv => whnf)
            rw [show ev G (Operand.tmp 128) = .row 128 from h128, show ev G (Operand.tmp 130) = _ from h130]
            (conv => whnf); repeat' (first | ((with_reducible refine Know.mk fun _ => ?_); conv => whnf) | ((with_reducible refine Need.mk ?_ ?_); exact nd; conv => whnf) | ((with_reducible first | refine Both.mk ?_ ?_ | refine Any.mk fun b hb => ?_ | refine AskB.dec (fun hb => ?_) (fun hb => ?_) | refine AskB.ndec (fun hb => ?_) (fun hb => ?_) | refine AskB.mk (fun hb => ?_) (fun hb => ?_)) <;> conv => whnf) | ((with_reducible first | refine Run.drawX rfl (by decide +kernel) ?_ | refine Run.drawT rfl (by decide +kernel) ?_ | refine Run.drawW rfl (by decide +kernel) ?_); conv => whnf) | fail)
            exact hk
        refine ⟨fun i hi ha => absurd ha (by revert i; decide +kernel), by decide +kernel, by decide, upd (jG2 A B J a0.length x y) 15 (.row 131), jK2 A a0.length x y, fun listed rest hsz hpre next => ?_, ?_⟩
        · refine Run.stageOp (StatS.of (all := [5, 8, 9]) (by decide +kernel)) (fun x => x) (.row 131) rfl (by decide) rfl rfl rfl (fun s hs => ?_) (fun d hd => ?_) hsz hpre (fun G hG K stop hk => ?_) next
          · have h1 : s ≠ 15 := fun e => hs (by subst e; rfl)
            rw [upd_other _ _ h1]; exact Le.refl _
          · cases hd; exact Le.refl _
          · have h131 : G 131 = .row 131 := hG 131 (by decide)
            (conv => whnf)
            rw [show ev G (Operand.tmp 131) = .row 131 from h131]
            exact hk
        refine ⟨fun i hi ha => absurd ha (by revert i; decide +kernel), ?_⟩
        refine Run.go ?_; (conv => whnf); repeat' (first | ((with_reducible refine Know.mk fun _ => ?_); conv => whnf) | ((with_reducible refine Need.mk ?_ ?_); exact nd; conv => whnf) | ((with_reducible first | refine Both.mk ?_ ?_ | refine Any.mk fun b hb => ?_ | refine AskB.dec (fun hb => ?_) (fun hb => ?_) | refine AskB.ndec (fun hb => ?_) (fun hb => ?_) | refine AskB.mk (fun hb => ?_) (fun hb => ?_)) <;> conv => whnf) | ((with_reducible first | refine Run.drawX rfl (by decide +kernel) ?_ | refine Run.drawT rfl (by decide +kernel) ?_ | refine Run.drawW rfl (by decide +kernel) ?_); conv => whnf) | fail)
        refine Run.callAX hsm rfl rfl ⟨Le.refl _, (join3_row 34 a0 b0 A B J ⟨1, [bs (x ++ y)], 0⟩ (fun _ _ => .u) hJ (fun i hi => ?_) (fun i => ?_) (hm := by show B.length - 1 = b0.length; omega)).rows, trivial⟩ rfl rfl rfl ?_
        · rw [← hPA, List.getD, List.getElem?_append_left hi]; rfl
        · rw [← hPB]; show List.getD (_ :: b0) (1 + i) _ = _; rw [Nat.add_comm]; rfl
        (conv => whnf); repeat' (first | ((with_reducible refine Know.mk fun _ => ?_); conv => whnf) | ((with_reducible refine Need.mk ?_ ?_); exact nd; conv => whnf) | ((with_reducible first | refine Both.mk ?_ ?_ | refine Any.mk fun b hb => ?_ | refine AskB.dec (fun hb => ?_) (fun hb => ?_) | refine AskB.ndec (fun hb => ?_) (fun hb => ?_) | refine AskB.mk (fun hb => ?_) (fun hb => ?_)) <;> conv => whnf) | ((with_reducible first | refine Run.drawX rfl (by decide +kernel) ?_ | refine Run.drawT rfl (by decide +kernel) ?_ | refine Run.drawW rfl (by decide +kernel) ?_); conv => whnf) | fail)
        exact Run.leave (ts := [4]) (.inr ⟨_, rfl⟩) rfl Tryd.func5 rfl (Le.tt' rfl)
      · have hc := parseA_is (parseT_ok (by rw [List.length_append]; omega) (join_app ha hb hj))
        rw [parseT_ok (by rw [List.length_append]; omega) (join_app ha hb hj)] at hlc
        simp only [] at hla hlb hlc
        have hsm := samePc_fn (a ++ b) (a ++ b) (by omega) (fun p hp => by have := hlc.2 p hp; omega)
        rw [decide_eq_true rfl] at hsm
        have hcon : ¬ ((a.getD (IntKind.i64.wrap ((a.length : Int) - 1)).toNat tPc.z).kind = 1 ∧ (b.getD (Int.toNat 0) tPc.z).kind = 1 ∧ 0 < a.length ∧ 0 < b.length) := fun ⟨k1, k2, k3, k4⟩ => hj (by
          constructor
          · rw [wrap64 (by omega) (by omega), show ((a.length : Int) - 1).toNat = a.length - 1 by omega] at k1
            rw [← List.dropLast_concat_getLast (l := a) (by intro e; subst e; simp at k3), lastK_app]
            rw [List.getD, List.getElem?_eq_getElem (by omega)] at k1
            rw [List.getLast_eq_getElem]
            exact k1
          · cases b with
            | nil => simp at k4
            | cons q b0 => exact ⟨q, b0, rfl, k2⟩)
        refine Fn.of Tryd.f5 _ Tryd.func5 rfl (by decide) (by show 2 ≤ _; decide) tbOk 144 rfl fun S w0 gl => ?_
        refine Run.go ?_; (conv => whnf); repeat' (first | ((with_reducible refine Know.mk fun _ => ?_); conv => whnf) | ((with_reducible refine Need.mk ?_ ?_); exact nd; conv => whnf) | ((with_reducible first | refine Both.mk ?_ ?_ | refine Any.mk fun b hb => ?_ | refine AskB.dec (fun hb => ?_) (fun hb => ?_) | refine AskB.ndec (fun hb => ?_) (fun hb => ?_) | refine AskB.mk (fun hb => ?_) (fun hb => ?_)) <;> conv => whnf) | ((with_reducible first | refine Run.drawX rfl (by decide +kernel) ?_ | refine Run.drawT rfl (by decide +kernel) ?_ | refine Run.drawW rfl (by decide +kernel) ?_); conv => whnf) | fail)
        refine Run.callBX awake05_fn rfl rfl trivial rfl rfl rfl ?_
        (conv => whnf); repeat' (first | ((with_reducible refine Know.mk fun _ => ?_); conv => whnf) | ((with_reducible refine Need.mk ?_ ?_); exact nd; conv => whnf) | ((with_reducible first | refine Both.mk ?_ ?_ | refine Any.mk fun b hb => ?_ | refine AskB.dec (fun hb => ?_) (fun hb => ?_) | refine AskB.ndec (fun hb => ?_) (fun hb => ?_) | refine AskB.mk (fun hb => ?_) (fun hb => ?_)) <;> conv => whnf) | ((with_reducible first | refine Run.drawX rfl (by decide +kernel) ?_ | refine Run.drawT rfl (by decide +kernel) ?_ | refine Run.drawW rfl (by decide +kernel) ?_); conv => whnf) | fail)
        all_goals try (exfalso; omega)
        refine Run.callBX hfa rfl rfl ⟨Le.refl _, trivial⟩ rfl rfl rfl ?_
        (conv => whnf); repeat' (first | ((with_reducible refine Know.mk fun _ => ?_); conv => whnf) | ((with_reducible refine Need.mk ?_ ?_); exact nd; conv => whnf) | ((with_reducible first | refine Both.mk ?_ ?_ | refine Any.mk fun b hb => ?_ | refine AskB.dec (fun hb => ?_) (fun hb => ?_) | refine AskB.ndec (fun hb => ?_) (fun hb => ?_) | refine AskB.mk (fun hb => ?_) (fun hb => ?_)) <;> conv => whnf) | ((with_reducible first | refine Run.drawX rfl (by decide +kernel) ?_ | refine Run.drawT rfl (by decide +kernel) ?_ | refine Run.drawW rfl (by decide +kernel) ?_); conv => whnf) | fail)
        refine Run.callBX hfb rfl rfl ⟨Le.refl _, trivial⟩ rfl rfl rfl ?_
        (conv => whnf); repeat' (first | ((with_reducible refine Know.mk fun _ => ?_); conv => whnf) | ((with_reducible refine Need.mk ?_ ?_); exact nd; conv => whnf) | ((with_reducible first | refine Both.mk ?_ ?_ | refine Any.mk fun b hb => ?_ | refine AskB.dec (fun hb => ?_) (fun hb => ?_) | refine AskB.ndec (fun hb => ?_) (fun hb => ?_) | refine AskB.mk (fun hb => ?_) (fun hb => ?_)) <;> conv => whnf) | ((with_reducible first | refine Run.drawX rfl (by decide +kernel) ?_ | refine Run.drawT rfl (by decide +kernel) ?_ | refine Run.drawW rfl (by decide +kernel) ?_); conv => whnf) | fail)
        refine Run.callBX hc rfl rfl ⟨Le.str (bs_app s t), trivial⟩ rfl rfl rfl ?_
        (conv => whnf); repeat' (first | ((with_reducible refine Know.mk fun _ => ?_); conv => whnf) | ((with_reducible refine Need.mk ?_ ?_); exact nd; conv => whnf) | ((with_reducible first | refine Both.mk ?_ ?_ | refine Any.mk fun b hb => ?_ | refine AskB.dec (fun hb => ?_) (fun hb => ?_) | refine AskB.ndec (fun hb => ?_) (fun hb => ?_) | refine AskB.mk (fun hb => ?_) (fun hb => ?_)) <;> conv => whnf) | ((with_reducible first | refine Run.drawX rfl (by decide +kernel) ?_ | refine Run.drawT rfl (by decide +kernel) ?_ | refine Run.drawW rfl (by decide +kernel) ?_); conv => whnf) | fail)
        all_goals try (exfalso; omega)
        all_goals
          refine Run.callAX hsm rfl rfl ⟨Le.refl _, (join2_row 34 a b (fun _ _ => .u)).rows, trivial⟩ rfl rfl rfl ?_
          (conv => whnf); repeat' (first | ((with_reducible refine Know.mk fun _ => ?_); conv => whnf) | ((with_reducible refine Need.mk ?_ ?_); exact nd; conv => whnf) | ((with_reducible first | refine Both.mk ?_ ?_ | refine Any.mk fun b hb => ?_ | refine AskB.dec (fun hb => ?_) (fun hb => ?_) | refine AskB.ndec (fun hb => ?_) (fun hb => ?_) | refine AskB.mk (fun hb => ?_) (fun hb => ?_)) <;> conv => whnf) | ((with_reducible first | refine Run.drawX rfl (by decide +kernel) ?_ | refine Run.drawT rfl (by decide +kernel) ?_ | refine Run.drawW rfl (by decide +kernel) ?_); conv => whnf) | fail)
          exact Run.leave (ts := [4]) (.inr ⟨_, rfl⟩) rfl Tryd.func5 rfl (Le.tt' rfl)
    · refine Fn.of Tryd.f5 _ Tryd.func5 rfl (by decide) (by show 2 ≤ _; decide) tbOk 144 rfl fun S w0 gl => ?_
      refine Run.go ?_; (conv => whnf); repeat' (first | ((with_reducible refine Know.mk fun _ => ?_); conv => whnf) | ((with_reducible refine Need.mk ?_ ?_); exact nd; conv => whnf) | ((with_reducible first | refine Both.mk ?_ ?_ | refine Any.mk fun b hb => ?_ | refine AskB.dec (fun hb => ?_) (fun hb => ?_) | refine AskB.ndec (fun hb => ?_) (fun hb => ?_) | refine AskB.mk (fun hb => ?_) (fun hb => ?_)) <;> conv => whnf) | ((with_reducible first | refine Run.drawX rfl (by decide +kernel) ?_ | refine Run.drawT rfl (by decide +kernel) ?_ | refine Run.drawW rfl (by decide +kernel) ?_); conv => whnf) | fail)
      refine Run.callBX awake05_fn rfl rfl trivial rfl rfl rfl ?_
      (conv => whnf); repeat' (first | ((with_reducible refine Know.mk fun _ => ?_); conv => whnf) | ((with_reducible refine Need.mk ?_ ?_); exact nd; conv => whnf) | ((with_reducible first | refine Both.mk ?_ ?_ | refine Any.mk fun b hb => ?_ | refine AskB.dec (fun hb => ?_) (fun hb => ?_) | refine AskB.ndec (fun hb => ?_) (fun hb => ?_) | refine AskB.mk (fun hb => ?_) (fun hb => ?_)) <;> conv => whnf) | ((with_reducible first | refine Run.drawX rfl (by decide +kernel) ?_ | refine Run.drawT rfl (by decide +kernel) ?_ | refine Run.drawW rfl (by decide +kernel) ?_); conv => whnf) | fail)
      all_goals try (exfalso; omega)
      refine Run.callBX hfa rfl rfl ⟨Le.refl _, trivial⟩ rfl rfl rfl ?_
      (conv => whnf); repeat' (first | ((with_reducible refine Know.mk fun _ => ?_); conv => whnf) | ((with_reducible refine Need.mk ?_ ?_); exact nd; conv => whnf) | ((with_reducible first | refine Both.mk ?_ ?_ | refine Any.mk fun b hb => ?_ | refine AskB.dec (fun hb => ?_) (fun hb => ?_) | refine AskB.ndec (fun hb => ?_) (fun hb => ?_) | refine AskB.mk (fun hb => ?_) (fun hb => ?_)) <;> conv => whnf) | ((with_reducible first | refine Run.drawX rfl (by decide +kernel) ?_ | refine Run.drawT rfl (by decide +kernel) ?_ | refine Run.drawW rfl (by decide +kernel) ?_); conv => whnf) | fail)
      refine Run.callBX hfb rfl rfl ⟨Le.refl _, trivial⟩ rfl rfl rfl ?_
      (conv => whnf); repeat' (first | ((with_reducible refine Know.mk fun _ => ?_); conv => whnf) | ((with_reducible refine Need.mk ?_ ?_); exact nd; conv => whnf) | ((with_reducible first | refine Both.mk ?_ ?_ | refine Any.mk fun b hb => ?_ | refine AskB.dec (fun hb => ?_) (fun hb => ?_) | refine AskB.ndec (fun hb => ?_) (fun hb => ?_) | refine AskB.mk (fun hb => ?_) (fun hb => ?_)) <;> conv => whnf) | ((with_reducible first | refine Run.drawX rfl (by decide +kernel) ?_ | refine Run.drawT rfl (by decide +kernel) ?_ | refine Run.drawW rfl (by decide +kernel) ?_); conv => whnf) | fail)
      refine Run.callBX (parse_fn (s ++ t)) rfl rfl ⟨Le.str (bs_app s t), trivial⟩ rfl rfl rfl ?_
      (conv => whnf); repeat' (first | ((with_reducible refine Know.mk fun _ => ?_); conv => whnf) | ((with_reducible refine Need.mk ?_ ?_); exact nd; conv => whnf) | ((with_reducible first | refine Both.mk ?_ ?_ | refine Any.mk fun b hb => ?_ | refine AskB.dec (fun hb => ?_) (fun hb => ?_) | refine AskB.ndec (fun hb => ?_) (fun hb => ?_) | refine AskB.mk (fun hb => ?_) (fun hb => ?_)) <;> conv => whnf) | ((with_reducible first | refine Run.drawX rfl (by decide +kernel) ?_ | refine Run.drawT rfl (by decide +kernel) ?_ | refine Run.drawW rfl (by decide +kernel) ?_); conv => whnf) | fail)
      all_goals try exact Run.leave (ts := [4]) (.inr ⟨_, rfl⟩) rfl Tryd.func5 rfl (Le.refl _)
      all_goals exact absurd ⟨by assumption, by assumption⟩ h12
  · refine Fn.of Tryd.f5 _ Tryd.func5 rfl (by decide) (by show 2 ≤ _; decide) tbOk 144 rfl fun S w0 gl => ?_
    refine Run.go ?_; (conv => whnf); repeat' (first | ((with_reducible refine Know.mk fun _ => ?_); conv => whnf) | ((with_reducible refine Need.mk ?_ ?_); exact nd; conv => whnf) | ((with_reducible first | refine Both.mk ?_ ?_ | refine Any.mk fun b hb => ?_ | refine AskB.dec (fun hb => ?_) (fun hb => ?_) | refine AskB.ndec (fun hb => ?_) (fun hb => ?_) | refine AskB.mk (fun hb => ?_) (fun hb => ?_)) <;> conv => whnf) | ((with_reducible first | refine Run.drawX rfl (by decide +kernel) ?_ | refine Run.drawT rfl (by decide +kernel) ?_ | refine Run.drawW rfl (by decide +kernel) ?_); conv => whnf) | fail)
    refine Run.callBX awake05_fn rfl rfl trivial rfl rfl rfl ?_
    (conv => whnf); repeat' (first | ((with_reducible refine Know.mk fun _ => ?_); conv => whnf) | ((with_reducible refine Need.mk ?_ ?_); exact nd; conv => whnf) | ((with_reducible first | refine Both.mk ?_ ?_ | refine Any.mk fun b hb => ?_ | refine AskB.dec (fun hb => ?_) (fun hb => ?_) | refine AskB.ndec (fun hb => ?_) (fun hb => ?_) | refine AskB.mk (fun hb => ?_) (fun hb => ?_)) <;> conv => whnf) | ((with_reducible first | refine Run.drawX rfl (by decide +kernel) ?_ | refine Run.drawT rfl (by decide +kernel) ?_ | refine Run.drawW rfl (by decide +kernel) ?_); conv => whnf) | fail)
    all_goals try (exfalso; omega)
    exact Run.leave (ts := [4]) (.inr ⟨_, rfl⟩) rfl Tryd.func5 rfl (Le.refl _)
end Go.Proofs.YtkdpmkjbfkjmdaaDoor.V

