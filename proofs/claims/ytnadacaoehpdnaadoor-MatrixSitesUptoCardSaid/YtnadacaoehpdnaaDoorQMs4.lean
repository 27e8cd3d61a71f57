/-
The texts BNc, BNd, BNn, BNm, BNg, BNo, BNi, VS, BMb, BMe, BMf, BMh, BMi, BTe, of each what the law needs.
-/
import Derived.Test.YtnadacaoehpdnaaDoorQMs3
import Derived.Lib.DecodeN
namespace Go.Proofs.YtnadacaoehpdnaaDoor.V
set_option linter.unusedVariables false
set_option linter.unusedSimpArgs false
open Go Go.Proofs Go.RowKit
set_option maxRecDepth 100000
set_option maxHeartbeats 2000000
open Go Go.Proofs Go.Proofs.YtnadacaoehpdnaaDoor.V
theorem ib60_fn (l : List UInt8) (c : Int) : Fn Tryd.prog 60 [.str (bs l), .int .u8 c] (.int .i64 (Lib.indexByte l c.toNat.toUInt8)) := by
  refine Fn.of Tryd.f60 _ Tryd.func60 rfl (by decide) (by show 2 ≤ _; decide) tbOk 8 rfl fun S w0 gl => ?_
  refine Run.go ?_; (conv => whnf); repeat' (first | ((with_reducible refine Know.mk fun _ => ?_); conv => whnf) | ((with_reducible refine Need.mk ?_ ?_); exact nd; conv => whnf) | ((with_reducible first | refine Both.mk ?_ ?_ | refine Any.mk fun b hb => ?_ | refine AskB.dec (fun hb => ?_) (fun hb => ?_) | refine AskB.ndec (fun hb => ?_) (fun hb => ?_) | refine AskB.mk (fun hb => ?_) (fun hb => ?_)) <;> conv => whnf) | ((with_reducible first | refine Run.drawX rfl (by decide +kernel) ?_ | refine Run.drawT rfl (by decide +kernel) ?_ | refine Run.drawW rfl (by decide +kernel) ?_); conv => whnf))
  refine Run.indexByteS (f := 78) (x := .tmp 5) (y := .tmp 6) (bs l) c rfl rfl rfl rfl Tryd.func78 (by kernel_rfl) (by kernel_rfl) (by kernel_rfl) (by kernel_rfl) rfl rfl ?_
  rw [bs_data]
  refine Run.go ?_; (conv => whnf); repeat' (first | ((with_reducible refine Know.mk fun _ => ?_); conv => whnf) | ((with_reducible refine Need.mk ?_ ?_); exact nd; conv => whnf) | ((with_reducible first | refine Both.mk ?_ ?_ | refine Any.mk fun b hb => ?_ | refine AskB.dec (fun hb => ?_) (fun hb => ?_) | refine AskB.ndec (fun hb => ?_) (fun hb => ?_) | refine AskB.mk (fun hb => ?_) (fun hb => ?_)) <;> conv => whnf) | ((with_reducible first | refine Run.drawX rfl (by decide +kernel) ?_ | refine Run.drawT rfl (by decide +kernel) ?_ | refine Run.drawW rfl (by decide +kernel) ?_); conv => whnf))
  exact Run.leave (ts := [4]) (.inr ⟨_, rfl⟩) rfl Tryd.func60 rfl (Le.refl _)
theorem ib47_fn (l : List UInt8) (c : Int) : Fn Tryd.prog 47 [.str (bs l), .int .u8 c] (.int .i64 (Lib.indexByte l c.toNat.toUInt8)) := by
  refine Fn.of Tryd.f47 _ Tryd.func47 rfl (by decide) (by show 2 ≤ _; decide) tbOk 8 rfl fun S w0 gl => ?_
  refine Run.go ?_; (conv => whnf); repeat' (first | ((with_reducible refine Know.mk fun _ => ?_); conv => whnf) | ((with_reducible refine Need.mk ?_ ?_); exact nd; conv => whnf) | ((with_reducible first | refine Both.mk ?_ ?_ | refine Any.mk fun b hb => ?_ | refine AskB.dec (fun hb => ?_) (fun hb => ?_) | refine AskB.ndec (fun hb => ?_) (fun hb => ?_) | refine AskB.mk (fun hb => ?_) (fun hb => ?_)) <;> conv => whnf) | ((with_reducible first | refine Run.drawX rfl (by decide +kernel) ?_ | refine Run.drawT rfl (by decide +kernel) ?_ | refine Run.drawW rfl (by decide +kernel) ?_); conv => whnf))
  refine Run.callBX (ib60_fn l c) rfl rfl ⟨Le.refl _, Le.refl _, trivial⟩ rfl rfl rfl ?_
  (conv => whnf); repeat' (first | ((with_reducible refine Know.mk fun _ => ?_); conv => whnf) | ((with_reducible refine Need.mk ?_ ?_); exact nd; conv => whnf) | ((with_reducible first | refine Both.mk ?_ ?_ | refine Any.mk fun b hb => ?_ | refine AskB.dec (fun hb => ?_) (fun hb => ?_) | refine AskB.ndec (fun hb => ?_) (fun hb => ?_) | refine AskB.mk (fun hb => ?_) (fun hb => ?_)) <;> conv => whnf) | ((with_reducible first | refine Run.drawX rfl (by decide +kernel) ?_ | refine Run.drawT rfl (by decide +kernel) ?_ | refine Run.drawW rfl (by decide +kernel) ?_); conv => whnf))
  exact Run.leave (ts := [4]) (.inr ⟨_, rfl⟩) rfl Tryd.func47 rfl (Le.refl _)
theorem nl_size : (bs [10]).size = 1 := rfl
theorem bs_inj {a b : List UInt8} (h : bs a = bs b) : a = b := by
  have := congrArg (fun x : ByteArray => x.data.toList) h
  simpa [bs] using this
theorem count76_fn (l : List UInt8) : Fn Tryd.prog 76 [.str (bs l), .str (bs [10])] (.int .i64 (Lib.countByte l 10 : Nat)) := by
  refine Fn.of Tryd.f76 _ Tryd.func76 rfl (by decide) (by show 2 ≤ _; decide) tbOk 34 rfl fun S w0 gl => ?_
  have hs := nl_size
  refine Run.go ?_; (conv => whnf); repeat' (first | ((with_reducible refine Know.mk fun _ => ?_); conv => whnf) | ((with_reducible refine Need.mk ?_ ?_); exact nd; conv => whnf) | ((with_reducible first | refine Both.mk ?_ ?_ | refine Any.mk fun b hb => ?_ | refine AskB.dec (fun hb => ?_) (fun hb => ?_) | refine AskB.ndec (fun hb => ?_) (fun hb => ?_) | refine AskB.mk (fun hb => ?_) (fun hb => ?_)) <;> conv => whnf) | ((with_reducible first | refine Run.drawX rfl (by decide +kernel) ?_ | refine Run.drawT rfl (by decide +kernel) ?_ | refine Run.drawW rfl (by decide +kernel) ?_); conv => whnf))
  · omega
  · refine Run.countS (f := 99) (x := .tmp 16) (y := .tmp 18) (bs l) 10 rfl rfl rfl rfl Tryd.func99 (by kernel_rfl) (by kernel_rfl) (by kernel_rfl) (by kernel_rfl) rfl rfl ?_
    rw [bs_data]
    refine Run.go ?_; (conv => whnf); repeat' (first | ((with_reducible refine Know.mk fun _ => ?_); conv => whnf) | ((with_reducible refine Need.mk ?_ ?_); exact nd; conv => whnf) | ((with_reducible first | refine Both.mk ?_ ?_ | refine Any.mk fun b hb => ?_ | refine AskB.dec (fun hb => ?_) (fun hb => ?_) | refine AskB.ndec (fun hb => ?_) (fun hb => ?_) | refine AskB.mk (fun hb => ?_) (fun hb => ?_)) <;> conv => whnf) | ((with_reducible first | refine Run.drawX rfl (by decide +kernel) ?_ | refine Run.drawT rfl (by decide +kernel) ?_ | refine Run.drawW rfl (by decide +kernel) ?_); conv => whnf))
    exact Run.leave (ts := [4]) (.inr ⟨_, rfl⟩) rfl Tryd.func76 rfl (Le.refl _)
  · omega
theorem index100_fn (l : List UInt8) : Fn Tryd.prog 100 [.str (bs l), .str (bs [10])] (.int .i64 (Lib.indexByte l 10)) := by
  refine Fn.of Tryd.f100 _ Tryd.func100 rfl (by decide) (by show 2 ≤ _; decide) tbOk 143 rfl fun S w0 gl => ?_
  have hs := nl_size
  refine Run.go ?_; (conv => whnf); repeat' (first | ((with_reducible refine Know.mk fun _ => ?_); conv => whnf) | ((with_reducible refine Need.mk ?_ ?_); exact nd; conv => whnf) | ((with_reducible first | refine Both.mk ?_ ?_ | refine Any.mk fun b hb => ?_ | refine AskB.dec (fun hb => ?_) (fun hb => ?_) | refine AskB.ndec (fun hb => ?_) (fun hb => ?_) | refine AskB.mk (fun hb => ?_) (fun hb => ?_)) <;> conv => whnf) | ((with_reducible first | refine Run.drawX rfl (by decide +kernel) ?_ | refine Run.drawT rfl (by decide +kernel) ?_ | refine Run.drawW rfl (by decide +kernel) ?_); conv => whnf))
  all_goals try (exfalso; omega)
  · have := bs_inj hb
    subst this
    exact Run.leave (ts := [4]) (.inr ⟨_, rfl⟩) rfl Tryd.func100 rfl (Le.int (by decide))
  · refine Run.callBX (ib60_fn l 10) rfl rfl ⟨Le.refl _, Le.refl _, trivial⟩ rfl rfl rfl ?_
    (conv => whnf); repeat' (first | ((with_reducible refine Know.mk fun _ => ?_); conv => whnf) | ((with_reducible refine Need.mk ?_ ?_); exact nd; conv => whnf) | ((with_reducible first | refine Both.mk ?_ ?_ | refine Any.mk fun b hb => ?_ | refine AskB.dec (fun hb => ?_) (fun hb => ?_) | refine AskB.ndec (fun hb => ?_) (fun hb => ?_) | refine AskB.mk (fun hb => ?_) (fun hb => ?_)) <;> conv => whnf) | ((with_reducible first | refine Run.drawX rfl (by decide +kernel) ?_ | refine Run.drawT rfl (by decide +kernel) ?_ | refine Run.drawW rfl (by decide +kernel) ?_); conv => whnf))
    exact Run.leave (ts := [4]) (.inr ⟨_, rfl⟩) rfl Tryd.func100 rfl (Le.refl _)
theorem index77_fn (l : List UInt8) : Fn Tryd.prog 77 [.str (bs l), .str (bs [10])] (.int .i64 (Lib.indexByte l 10)) := by
  refine Fn.of Tryd.f77 _ Tryd.func77 rfl (by decide) (by show 2 ≤ _; decide) tbOk 8 rfl fun S w0 gl => ?_
  refine Run.go ?_; (conv => whnf); repeat' (first | ((with_reducible refine Know.mk fun _ => ?_); conv => whnf) | ((with_reducible refine Need.mk ?_ ?_); exact nd; conv => whnf) | ((with_reducible first | refine Both.mk ?_ ?_ | refine Any.mk fun b hb => ?_ | refine AskB.dec (fun hb => ?_) (fun hb => ?_) | refine AskB.ndec (fun hb => ?_) (fun hb => ?_) | refine AskB.mk (fun hb => ?_) (fun hb => ?_)) <;> conv => whnf) | ((with_reducible first | refine Run.drawX rfl (by decide +kernel) ?_ | refine Run.drawT rfl (by decide +kernel) ?_ | refine Run.drawW rfl (by decide +kernel) ?_); conv => whnf))
  refine Run.callBX (index100_fn l) rfl rfl ⟨Le.refl _, Le.refl _, trivial⟩ rfl rfl rfl ?_
  (conv => whnf); repeat' (first | ((with_reducible refine Know.mk fun _ => ?_); conv => whnf) | ((with_reducible refine Need.mk ?_ ?_); exact nd; conv => whnf) | ((with_reducible first | refine Both.mk ?_ ?_ | refine Any.mk fun b hb => ?_ | refine AskB.dec (fun hb => ?_) (fun hb => ?_) | refine AskB.ndec (fun hb => ?_) (fun hb => ?_) | refine AskB.mk (fun hb => ?_) (fun hb => ?_)) <;> conv => whnf) | ((with_reducible first | refine Run.drawX rfl (by decide +kernel) ?_ | refine Run.drawT rfl (by decide +kernel) ?_ | refine Run.drawW rfl (by decide +kernel) ?_); conv => whnf))
  exact Run.leave (ts := [4]) (.inr ⟨_, rfl⟩) rfl Tryd.func77 rfl (Le.refl _)
theorem drop_cons {α : Type} {l t : List α} {i : Nat} {x z : α} (h : l.drop i = x :: t) : l.getD i z = x ∧ l.drop (i + 1) = t := by
  have h1 : i < l.length := by
    rcases Nat.lt_or_ge i l.length with h' | h'
    · exact h'
    · rw [List.drop_of_length_le h'] at h; cases h
  rw [List.drop_eq_getElem_cons h1] at h
  injection h with h2 h3
  exact ⟨by rw [List.getD, List.getElem?_eq_getElem h1]; exact h2, h3⟩
theorem split59_fn (l : List UInt8) (hl : l.length ≤ 65536) : Fn Tryd.prog 59 [.str (bs l), .str (bs [10]), .int .i64 0, .int .i64 (-1)] (tS.L (splitB l)) := by
  refine Fn.of Tryd.f59 _ Tryd.func59 rfl (by decide) (by show 4 ≤ _; decide) tbOk 66 rfl fun S w0 gl => ?_
  have hs := nl_size
  have hn : (splitB l).length = Lib.countByte l 10 + 1 := by unfold splitB; rw [List.length_map, splitL_len]
  have hle : Lib.countByte l 10 ≤ l.length := List.count_le_length
  refine Run.go ?_; (conv => whnf); repeat' (first | ((with_reducible refine Know.mk fun _ => ?_); conv => whnf) | ((with_reducible refine Need.mk ?_ ?_); exact nd; conv => whnf) | ((with_reducible first | refine Both.mk ?_ ?_ | refine Any.mk fun b hb => ?_ | refine AskB.dec (fun hb => ?_) (fun hb => ?_) | refine AskB.ndec (fun hb => ?_) (fun hb => ?_) | refine AskB.mk (fun hb => ?_) (fun hb => ?_)) <;> conv => whnf) | ((with_reducible first | refine Run.drawX rfl (by decide +kernel) ?_ | refine Run.drawT rfl (by decide +kernel) ?_ | refine Run.drawW rfl (by decide +kernel) ?_); conv => whnf))
  · omega
  · exact absurd (congrArg ByteArray.size hb) (by rw [hs]; decide)
  · refine Run.callBX (count76_fn l) rfl rfl ⟨Le.refl _, Le.refl _, trivial⟩ rfl rfl rfl ?_
    (conv => whnf); repeat' (first | ((with_reducible refine Know.mk fun _ => ?_); conv => whnf) | ((with_reducible refine Need.mk ?_ ?_); exact nd; conv => whnf) | ((with_reducible first | refine Both.mk ?_ ?_ | refine Any.mk fun b hb => ?_ | refine AskB.dec (fun hb => ?_) (fun hb => ?_) | refine AskB.ndec (fun hb => ?_) (fun hb => ?_) | refine AskB.mk (fun hb => ?_) (fun hb => ?_)) <;> conv => whnf) | ((with_reducible first | refine Run.drawX rfl (by decide +kernel) ?_ | refine Run.drawT rfl (by decide +kernel) ?_ | refine Run.drawW rfl (by decide +kernel) ?_); conv => whnf))
    have hw : IntKind.i64.wrap ((Lib.countByte l 10 : Nat) + 1) = ((splitB l).length : Int) := by rw [hn]; exact wrap64 (by omega) (by omega)
    have hw2 : IntKind.i64.wrap (((bs l).size : Int) + 1) = (l.length : Int) + 1 := by rw [bs_size]; exact wrap64 (by omega) (by omega)
    refine Run.minInt (x := .tmp 25) (y := .tmp 28) (c := ⟨.builtin .min, #[.tmp 25, .tmp 28], #[3, 3]⟩) _ _ rfl rfl rfl rfl rfl rfl rfl rfl ?_
    rw [hw, hw2, if_neg (by omega)]
    have hn1 : 1 ≤ (splitB l).length := by omega
    have hn2 : (splitB l).length ≤ 65537 := by omega
    refine Run.go ?_; (conv => whnf); repeat' (first | ((with_reducible refine Know.mk fun _ => ?_); conv => whnf) | ((with_reducible refine Need.mk ?_ ?_); exact nd; conv => whnf) | ((with_reducible first | refine Both.mk ?_ ?_ | refine Any.mk fun b hb => ?_ | refine AskB.dec (fun hb => ?_) (fun hb => ?_) | refine AskB.ndec (fun hb => ?_) (fun hb => ?_) | refine AskB.mk (fun hb => ?_) (fun hb => ?_)) <;> conv => whnf) | ((with_reducible first | refine Run.drawX rfl (by decide +kernel) ?_ | refine Run.drawT rfl (by decide +kernel) ?_ | refine Run.drawW rfl (by decide +kernel) ?_); conv => whnf))
    have hw3 : IntKind.i64.wrap (((splitB l).length : Int) - 1) = ((splitB l).length : Int) - 1 := wrap64 (by omega) (by omega)
    refine Run.loop [1, 2, 3, 9] (fun (a : Nat × List UInt8) => [(0, .str (bs a.2)), (10, .int .i64 (a.1 : Int))]) (fun a => [(31, tS.R 9 (partM (splitB l) .empty a.1))]) (fun a => a.1 < (splitB l).length ∧ (splitB l).drop a.1 = splitB a.2 ∧ a.2.length ≤ l.length) (fun a => (splitB l).length - a.1) (0, l) ⟨by omega, rfl, Nat.le_refl _⟩ ⟨Le.refl _, Le.refl _, trivial⟩ ⟨?_, trivial⟩ ?_
    · rw [partM_none]
      refine ⟨rfl, rfl, by simp, fun i j hi hj => ?_⟩
      have hj0 : j = 0 := by have : j < 1 := hj; omega
      subst hj0
      unfold Ty.G
      rw [List.getD, List.getElem?_replicate]
      split <;> exact Le.refl _
    intro ⟨i, r⟩ ⟨hi, hd, hr⟩ IH
    simp only [] at hi hd hr ⊢
    have hlen : (splitB r).length = (splitB l).length - i := by rw [← hd, List.length_drop]
    have hw4 : IntKind.i64.wrap ((i : Int) + 1) = ((i + 1 : Nat) : Int) := wrap64 (by omega) (by omega)
    have hpl := partM_len (splitB l) ByteArray.empty i (by omega)
    refine Run.go ?_; (conv => whnf); repeat' (first | ((with_reducible refine Know.mk fun _ => ?_); conv => whnf) | ((with_reducible refine Need.mk ?_ ?_); exact nd; conv => whnf) | ((with_reducible first | refine Both.mk ?_ ?_ | refine Any.mk fun b hb => ?_ | refine AskB.dec (fun hb => ?_) (fun hb => ?_) | refine AskB.ndec (fun hb => ?_) (fun hb => ?_) | refine AskB.mk (fun hb => ?_) (fun hb => ?_)) <;> conv => whnf) | ((with_reducible first | refine Run.drawX rfl (by decide +kernel) ?_ | refine Run.drawT rfl (by decide +kernel) ?_ | refine Run.drawW rfl (by decide +kernel) ?_); conv => whnf))
    · have h2 : 2 ≤ (splitL r).length := by
        have : (splitB r).length = (splitL r).length := by simp [splitB]
        omega
      obtain ⟨m, hm⟩ := splitL_two h2
      obtain ⟨hml, hms⟩ := splitL_at r m hm
      refine Run.callBX (index77_fn r) rfl rfl ⟨Le.refl _, Le.refl _, trivial⟩ rfl rfl rfl ?_
      rw [hm]
      have hw5 : IntKind.i64.wrap ((m : Int) + 0) = (m : Int) := wrap64 (by omega) (by omega)
      have hw6 : IntKind.i64.wrap ((m : Int) + ((bs [10]).size : Int)) = ((m + 1 : Nat) : Int) := by rw [hs]; exact wrap64 (by omega) (by omega)
      have hbr := bs_size r
      (conv => whnf); repeat' (first | ((with_reducible refine Know.mk fun _ => ?_); conv => whnf) | ((with_reducible refine Need.mk ?_ ?_); exact nd; conv => whnf) | ((with_reducible first | refine Both.mk ?_ ?_ | refine Any.mk fun b hb => ?_ | refine AskB.dec (fun hb => ?_) (fun hb => ?_) | refine AskB.ndec (fun hb => ?_) (fun hb => ?_) | refine AskB.mk (fun hb => ?_) (fun hb => ?_)) <;> conv => whnf) | ((with_reducible first | refine Run.drawX rfl (by decide +kernel) ?_ | refine Run.drawT rfl (by decide +kernel) ?_ | refine Run.drawW rfl (by decide +kernel) ?_); conv => whnf))
      · exfalso; omega
      · obtain ⟨g1, g2⟩ := drop_cons (z := ByteArray.empty) (show (splitB l).drop i = bs (r.take m) :: splitB (r.drop (m + 1)) by rw [hd]; unfold splitB; rw [hms]; rfl)
        refine Run.to _ _ ?_ ?_ (IH (i + 1, r.drop (m + 1)) (by simp only []; omega) ⟨by simp only []; omega, g2, by simp only [List.length_drop]; omega⟩)
        · refine ⟨Le.refl _, Le.refl _, Le.refl _, Le.refl _, Le.str ?_, Le.int hw4, trivial⟩
          rw [hw6, Int.toNat_natCast, bs_extract, bs_size, List.take_of_length_le (by simp)]
        · refine ⟨?_, trivial⟩
          rw [← partM_set (splitB l) .empty i hi, g1]
          refine tS.set 9 (partM (splitB l) .empty i) i _ (by omega) _ rfl (fun j y hy => ?_)
          have hj : j = 0 := by
            rcases j with _ | j
            · rfl
            · simp at hy
          subst hj
          cases hy
          refine Le.str ?_
          rw [hw5, Int.toNat_natCast, bs_extract]; simp
    · have h1 : i + 1 = (splitB l).length := by omega
      have hr1 : splitL r = [r] := by
        refine splitL_no r ?_
        have hge := Lib.indexByte_ge r 10
        refine Classical.byContradiction fun hne => ?_
        obtain ⟨h2, h3⟩ := splitL_at r (Lib.indexByte r 10).toNat (by omega)
        have h4 : (splitB r).length = (splitL r).length := by simp [splitB]
        rw [h3] at h4
        have h5 := List.length_pos_iff.mpr (splitL_ne (r.drop ((Lib.indexByte r 10).toNat + 1)))
        simp only [List.length_cons] at h4
        omega
      obtain ⟨g1, g2⟩ := drop_cons (z := ByteArray.empty) (show (splitB l).drop i = bs r :: [] by rw [hd]; unfold splitB; rw [hr1]; rfl)
      refine Run.soft 62 31 rfl rfl ?_
      refine Run.go ?_; (conv => whnf); repeat' (first | ((with_reducible refine Know.mk fun _ => ?_); conv => whnf) | ((with_reducible refine Need.mk ?_ ?_); exact nd; conv => whnf) | ((with_reducible first | refine Both.mk ?_ ?_ | refine Any.mk fun b hb => ?_ | refine AskB.dec (fun hb => ?_) (fun hb => ?_) | refine AskB.ndec (fun hb => ?_) (fun hb => ?_) | refine AskB.mk (fun hb => ?_) (fun hb => ?_)) <;> conv => whnf) | ((with_reducible first | refine Run.drawX rfl (by decide +kernel) ?_ | refine Run.drawT rfl (by decide +kernel) ?_ | refine Run.drawW rfl (by decide +kernel) ?_); conv => whnf))
      · refine Run.leave (ts := [8]) (.inr ⟨_, rfl⟩) rfl Tryd.func59 rfl ?_
        have hp : MOle (.row 9 tS.sz (partM (splitB l) .empty i).length (updRow (tS.G (partM (splitB l) .empty i)) i 0 [.str (bs r)])) (tS.R 9 (splitB l)) := by
          have h6 : splitB l = (partM (splitB l) .empty i).set i (bs r) := by
            rw [← g1, partM_set _ _ _ hi, h1, partM_all]
          conv => arg 2; rw [h6]
          refine tS.set 9 (partM (splitB l) .empty i) i _ (by omega) _ rfl (fun j y hy => ?_)
          have hj : j = 0 := by
            rcases j with _ | j
            · rfl
            · simp at hy
          subst hj
          cases hy
          exact Le.refl _
        obtain ⟨-, -, e3, e4⟩ := hp
        have e5 : tS.L (splitB l) = .sl ((IntKind.i64.wrap ((i : Int) + 1)).toNat - 0) tS.sz (tS.G (splitB l)) := by
          rw [hw4, Int.toNat_natCast, Nat.sub_zero, h1]; rfl
        rw [e5]
        refine Le.sl (fun a b ha hb => e4 a b ?_ hb)
        rw [hw4] at ha
        simp only [Int.toNat_natCast, Nat.sub_zero] at ha
        omega
  · omega
theorem split46_fn (l : List UInt8) (hl : l.length ≤ 65536) : Fn Tryd.prog 46 [.str (bs l), .str (bs [10])] (tS.L (splitB l)) := by
  refine Fn.of Tryd.f46 _ Tryd.func46 rfl (by decide) (by show 2 ≤ _; decide) tbOk 8 rfl fun S w0 gl => ?_
  refine Run.go ?_; (conv => whnf); repeat' (first | ((with_reducible refine Know.mk fun _ => ?_); conv => whnf) | ((with_reducible refine Need.mk ?_ ?_); exact nd; conv => whnf) | ((with_reducible first | refine Both.mk ?_ ?_ | refine Any.mk fun b hb => ?_ | refine AskB.dec (fun hb => ?_) (fun hb => ?_) | refine AskB.ndec (fun hb => ?_) (fun hb => ?_) | refine AskB.mk (fun hb => ?_) (fun hb => ?_)) <;> conv => whnf) | ((with_reducible first | refine Run.drawX rfl (by decide +kernel) ?_ | refine Run.drawT rfl (by decide +kernel) ?_ | refine Run.drawW rfl (by decide +kernel) ?_); conv => whnf))
  refine Run.callBX (split59_fn l hl) rfl rfl ⟨Le.refl _, Le.refl _, Le.refl _, Le.refl _, trivial⟩ rfl rfl rfl ?_
  (conv => whnf); repeat' (first | ((with_reducible refine Know.mk fun _ => ?_); conv => whnf) | ((with_reducible refine Need.mk ?_ ?_); exact nd; conv => whnf) | ((with_reducible first | refine Both.mk ?_ ?_ | refine Any.mk fun b hb => ?_ | refine AskB.dec (fun hb => ?_) (fun hb => ?_) | refine AskB.ndec (fun hb => ?_) (fun hb => ?_) | refine AskB.mk (fun hb => ?_) (fun hb => ?_)) <;> conv => whnf) | ((with_reducible first | refine Run.drawX rfl (by decide +kernel) ?_ | refine Run.drawT rfl (by decide +kernel) ?_ | refine Run.drawW rfl (by decide +kernel) ?_); conv => whnf))
  exact Run.leave (ts := [4]) (.inr ⟨_, rfl⟩) rfl Tryd.func46 rfl (Le.refl _)
end Go.Proofs.YtnadacaoehpdnaaDoor.V

namespace Go.Proofs.YtnadacaoehpdnaaDoor.V
set_option linter.unusedVariables false
set_option linter.unusedSimpArgs false
open Go Go.Proofs Go.RowKit
set_option maxRecDepth 100000
set_option maxHeartbeats 2000000
open Go Go.Proofs Go.Proofs.YtnadacaoehpdnaaDoor.V
theorem wb5 {N : Nat} {w0 : World} {S : Nat → Prop} {gl : GlobOk S w0} {f : FuncId} {R : Ending → World → Prop} {ops : Array Oper} {i : Nat} {rest : List Nat} {k : List Item} {env : Env} {h : Heap} {o : Oper} {x y : Operand}
    (p : AV) (t : ByteArray) (u : UInt8) (ho : ops.toList[i]? = some o) (hc : calls? o = some (48, [x, y])) (hd : okD N o.dst = true) (hr : ready env ops o = true) (hx : ev (scrubE 900 env) x = .box 5 0) (hy : ev (scrubE 900 env) y = .int .u8 (u.toNat : Int))
    (hs : t.size + 1 ≤ 34359738368) (hp : p = .nilp ∨ p = .box 5 0)
    (next : Run ⟨Tryd.prog, TB, tbOk, N, w0, S, gl, f, R⟩ (.inRegion ops rest :: k) (putE (envB 90 env) o.dst .u) (bldr 95 5 5 90 (heapB 90 h) (.box 5 0) (t ++ ⟨#[u]⟩))) :
    Run ⟨Tryd.prog, TB, tbOk, N, w0, S, gl, f, R⟩ (.inRegion ops (i :: rest) :: k) env (bldr 95 5 5 90 h p t) := by
  refine Run.inline 900 Tryd.f48 _ 17 ho hc Tryd.func48 rfl (by decide) rfl (by show 2 ≤ 17; decide) hd hr (fun a hsz hdf => ?_)
  simp only [List.map, hx, hy]
  have fin : ∀ (E : Env) (H : Heap) (X : AV), (∀ i, E i = scrub 14 (scrub 13 (scrub 901 (scrub 900 (env i))))) → (∀ id, Nat.beq id 5 = false → Nat.beq id 90 = false → Nat.beq id 14 = false → Nat.beq id 13 = false → Nat.beq id 901 = false → Nat.beq id 900 = false → H id = scrubM 90 (scrubM 14 (scrubM 13 (scrubM 901 (scrubM 900 (h id)))))) →
      MOle (H 5) (.box 95 [.box 5 0, .row 90]) → MOle (H 90) (.row 5 1 (t ++ ⟨#[u]⟩).size (bytesG (t ++ ⟨#[u]⟩))) → Run ⟨Tryd.prog, TB, tbOk, N, w0, S, gl, f, R⟩ (.inRegion ops rest :: k) (scrubE 90 (putE E o.dst X)) H := by
    intro E H X hE hH h5 h90
    refine Run.weaken (fun i => ?_) (fun id => ?_) next
    · cases hdst : o.dst with
      | none => show Le (scrub 90 (E i)) _; rw [hE]; exact Le.refl _
      | some d =>
        show Le (scrub 90 (upd E d X i)) (upd (envB 90 env) d .u i)
        by_cases e : i = d
        · subst e; rw [upd_same, upd_same]; exact Le.u _
        · rw [upd_other _ _ e, upd_other _ _ e, hE]; exact Le.refl _
    · unfold bldr heapB
      cases e5 : Nat.beq id 5 with
      | true => have := Nat.eq_of_beq_eq_true e5; subst this; exact h5
      | false =>
      cases e90 : Nat.beq id 90 with
      | true => have := Nat.eq_of_beq_eq_true e90; subst this; exact h90
      | false =>
      cases e900 : Nat.beq id 900 with
      | true => simp only [upd, e5, e90, e900, cond_true, cond_false]; exact mole_dead _
      | false =>
      cases e901 : Nat.beq id 901 with
      | true => simp only [upd, e5, e90, e900, e901, cond_true, cond_false]; exact mole_dead _
      | false =>
      cases e13 : Nat.beq id 13 with
      | true => simp only [upd, e5, e90, e900, e901, e13, cond_true, cond_false]; exact mole_dead _
      | false =>
      cases e14 : Nat.beq id 14 with
      | true => simp only [upd, e5, e90, e900, e901, e13, e14, cond_true, cond_false]; exact mole_dead _
      | false =>
        rw [hH id e5 e90 e14 e13 e901 e900]
        simp only [upd, e5, e90, e900, e901, e13, e14, cond_true, cond_false]
        exact MOle.refl _
  rcases hp with rfl | rfl
  · refine Run.go ?_; (conv => whnf); repeat' (first | ((with_reducible refine Know.mk fun _ => ?_); conv => whnf) | ((with_reducible refine Need.mk ?_ ?_); exact nd; conv => whnf) | ((with_reducible first | refine Both.mk ?_ ?_ | refine Any.mk fun b hb => ?_ | refine AskB.dec (fun hb => ?_) (fun hb => ?_) | refine AskB.ndec (fun hb => ?_) (fun hb => ?_) | refine AskB.mk (fun hb => ?_) (fun hb => ?_)) <;> conv => whnf) | ((with_reducible first | refine Run.drawX rfl (by decide +kernel) ?_ | refine Run.drawT rfl (by decide +kernel) ?_ | refine Run.drawW rfl (by decide +kernel) ?_); conv => whnf))
    refine Run.inline 901 Tryd.f61 _ 20 rfl rfl Tryd.func61 rfl (by decide) rfl (by decide) rfl rfl (fun a2 hsz2 hdf2 => ?_)
    refine Run.go ?_; (conv => whnf); repeat' (first | ((with_reducible refine Know.mk fun _ => ?_); conv => whnf) | ((with_reducible refine Need.mk ?_ ?_); exact nd; conv => whnf) | ((with_reducible first | refine Both.mk ?_ ?_ | refine Any.mk fun b hb => ?_ | refine AskB.dec (fun hb => ?_) (fun hb => ?_) | refine AskB.ndec (fun hb => ?_) (fun hb => ?_) | refine AskB.mk (fun hb => ?_) (fun hb => ?_)) <;> conv => whnf) | ((with_reducible first | refine Run.drawX rfl (by decide +kernel) ?_ | refine Run.drawT rfl (by decide +kernel) ?_ | refine Run.drawW rfl (by decide +kernel) ?_); conv => whnf))
    refine Run.toUnsafe (id := 5) (l := [.nilp, .row 90]) (e := 95) (t := 95) (src := 92) (dst := 136) (x := .tmp 8) rfl rfl rfl rfl rfl rfl (by decide) (by kernel_rfl) (by kernel_rfl) (j := (Tryd.prog.info? 95).get (by kernel_rfl)) (by kernel_rfl) (by decide +kernel) ?_
    refine Run.noEscape (f := 79) (x := .tmp 9) rfl rfl rfl rfl Tryd.func79 (by kernel_rfl) (by kernel_rfl) (by kernel_rfl) (by kernel_rfl) ?_
    refine Run.fromUnsafe (id := 5) (l := [.nilp, .row 90]) (e := 95) (u := 95) (src := 136) (dst := 92) (x := .tmp 10) rfl rfl rfl rfl rfl rfl (by kernel_rfl) (by kernel_rfl) (j := (Tryd.prog.info? 95).get (by kernel_rfl)) (by kernel_rfl) (by kernel_rfl) ?_
    refine Run.go ?_; (conv => whnf); repeat' (first | ((with_reducible refine Know.mk fun _ => ?_); conv => whnf) | ((with_reducible refine Need.mk ?_ ?_); exact nd; conv => whnf) | ((with_reducible first | refine Both.mk ?_ ?_ | refine Any.mk fun b hb => ?_ | refine AskB.dec (fun hb => ?_) (fun hb => ?_) | refine AskB.ndec (fun hb => ?_) (fun hb => ?_) | refine AskB.mk (fun hb => ?_) (fun hb => ?_)) <;> conv => whnf) | ((with_reducible first | refine Run.drawX rfl (by decide +kernel) ?_ | refine Run.drawT rfl (by decide +kernel) ?_ | refine Run.drawW rfl (by decide +kernel) ?_); conv => whnf))
    refine Run.back 901 (ts := []) hsz2 hdf2 (.inl rfl) (by rfl) Tryd.func61 rfl ?_
    refine Run.go ?_; (conv => whnf); repeat' (first | ((with_reducible refine Know.mk fun _ => ?_); conv => whnf) | ((with_reducible refine Need.mk ?_ ?_); exact nd; conv => whnf) | ((with_reducible first | refine Both.mk ?_ ?_ | refine Any.mk fun b hb => ?_ | refine AskB.dec (fun hb => ?_) (fun hb => ?_) | refine AskB.ndec (fun hb => ?_) (fun hb => ?_) | refine AskB.mk (fun hb => ?_) (fun hb => ?_)) <;> conv => whnf) | ((with_reducible first | refine Run.drawX rfl (by decide +kernel) ?_ | refine Run.drawT rfl (by decide +kernel) ?_ | refine Run.drawW rfl (by decide +kernel) ?_); conv => whnf))
    refine Run.back 900 (ts := [4]) hsz hdf (.inr ⟨_, rfl⟩) (by rfl) Tryd.func48 rfl ?_
    refine Run.holdBoxRow 5 1 90 14 (by rfl) (by rfl) (by rfl) rfl rfl rfl ?_
    refine fin _ _ _ (fun i => rfl) (fun id e5 e90 e14 e13 e901 e900 => ?_) (MOle.refl _) (bytesG_push 5 t u _ rfl)
    simp only [upd, scrubH, scrubM, bldr, e5, e90, e14, e13, e901, e900, cond_false]
  · refine Run.go ?_; (conv => whnf); repeat' (first | ((with_reducible refine Know.mk fun _ => ?_); conv => whnf) | ((with_reducible refine Need.mk ?_ ?_); exact nd; conv => whnf) | ((with_reducible first | refine Both.mk ?_ ?_ | refine Any.mk fun b hb => ?_ | refine AskB.dec (fun hb => ?_) (fun hb => ?_) | refine AskB.ndec (fun hb => ?_) (fun hb => ?_) | refine AskB.mk (fun hb => ?_) (fun hb => ?_)) <;> conv => whnf) | ((with_reducible first | refine Run.drawX rfl (by decide +kernel) ?_ | refine Run.drawT rfl (by decide +kernel) ?_ | refine Run.drawW rfl (by decide +kernel) ?_); conv => whnf))
    refine Run.inline 901 Tryd.f61 _ 20 rfl rfl Tryd.func61 rfl (by decide) rfl (by decide) rfl rfl (fun a2 hsz2 hdf2 => ?_)
    refine Run.go ?_; (conv => whnf); repeat' (first | ((with_reducible refine Know.mk fun _ => ?_); conv => whnf) | ((with_reducible refine Need.mk ?_ ?_); exact nd; conv => whnf) | ((with_reducible first | refine Both.mk ?_ ?_ | refine Any.mk fun b hb => ?_ | refine AskB.dec (fun hb => ?_) (fun hb => ?_) | refine AskB.ndec (fun hb => ?_) (fun hb => ?_) | refine AskB.mk (fun hb => ?_) (fun hb => ?_)) <;> conv => whnf) | ((with_reducible first | refine Run.drawX rfl (by decide +kernel) ?_ | refine Run.drawT rfl (by decide +kernel) ?_ | refine Run.drawW rfl (by decide +kernel) ?_); conv => whnf))
    refine Run.back 901 (ts := []) hsz2 hdf2 (.inl rfl) (by rfl) Tryd.func61 rfl ?_
    refine Run.go ?_; (conv => whnf); repeat' (first | ((with_reducible refine Know.mk fun _ => ?_); conv => whnf) | ((with_reducible refine Need.mk ?_ ?_); exact nd; conv => whnf) | ((with_reducible first | refine Both.mk ?_ ?_ | refine Any.mk fun b hb => ?_ | refine AskB.dec (fun hb => ?_) (fun hb => ?_) | refine AskB.ndec (fun hb => ?_) (fun hb => ?_) | refine AskB.mk (fun hb => ?_) (fun hb => ?_)) <;> conv => whnf) | ((with_reducible first | refine Run.drawX rfl (by decide +kernel) ?_ | refine Run.drawT rfl (by decide +kernel) ?_ | refine Run.drawW rfl (by decide +kernel) ?_); conv => whnf))
    refine Run.back 900 (ts := [4]) hsz hdf (.inr ⟨_, rfl⟩) (by rfl) Tryd.func48 rfl ?_
    refine Run.holdBoxRow 5 1 90 14 (by rfl) (by rfl) (by rfl) rfl rfl rfl ?_
    refine fin _ _ _ (fun i => rfl) (fun id e5 e90 e14 e13 e901 e900 => ?_) (MOle.refl _) (bytesG_push 5 t u _ rfl)
    simp only [upd, scrubH, scrubM, bldr, e5, e90, e14, e13, e901, e900, cond_false]

def signL : List UInt8 := [63, 48, 49, 50, 51, 52, 53, 54, 55, 56, 57, 97, 98]
def signC (x : Int) : UInt8 := signL.getD (x + 1).toNat 0
/-- A matrix's bytes. -/
def prL (m : List (List Int)) : List UInt8 := m.flatMap (fun r => r.map signC ++ [10])
theorem bs_push (a : List UInt8) (u : UInt8) : bs a ++ ⟨#[u]⟩ = bs (a ++ [u]) := by
  apply ByteArray.ext; apply Array.ext'; simp [bs]
theorem prL_take (m : List (List Int)) (i : Nat) (h : i < m.length) : prL (m.take (i + 1)) = prL (m.take i) ++ ((m.getD i tRow.z).map signC ++ [10]) := by
  rw [List.take_succ_eq_append_getElem h, List.getD, List.getElem?_eq_getElem h]
  unfold prL
  rw [List.flatMap_append]
  simp only [List.flatMap_cons, List.flatMap_nil, List.append_nil, Option.getD_some]
theorem prL_len (m : List (List Int)) (h : ∀ r ∈ m, r.length ≤ 4096) : (prL m).length ≤ m.length * 4097 := by
  induction m with
  | nil => simp [prL]
  | cons r m ih =>
    have h1 := h r (by simp)
    have h2 := ih (fun v hv => h v (by simp [hv]))
    have e : prL (r :: m) = (r.map signC ++ [10]) ++ prL m := by simp [prL]
    rw [e, List.length_append, List.length_cons, Nat.add_mul]
    simp only [List.length_append, List.length_map, List.length_cons, List.length_nil]
    omega
theorem row_le {m : List (List Int)} (h : OkM m) : ∀ r ∈ m, r.length ≤ 4096 := fun r hr => by
  obtain ⟨i, hi, e⟩ := List.getElem_of_mem hr
  have := (h.2.2 i hi).2.1
  rw [List.getD, List.getElem?_eq_getElem hi] at this
  subst e; exact this
open Classical in
noncomputable def printS (m : List (List Int)) : ByteArray := if OkM m then bs (prL m) else .empty
noncomputable def printL (m : List (List Int)) : AV := tupL [.str (printS m), .int .i64 (codeM m)]
theorem print31_fn (m : List (List Int)) : Fn Tryd.prog 31 [mxA m] (printL m) := by
  refine Fn.of Tryd.f31 _ Tryd.func31 rfl (by decide) (by show 1 ≤ _; decide) tbOk 36 rfl fun S w0 gl => ?_
  unfold mxA
  refine Run.go ?_; (conv => whnf); repeat' (first | ((with_reducible refine Know.mk fun _ => ?_); conv => whnf) | ((with_reducible refine Need.mk ?_ ?_); exact nd; conv => whnf) | ((with_reducible first | refine Both.mk ?_ ?_ | refine Any.mk fun b hb => ?_ | refine AskB.dec (fun hb => ?_) (fun hb => ?_) | refine AskB.ndec (fun hb => ?_) (fun hb => ?_) | refine AskB.mk (fun hb => ?_) (fun hb => ?_)) <;> conv => whnf) | ((with_reducible first | refine Run.drawX rfl (by decide +kernel) ?_ | refine Run.drawT rfl (by decide +kernel) ?_ | refine Run.drawW rfl (by decide +kernel) ?_); conv => whnf))
  refine Run.callAX (check32_fn m) rfl rfl ⟨?_, trivial⟩ rfl rfl rfl ?_
  · refine Le.agg (n := 1) (fun j hj => ?_)
    have hj0 : j = 0 := by omega
    subst hj0; exact Le.refl _
  (conv => whnf); repeat' (first | ((with_reducible refine Know.mk fun _ => ?_); conv => whnf) | ((with_reducible refine Need.mk ?_ ?_); exact nd; conv => whnf) | ((with_reducible first | refine Both.mk ?_ ?_ | refine Any.mk fun b hb => ?_ | refine AskB.dec (fun hb => ?_) (fun hb => ?_) | refine AskB.ndec (fun hb => ?_) (fun hb => ?_) | refine AskB.mk (fun hb => ?_) (fun hb => ?_)) <;> conv => whnf) | ((with_reducible first | refine Run.drawX rfl (by decide +kernel) ?_ | refine Run.drawT rfl (by decide +kernel) ?_ | refine Run.drawW rfl (by decide +kernel) ?_); conv => whnf))
  · have hok := codeM_zero hb
    have hm12 := hok.2.1
    have hrow : ∀ i, i < m.length → (m.getD i tRow.z).length ≤ 4096 := fun i hi => (hok.2.2 i hi).2.1
    have hT : ∀ i, i ≤ m.length → (prL (m.take i)).length ≤ 60000 := fun i hi => by
      have h1 := prL_len (m.take i) (fun r hr => row_le hok r (List.mem_of_mem_take hr))
      have h2 : (m.take i).length ≤ 12 := by rw [List.length_take]; omega
      have h3 := Nat.mul_le_mul_right 4097 h2
      omega
    refine Run.holdBoxNil 5 1 90 5 1 (bytesG .empty) rfl rfl rfl rfl ?_
    refine Run.loop [5, 16, 17] (fun (a : Nat × AV) => [(18, .int .i64 (a.1 : Int))]) (fun a => [(5, .box 95 [a.2, .row 90]), (90, .row 5 1 (bs (prL (m.take a.1))).size (bytesG (bs (prL (m.take a.1)))))]) (fun a => a.1 ≤ m.length ∧ (a.2 = .nilp ∨ a.2 = .box 5 0)) (fun a => m.length - a.1) (0, .nilp) ⟨Nat.zero_le _, .inl rfl⟩ ⟨Le.refl _, trivial⟩ ⟨MOle.refl _, MOle.refl _, trivial⟩ ?_
    intro ⟨i, p⟩ ⟨hi, hp⟩ IH
    simp only [] at hi hp ⊢
    have hw1 : IntKind.i64.wrap ((i : Int) + 1) = ((i + 1 : Nat) : Int) := wrap64 (by omega) (by omega)
    refine Run.go ?_; (conv => whnf); repeat' (first | ((with_reducible refine Know.mk fun _ => ?_); conv => whnf) | ((with_reducible refine Need.mk ?_ ?_); exact nd; conv => whnf) | ((with_reducible first | refine Both.mk ?_ ?_ | refine Any.mk fun b hb => ?_ | refine AskB.dec (fun hb => ?_) (fun hb => ?_) | refine AskB.ndec (fun hb => ?_) (fun hb => ?_) | refine AskB.mk (fun hb => ?_) (fun hb => ?_)) <;> conv => whnf) | ((with_reducible first | refine Run.drawX rfl (by decide +kernel) ?_ | refine Run.drawT rfl (by decide +kernel) ?_ | refine Run.drawW rfl (by decide +kernel) ?_); conv => whnf))
    · have hil : i < m.length := by omega
      have hri := hrow i hil
      have hTi := hT i hi
      refine Run.loop [5, 16, 17, 18, 22, 23] (fun (a : Nat × AV) => [(24, .int .i64 (a.1 : Int))]) (fun a => [(5, .box 95 [a.2, .row 90]), (90, .row 5 1 (bs (prL (m.take i) ++ ((m.getD i tRow.z).take a.1).map signC)).size (bytesG (bs (prL (m.take i) ++ ((m.getD i tRow.z).take a.1).map signC))))]) (fun a => a.1 ≤ (m.getD i tRow.z).length ∧ (a.2 = .nilp ∨ a.2 = .box 5 0)) (fun a => (m.getD i tRow.z).length - a.1) (0, p) ⟨Nat.zero_le _, hp⟩ ⟨Le.refl _, trivial⟩ ⟨MOle.refl _, ?_, trivial⟩ ?_
      · have : prL (m.take i) = prL (m.take i) ++ ((m.getD i tRow.z).take 0).map signC := by simp
        conv => arg 1; rw [this]
        exact MOle.refl _
      intro ⟨j, p2⟩ ⟨hj, hp2⟩ IHj
      simp only [] at hj hp2 ⊢
      have hwj : IntKind.i64.wrap ((j : Int) + 1) = ((j + 1 : Nat) : Int) := wrap64 (by omega) (by omega)
      have hTj : (bs (prL (m.take i) ++ ((m.getD i tRow.z).take j).map signC)).size ≤ 100000 := by
        rw [bs_size, List.length_append, List.length_map, List.length_take]; omega
      have hx : j < (m.getD i tRow.z).length → -1 ≤ (m.getD i tRow.z).getD j tI.z ∧ (m.getD i tRow.z).getD j tI.z < 12 := (hok.2.2 i hil).2.2 j
      have hwx : j < (m.getD i tRow.z).length → IntKind.i64.wrap ((m.getD i tRow.z).getD j tI.z + 1) = (m.getD i tRow.z).getD j tI.z + 1 := fun h => wrap64 (by have := hx h; omega) (by have := hx h; omega)
      have hwx' : (j : Int) < ((m.getD (↑i : Int).toNat tRow.z).length : Int) → 0 ≤ IntKind.i64.wrap ((m.getD (↑i : Int).toNat tRow.z).getD (↑j : Int).toNat tI.z + 1) ∧ IntKind.i64.wrap ((m.getD (↑i : Int).toNat tRow.z).getD (↑j : Int).toNat tI.z + 1) < 13 := fun h => by
        simp only [Int.toNat_natCast] at h ⊢
        have h1 := hx (by omega)
        rw [hwx (by omega)]; omega
      have hsz : (ByteArray.mk #[63, 48, 49, 50, 51, 52, 53, 54, 55, 56, 57, 97, 98]).size = 13 := rfl
      refine Run.go ?_; (conv => whnf); repeat' (first | ((with_reducible refine Know.mk fun _ => ?_); conv => whnf) | ((with_reducible refine Need.mk ?_ ?_); exact nd; conv => whnf) | ((with_reducible first | refine Both.mk ?_ ?_ | refine Any.mk fun b hb => ?_ | refine AskB.dec (fun hb => ?_) (fun hb => ?_) | refine AskB.ndec (fun hb => ?_) (fun hb => ?_) | refine AskB.mk (fun hb => ?_) (fun hb => ?_)) <;> conv => whnf) | ((with_reducible first | refine Run.drawX rfl (by decide +kernel) ?_ | refine Run.drawT rfl (by decide +kernel) ?_ | refine Run.drawW rfl (by decide +kernel) ?_); conv => whnf))
      · have hjl : j < (m.getD i tRow.z).length := by simp only [Int.toNat_natCast] at *; omega
        refine Run.bldr 95 5 5 90 p2 (bs (prL (m.take i) ++ ((m.getD i tRow.z).take j).map signC)) (MOle.refl _) (MOle.refl _) ?_
        refine wb5 p2 _ (signC ((m.getD i tRow.z).getD j tI.z)) rfl rfl rfl rfl rfl ?_ (by omega) hp2 ?_
        · show AV.int .u8 (bt _ (IntKind.i64.wrap ((m.getD i tRow.z).getD j tI.z + 1)).toNat) = _
          rw [hwx hjl]; rfl
        refine Run.tidy [5, 16, 17, 18, 22, 23, 24] [5, 90] ?_; (conv => whnf)
        refine Run.go ?_; (conv => whnf); repeat' (first | ((with_reducible refine Know.mk fun _ => ?_); conv => whnf) | ((with_reducible refine Need.mk ?_ ?_); exact nd; conv => whnf) | ((with_reducible first | refine Both.mk ?_ ?_ | refine Any.mk fun b hb => ?_ | refine AskB.dec (fun hb => ?_) (fun hb => ?_) | refine AskB.ndec (fun hb => ?_) (fun hb => ?_) | refine AskB.mk (fun hb => ?_) (fun hb => ?_)) <;> conv => whnf) | ((with_reducible first | refine Run.drawX rfl (by decide +kernel) ?_ | refine Run.drawT rfl (by decide +kernel) ?_ | refine Run.drawW rfl (by decide +kernel) ?_); conv => whnf))
        refine Run.to _ _ ?_ ?_ (IHj (j + 1, .box 5 0) (by simp only []; omega) ⟨by simp only []; omega, .inr rfl⟩)
        · exact ⟨Le.refl _, Le.refl _, Le.refl _, Le.refl _, Le.refl _, Le.refl _, Le.int hwj, trivial⟩
        · refine ⟨MOle.refl _, ?_, trivial⟩
          have : bs (prL (m.take i) ++ ((m.getD i tRow.z).take j).map signC) ++ ⟨#[signC ((m.getD i tRow.z).getD j tI.z)]⟩ = bs (prL (m.take i) ++ ((m.getD i tRow.z).take (j + 1)).map signC) := by
            rw [bs_push, List.take_succ_eq_append_getElem hjl, List.map_append, List.append_assoc, show (m.getD i tRow.z).getD j tI.z = (m.getD i tRow.z)[j] by rw [List.getD, List.getElem?_eq_getElem hjl]; rfl]; rfl
          rw [← this]
          exact MOle.refl _
      · have hje : j = (m.getD i tRow.z).length := by simp only [Int.toNat_natCast] at *; omega
        refine Run.bldr 95 5 5 90 p2 (bs (prL (m.take i) ++ ((m.getD i tRow.z).take j).map signC)) (MOle.refl _) (MOle.refl _) ?_
        refine wb5 p2 _ 10 rfl rfl rfl rfl rfl rfl (by omega) hp2 ?_
        refine Run.tidy [5, 16, 17, 18] [5, 90] ?_; (conv => whnf)
        refine Run.go ?_; (conv => whnf); repeat' (first | ((with_reducible refine Know.mk fun _ => ?_); conv => whnf) | ((with_reducible refine Need.mk ?_ ?_); exact nd; conv => whnf) | ((with_reducible first | refine Both.mk ?_ ?_ | refine Any.mk fun b hb => ?_ | refine AskB.dec (fun hb => ?_) (fun hb => ?_) | refine AskB.ndec (fun hb => ?_) (fun hb => ?_) | refine AskB.mk (fun hb => ?_) (fun hb => ?_)) <;> conv => whnf) | ((with_reducible first | refine Run.drawX rfl (by decide +kernel) ?_ | refine Run.drawT rfl (by decide +kernel) ?_ | refine Run.drawW rfl (by decide +kernel) ?_); conv => whnf))
        refine Run.to _ _ ?_ ?_ (IH (i + 1, .box 5 0) (by simp only []; omega) ⟨by simp only []; omega, .inr rfl⟩)
        · exact ⟨Le.refl _, Le.refl _, Le.refl _, Le.int hw1, trivial⟩
        · refine ⟨MOle.refl _, ?_, trivial⟩
          have : bs (prL (m.take i) ++ ((m.getD i tRow.z).take j).map signC) ++ ⟨#[10]⟩ = bs (prL (m.take (i + 1))) := by
            rw [bs_push, hje, List.take_length, prL_take m i hil, List.append_assoc]
          rw [← this]
          exact MOle.refl _
    · have hie : i = m.length := by omega
      subst hie
      refine Run.bldr 95 5 5 90 p (bs (prL (m.take m.length))) (MOle.refl _) (MOle.refl _) ?_
      refine bs5 p _ rfl rfl rfl rfl rfl ?_
      refine Run.go ?_; (conv => whnf); repeat' (first | ((with_reducible refine Know.mk fun _ => ?_); conv => whnf) | ((with_reducible refine Need.mk ?_ ?_); exact nd; conv => whnf) | ((with_reducible first | refine Both.mk ?_ ?_ | refine Any.mk fun b hb => ?_ | refine AskB.dec (fun hb => ?_) (fun hb => ?_) | refine AskB.ndec (fun hb => ?_) (fun hb => ?_) | refine AskB.mk (fun hb => ?_) (fun hb => ?_)) <;> conv => whnf) | ((with_reducible first | refine Run.drawX rfl (by decide +kernel) ?_ | refine Run.drawT rfl (by decide +kernel) ?_ | refine Run.drawW rfl (by decide +kernel) ?_); conv => whnf))
      refine Run.leave (ts := [2,3]) (.inr ⟨_, rfl⟩) rfl Tryd.func31 rfl (resT ⟨Le.str ?_, Le.int (codeM_yes hok).symm, trivial⟩)
      rw [List.take_length]; unfold printS; rw [if_pos hok]
  · have hno : ¬ OkM m := fun h => hb (codeM_yes h)
    refine Run.leave (ts := [2,3]) (.inr ⟨_, rfl⟩) rfl Tryd.func31 rfl (resT ⟨Le.str ?_, Le.refl _, trivial⟩)
    unfold printS; rw [if_neg hno]; rfl
end Go.Proofs.YtnadacaoehpdnaaDoor.V

namespace Go.Proofs.YtnadacaoehpdnaaDoor.V
set_option linter.unusedVariables false
set_option linter.unusedSimpArgs false
open Go
/-- A sign's state; -2: it is none. -/
def ixB (b : UInt8) : Int := Lib.indexByte signL b - 1
/-- The same, as the document looks for it. -/
def scanX (b : UInt8) : Nat → Int
  | 0 => -2
  | k + 1 => if signL.getD k 0 = b then (k : Int) - 1 else scanX b k
theorem all_bytes {p : UInt8 → Prop} (h : ∀ n : Fin 256, p (UInt8.ofNat n.val)) (b : UInt8) : p b := by
  have := h ⟨b.toNat, b.toNat_lt⟩
  simpa using this
theorem ix_all : ∀ n : Fin 256, scanX (UInt8.ofNat n.val) 13 = ixB (UInt8.ofNat n.val) ∧ -2 ≤ ixB (UInt8.ofNat n.val) ∧ ixB (UInt8.ofNat n.val) < 12 ∧ (-1 ≤ ixB (UInt8.ofNat n.val) → (UInt8.ofNat n.val).toNat < 128) ∧ (-1 ≤ ixB (UInt8.ofNat n.val) → signC (ixB (UInt8.ofNat n.val)) = UInt8.ofNat n.val) := by decide +kernel
theorem ix_range (b : UInt8) : -2 ≤ ixB b ∧ ixB b < 12 := all_bytes (p := fun b => -2 ≤ ixB b ∧ ixB b < 12) (fun n => ⟨(ix_all n).2.1, (ix_all n).2.2.1⟩) b
theorem ix_ascii (b : UInt8) (h : -1 ≤ ixB b) : b.toNat < 128 := all_bytes (p := fun b => -1 ≤ ixB b → b.toNat < 128) (fun n => (ix_all n).2.2.2.1) b h
open Classical in
/-- Line by line: the rows that are there already, the lines that are left. -/
noncomputable def goP : List (List UInt8) → List (List Int) → List (List Int) × Int × Int
  | [], m => (m, 0, 0)
  | [l], m => if l = [] ∧ m ≠ [] then (m, 0, 0) else ([], (m.length : Int), 190)
  | l :: l2 :: r, m => if OkM (m ++ [l.map ixB]) then goP (l2 :: r) (m ++ [l.map ixB]) else ([], (m.length : Int), 190)
noncomputable def parseA (l : List UInt8) : List (List Int) × Int × Int := if 65536 < l.length then ([], 0, 1) else goP (splitL l) []
noncomputable def parseL (l : List UInt8) : AV := tupL [mxA (parseA l).1, .int .i64 (parseA l).2.1, .int .i64 (parseA l).2.2]
theorem goP_last {l : List UInt8} {m : List (List Int)} : goP [l] m = if l = [] ∧ m ≠ [] then (m, 0, 0) else ([], (m.length : Int), 190) := by
  rw [goP]
theorem goP_ok {l : List UInt8} {r : List (List UInt8)} {m : List (List Int)} (hr : r ≠ []) (h : OkM (m ++ [l.map ixB])) : goP (l :: r) m = goP r (m ++ [l.map ixB]) := by
  cases r with
  | nil => exact absurd rfl hr
  | cons l2 r => rw [goP, if_pos h]
theorem goP_no {l : List UInt8} {r : List (List UInt8)} {m : List (List Int)} (hr : r ≠ []) (h : ¬ OkM (m ++ [l.map ixB])) : goP (l :: r) m = ([], (m.length : Int), 190) := by
  cases r with
  | nil => exact absurd rfl hr
  | cons l2 r => rw [goP, if_neg h]
/-- When a row more makes a matrix. -/
theorem ok_push {m : List (List Int)} {r : List Int} (hm : OkM m ∨ m = []) : OkM (m ++ [r]) ↔ m.length < 12 ∧ r.length ≤ 4096 ∧ r.length = ((m ++ [r]).getD 0 tRow.z).length ∧ ∀ j, j < r.length → -1 ≤ r.getD j tI.z ∧ r.getD j tI.z < 12 := by
  have hlast : (m ++ [r]).getD m.length tRow.z = r := by simp [List.getD]
  constructor
  · intro h
    have hl := h.2.1
    rw [List.length_append] at hl
    simp only [List.length_cons, List.length_nil] at hl
    have := h.2.2 m.length (by rw [List.length_append]; simp)
    unfold RowOk at this
    rw [hlast] at this
    exact ⟨by omega, this.2.1, this.1, this.2.2⟩
  · intro ⟨h1, h2, h3, h4⟩
    refine ⟨by rw [List.length_append]; simp, by rw [List.length_append]; simp; omega, fun i hi => ?_⟩
    rw [List.length_append] at hi
    simp only [List.length_cons, List.length_nil] at hi
    by_cases e : i = m.length
    · subst e
      unfold RowOk
      rw [hlast]
      exact ⟨h3, h2, h4⟩
    · have hil : i < m.length := by omega
      have h0 : 0 < m.length := by omega
      have hm' : OkM m := by
        rcases hm with h | h
        · exact h
        · rw [h] at hil; exact absurd hil (Nat.not_lt_zero _)
      have := hm'.2.2 i hil
      have e1 : (m ++ [r]).getD i tRow.z = m.getD i tRow.z := by simp [List.getD, List.getElem?_append_left hil]
      have e2 : (m ++ [r]).getD 0 tRow.z = m.getD 0 tRow.z := by simp only [List.getD, List.getElem?_append_left h0]
      unfold RowOk
      rw [e1, e2]
      exact this
end Go.Proofs.YtnadacaoehpdnaaDoor.V

namespace Go.Proofs.YtnadacaoehpdnaaDoor.V
set_option linter.unusedVariables false
set_option linter.unusedSimpArgs false
open Go
/-- How many of the first i rows have state k at site s. -/
def cntN (m : List (List Int)) (s : Nat) : Nat → Int → Nat
  | 0, _ => 0
  | i + 1, k => cntN m s i k + if (m.getD i tRow.z).getD s tI.z = k then 1 else 0
/-- How many of the states below K are there twice or more. -/
def twN (f : Nat → Nat) : Nat → Nat
  | 0 => 0
  | K + 1 => twN f K + if 1 < f K then 1 else 0
def tells (m : List (List Int)) (s : Nat) : Prop := 1 < twN (fun k => cntN m s m.length (k : Int)) 12
instance (m : List (List Int)) (s : Nat) : Decidable (tells m s) := by unfold tells; infer_instance
def tellN (m : List (List Int)) : Nat → List Int
  | 0 => []
  | s + 1 => tellN m s ++ if tells m s then [(s : Int)] else []
open Classical in
noncomputable def tellA (m : List (List Int)) : List Int := if OkM m then tellN m (m.getD 0 tRow.z).length else []
end Go.Proofs.YtnadacaoehpdnaaDoor.V

namespace Go.Proofs.YtnadacaoehpdnaaDoor.V
set_option linter.unusedVariables false
set_option linter.unusedSimpArgs false
open Go Go.Proofs Go.RowKit
set_option maxRecDepth 100000
set_option maxHeartbeats 2000000
open Go Go.Proofs Go.Proofs.YtnadacaoehpdnaaDoor.V
theorem agg1 {get : Nat → AV} {m : List (List Int)} (h : Le (get 0) (tRow.L m)) : Le (.agg 1 get) (mxA m) := Le.agg (fun j hj => by
  have : j = 0 := by omega
  subst this; exact h)
def rowsM (l : List UInt8) (n : Nat) : List (List Int) := ((splitL l).take n).map (fun x => x.map ixB)
theorem rowsM_len (l : List UInt8) (n : Nat) (h : n ≤ (splitL l).length) : (rowsM l n).length = n := by
  unfold rowsM; rw [List.length_map, List.length_take]; omega
theorem rowsM_succ (l : List UInt8) (n : Nat) (h : n < (splitL l).length) : rowsM l (n + 1) = rowsM l n ++ [((splitL l).getD n []).map ixB] := by
  unfold rowsM
  rw [List.take_succ_eq_append_getElem h, List.map_append, List.getD, List.getElem?_eq_getElem h]; rfl
theorem splitB_at (l : List UInt8) (n : Nat) (h : n < (splitL l).length) : (splitB l).getD n tS.z = bs ((splitL l).getD n []) := by
  unfold splitB
  rw [List.getD, List.getD, List.getElem?_map, List.getElem?_eq_getElem h]; rfl
theorem splitL_short : ∀ (l : List UInt8) (x : List UInt8), x ∈ splitL l → x.length ≤ l.length
  | [], x, h => by simp [splitL] at h; subst h; simp
  | b :: l, x, h => by
    rw [splitL] at h
    split at h
    · rcases List.mem_cons.mp h with rfl | h
      · simp
      · have := splitL_short l x h; simp only [List.length_cons]; omega
    · cases hs : splitL l with
      | nil => exact absurd hs (splitL_ne l)
      | cons y t =>
        rw [hs] at h
        simp only [List.headD_cons, List.tail_cons] at h
        rcases List.mem_cons.mp h with rfl | h
        · have := splitL_short l y (by rw [hs]; simp)
          simp only [List.length_cons]; omega
        · have := splitL_short l x (by rw [hs]; simp [h])
          simp only [List.length_cons]; omega
theorem dec_asciiM (x : List UInt8) (p : Nat) (h : (x.getD p 0).toNat < 128) : (Utf8.decode (bs x) p).2 = 1 := by
  rw [Lib.decode_at]
  have e : ((bs x).get! p).toNat < 128 := by
    have : (bs x).get! p = x.getD p 0 := by simp [bs, ByteArray.get!, List.getD]; rfl
    rw [this]; exact h
  unfold Lib.decodeN
  rw [if_pos e]
theorem parse28_fn (l : List UInt8) : Fn Tryd.prog 28 [.str (bs l)] (parseL l) := by
  refine Fn.of Tryd.f28 _ Tryd.func28 rfl (by decide) (by show 1 ≤ _; decide) tbOk 91 rfl fun S w0 gl => ?_
  have hsz := bs_size l
  refine Run.go ?_; (conv => whnf); repeat' (first | ((with_reducible refine Know.mk fun _ => ?_); conv => whnf) | ((with_reducible refine Need.mk ?_ ?_); exact nd; conv => whnf) | ((with_reducible first | refine Both.mk ?_ ?_ | refine Any.mk fun b hb => ?_ | refine AskB.dec (fun hb => ?_) (fun hb => ?_) | refine AskB.ndec (fun hb => ?_) (fun hb => ?_) | refine AskB.mk (fun hb => ?_) (fun hb => ?_)) <;> conv => whnf) | ((with_reducible first | refine Run.drawX rfl (by decide +kernel) ?_ | refine Run.drawT rfl (by decide +kernel) ?_ | refine Run.drawW rfl (by decide +kernel) ?_); conv => whnf))
  · have hp : parseA l = ([], 0, 1) := by unfold parseA; rw [if_pos (by omega)]
    unfold parseL
    rw [hp]
    exact Run.leaveC3 (.inr ⟨_, rfl⟩) rfl Tryd.func28 rfl rfl rfl (Nat.le_of_ble_eq_true rfl) (agg1 (Le.nils _ _)) (Le.refl _) (Le.refl _)
  · refine Run.callBX (split46_fn l (by omega)) rfl rfl ⟨Le.refl _, Le.refl _, trivial⟩ rfl rfl rfl ?_
    have hpa : parseA l = goP (splitL l) [] := by unfold parseA; rw [if_neg (by omega)]
    have hlB : (splitB l).length = (splitL l).length := by unfold splitB; rw [List.length_map]
    have hpos : 1 ≤ (splitB l).length := by
      have := List.length_pos_iff.mpr (splitL_ne l)
      omega
    have hle : (splitB l).length ≤ 65537 := by
      have hle : Lib.countByte l 10 ≤ l.length := List.count_le_length
      rw [hlB, splitL_len]; omega
    have hw : IntKind.i64.wrap (((splitB l).length : Int) - 1) = ((splitB l).length : Int) - 1 := wrap64 (by omega) (by omega)
    (conv => whnf); repeat' (first | ((with_reducible refine Know.mk fun _ => ?_); conv => whnf) | ((with_reducible refine Need.mk ?_ ?_); exact nd; conv => whnf) | ((with_reducible first | refine Both.mk ?_ ?_ | refine Any.mk fun b hb => ?_ | refine AskB.dec (fun hb => ?_) (fun hb => ?_) | refine AskB.ndec (fun hb => ?_) (fun hb => ?_) | refine AskB.mk (fun hb => ?_) (fun hb => ?_)) <;> conv => whnf) | ((with_reducible first | refine Run.drawX rfl (by decide +kernel) ?_ | refine Run.drawT rfl (by decide +kernel) ?_ | refine Run.drawW rfl (by decide +kernel) ?_); conv => whnf))
    refine Run.holdBoxNil 7 0 90 27 1 (tRow.G []) rfl rfl rfl rfl ?_
    unfold parseL
    rw [hpa]
    refine Run.loop [2, 5, 6, 7, 23, 24] (fun (n : Nat) => [(25, .int .i64 (n : Int))]) (fun n => [(2, .box 59 [.nils]), (7, .box 59 [.row 90]), (90, tRow.R 27 (rowsM l n))]) (fun n => n + 1 ≤ (splitL l).length ∧ goP (splitL l) [] = goP ((splitL l).drop n) (rowsM l n) ∧ (OkM (rowsM l n) ∨ rowsM l n = [])) (fun n => (splitL l).length - n) 0 ⟨by omega, rfl, .inr rfl⟩ ⟨Le.refl _, trivial⟩ ⟨MOle.refl _, MOle.refl _, MOle.refl _, trivial⟩ ?_
    intro n ⟨hn, hg, hok⟩ IH
    have hw1 : IntKind.i64.wrap ((n : Int) + 1) = ((n + 1 : Nat) : Int) := wrap64 (by omega) (by omega)
    have hrl := rowsM_len l n (by omega)
    have hnl : n < (splitL l).length := by omega
    have hline := splitB_at l n hnl
    have hxs : ((splitL l).getD n []).length ≤ 65536 := by
      have := splitL_short l ((splitL l).getD n []) (by rw [List.getD, List.getElem?_eq_getElem hnl]; exact List.getElem_mem hnl)
      omega
    have hls : ((splitB l).getD (↑n : Int).toNat tS.z).size ≤ 65536 := by rw [Int.toNat_natCast, hline, bs_size]; exact hxs
    have hdrop : (splitL l).drop n = (splitL l).getD n [] :: (splitL l).drop (n + 1) := by
      rw [List.drop_eq_getElem_cons hnl, List.getD, List.getElem?_eq_getElem hnl]; rfl
    have hwn : (IntKind.i64.wrap (((splitB l).length : Int) - 1)).toNat = (splitL l).length - 1 := by rw [hw]; omega
    have hfin : ¬ (n : Int) < ((IntKind.i64.wrap (((splitB l).length : Int) - 1)).toNat : Int) → n = (splitL l).length - 1 ∧ (splitL l).drop n = [(splitL l).getD n []] ∧ (splitB l).getD (IntKind.i64.wrap (((splitB l).length : Int) - 1)).toNat tS.z = bs ((splitL l).getD n []) := fun h => by
      rw [hwn] at h ⊢
      have e : n = (splitL l).length - 1 := by omega
      refine ⟨e, ?_, by rw [← e]; exact hline⟩
      rw [hdrop, List.drop_of_length_le (by omega)]
    have hbse : ∀ x : List UInt8, bs x = { data := #[] } ↔ x = [] := fun x => by
      constructor
      · intro h; exact bs_inj (h.trans (rfl : ({ data := #[] } : ByteArray) = bs []))
      · intro h; rw [h]; rfl
    refine Run.go ?_; (conv => whnf); repeat' (first | ((with_reducible refine Know.mk fun _ => ?_); conv => whnf) | ((with_reducible refine Need.mk ?_ ?_); exact nd; conv => whnf) | ((with_reducible first | refine Both.mk ?_ ?_ | refine Any.mk fun b hb => ?_ | refine AskB.dec (fun hb => ?_) (fun hb => ?_) | refine AskB.ndec (fun hb => ?_) (fun hb => ?_) | refine AskB.mk (fun hb => ?_) (fun hb => ?_)) <;> conv => whnf) | ((with_reducible first | refine Run.drawX rfl (by decide +kernel) ?_ | refine Run.drawT rfl (by decide +kernel) ?_ | refine Run.drawW rfl (by decide +kernel) ?_); conv => whnf))
    case _ =>
      have hnn : (n : Int) < ((splitL l).length : Int) - 1 := by rw [hwn] at hb; omega
      rw [Int.toNat_natCast] at hls
      generalize hx : (splitL l).getD n [] = x at *
      have hxr : (x.map ixB).length = x.length := List.length_map _
      refine Run.loop [2, 5, 6, 7, 8, 10, 23, 24, 25, 34] (fun (p : Nat) => [(9, .str (bs x))]) (fun p => [(2, .box 59 [.nils]), (7, .box 59 [.row 90]), (32, tI.R 3 (partM (x.map ixB) 0 p)), (34, .iter (bs x) p), (90, tRow.R 27 (rowsM l n))]) (fun p => p ≤ x.length ∧ ∀ j, j < p → -1 ≤ ixB (x.getD j 0)) (fun p => x.length - p) 0 ⟨Nat.zero_le _, fun j h => absurd h (Nat.not_lt_zero _)⟩ ⟨Le.str (by rw [Int.toNat_natCast, hline]), trivial⟩ ⟨MOle.refl _, MOle.refl _, ?_, ⟨by rw [Int.toNat_natCast, hline], rfl⟩, MOle.refl _, trivial⟩ ?_
      · rw [partM_none]
        show MOle (.row 3 1 ((splitB l).getD n tS.z).size (fun i j => [AV.int .i64 0].getD j AV.u)) _
        refine ⟨rfl, rfl, by rw [hline, bs_size]; simp, fun i j hi hj => ?_⟩
        have hj0 : j = 0 := by have : j < 1 := hj; omega
        subst hj0
        unfold Ty.G
        rw [List.getD, List.getElem?_replicate]
        split <;> exact Le.refl _
      intro p ⟨hp, hpa2⟩ IHp
      have hbx := bs_size x
      have hpl := partM_len (x.map ixB) (0 : Int) p (by omega)
      refine Run.go ?_; (conv => whnf); repeat' (first | ((with_reducible refine Know.mk fun _ => ?_); conv => whnf) | ((with_reducible refine Need.mk ?_ ?_); exact nd; conv => whnf) | ((with_reducible first | refine Both.mk ?_ ?_ | refine Any.mk fun b hb => ?_ | refine AskB.dec (fun hb => ?_) (fun hb => ?_) | refine AskB.ndec (fun hb => ?_) (fun hb => ?_) | refine AskB.mk (fun hb => ?_) (fun hb => ?_)) <;> conv => whnf) | ((with_reducible first | refine Run.drawX rfl (by decide +kernel) ?_ | refine Run.drawT rfl (by decide +kernel) ?_ | refine Run.drawW rfl (by decide +kernel) ?_); conv => whnf))
      case _ =>
        have hpx : p < x.length := by omega
        have hbt : Lib.indexByte signL (bt (bs x) (↑p : Int).toNat).toNat.toUInt8 = ixB (x.getD p 0) + 1 := by
          rw [Int.toNat_natCast]
          have e1 : (bt (bs x) p).toNat.toUInt8 = x.getD p 0 := by
            unfold bt; rw [bs_data, Int.toNat_natCast]; simp
          rw [e1]; unfold ixB; omega
        have hir := ix_range (x.getD p 0)
        have hwx : IntKind.i64.wrap (ixB (x.getD p 0) + 1 - 1) = ixB (x.getD p 0) := by rw [show ixB (x.getD p 0) + 1 - 1 = ixB (x.getD p 0) by omega]; exact wrap64 (by omega) (by omega)
        have hgx : (x.map ixB).getD p 0 = ixB (x.getD p 0) := by
          rw [List.getD, List.getD, List.getElem?_map, List.getElem?_eq_getElem hpx]; rfl
        refine Run.callB (ib47_fn signL (bt (bs x) (↑p : Int).toNat)) rfl rfl ⟨Le.refl _, Le.refl _, trivial⟩ rfl rfl rfl ?_
        rw [hbt]
        refine aexec_ok 1 ?_; (conv => whnf); repeat' (first | ((with_reducible refine Know.mk fun _ => ?_); conv => whnf) | ((with_reducible refine Need.mk ?_ ?_); exact nd; conv => whnf) | ((with_reducible first | refine Both.mk ?_ ?_ | refine Any.mk fun b hb => ?_ | refine AskB.dec (fun hb => ?_) (fun hb => ?_) | refine AskB.ndec (fun hb => ?_) (fun hb => ?_) | refine AskB.mk (fun hb => ?_) (fun hb => ?_)) <;> conv => whnf) | ((with_reducible first | refine Run.drawX rfl (by decide +kernel) ?_ | refine Run.drawT rfl (by decide +kernel) ?_ | refine Run.drawW rfl (by decide +kernel) ?_); conv => whnf))
        refine Run.to [(2, .box 2 0), (5, tS.L (splitB l)), (6, .int .i64 (IntKind.i64.wrap (((splitB l).length : Int) - 1))), (7, .box 7 0), (8, .int .i64 (n : Int)), (9, .str (bs x)), (10, .row 32), (11, .int .i64 (p : Int)), (23, .sl (IntKind.i64.wrap (((splitB l).length : Int) - 1)).toNat tS.sz (tS.G (splitB l))), (24, .int .i64 ((IntKind.i64.wrap (((splitB l).length : Int) - 1)).toNat : Int)), (25, .int .i64 (n : Int)), (34, .obj 34)]
          [(2, .box 59 [.nils]), (7, .box 59 [.row 90]), (32, tI.R 3 (partM (x.map ixB) 0 (p + 1))), (34, .iter (bs x) (p + (Utf8.decode (bs x) p).2)), (90, tRow.R 27 (rowsM l n))] ⟨Le.refl _, Le.refl _, Le.refl _, Le.refl _, Le.refl _, Le.refl _, Le.refl _, Le.refl _, Le.refl _, Le.refl _, Le.refl _, Le.refl _, trivial⟩ ⟨MOle.refl _, MOle.refl _, ?_, MOle.refl _, MOle.refl _, trivial⟩ ?_
        · rw [← partM_set (x.map ixB) 0 p (by omega), hgx]
          refine tI.set 3 (partM (x.map ixB) 0 p) p _ (by omega) _ rfl (fun j y hy => ?_)
          have hj : j = 0 := by
            rcases j with _ | j
            · rfl
            · simp at hy
          subst hj
          cases hy
          exact Le.int hwx
        have hpl2 := partM_len (x.map ixB) (0 : Int) (p + 1) (by omega)
        have hgp : (partM (x.map ixB) (0 : Int) (p + 1)).getD p tI.z = ixB (x.getD p 0) := by
          rw [← hgx]
          show ((x.map ixB).take (p + 1) ++ List.replicate _ 0).getD p tI.z = _
          rw [List.getD, List.getElem?_append_left (by rw [List.length_take]; omega), List.getElem?_take_of_lt (by omega)]; rfl
        refine Run.go ?_; (conv => whnf); repeat' (first | ((with_reducible refine Know.mk fun _ => ?_); conv => whnf) | ((with_reducible refine Need.mk ?_ ?_); exact nd; conv => whnf) | ((with_reducible first | refine Both.mk ?_ ?_ | refine Any.mk fun b hb => ?_ | refine AskB.dec (fun hb => ?_) (fun hb => ?_) | refine AskB.ndec (fun hb => ?_) (fun hb => ?_) | refine AskB.mk (fun hb => ?_) (fun hb => ?_)) <;> conv => whnf) | ((with_reducible first | refine Run.drawX rfl (by decide +kernel) ?_ | refine Run.drawT rfl (by decide +kernel) ?_ | refine Run.drawW rfl (by decide +kernel) ?_); conv => whnf))
        case _ =>
          rw [Int.toNat_natCast, hgp] at hb
          have hno : ¬ OkM (rowsM l n ++ [x.map ixB]) := fun h => by
            have h2 := ((ok_push hok).mp h).2.2.2 p (by omega)
            rw [show (x.map ixB).getD p tI.z = ixB (x.getD p 0) from hgx] at h2
            omega
          rw [hdrop, goP_no (fun h => by have := congrArg List.length h; rw [List.length_drop] at this; simp at this; omega) hno] at hg
          rw [hg]
          exact Run.leaveC3 (.inr ⟨_, rfl⟩) rfl Tryd.func28 rfl rfl rfl (Nat.le_of_ble_eq_true rfl) (agg1 (Le.nils _ _)) (Le.int (by show (n : Int) = ((rowsM l n).length : Int); rw [hrl])) (Le.refl _)
        case _ =>
          rw [Int.toNat_natCast, hgp] at hb
          have hdec : (Utf8.decode (bs x) p).2 = 1 := dec_asciiM x p (ix_ascii _ (by omega))
          refine Run.to _ _ ?_ ?_ (IHp (p + 1) (by omega) ⟨by omega, ?_⟩)
          · exact ⟨Le.refl _, Le.refl _, Le.refl _, Le.refl _, Le.refl _, Le.refl _, Le.refl _, Le.refl _, Le.refl _, Le.refl _, Le.refl _, trivial⟩
          · exact ⟨MOle.refl _, MOle.refl _, MOle.refl _, ⟨rfl, by rw [hdec]⟩, MOle.refl _, trivial⟩
          · intro j hj
            rcases Nat.lt_succ_iff_lt_or_eq.mp hj with h | h
            · exact hpa2 j h
            · subst h; omega
      case _ =>
        have hpe : p = x.length := by omega
        subst hpe
        rw [show partM (x.map ixB) 0 x.length = x.map ixB by rw [← hxr, partM_all]]
        refine Run.freeze 32 rfl ?_
        have hsucc := rowsM_succ l n hnl
        rw [hx] at hsucc
        have hh0 : ∀ r : List Int, 0 < (rowsM l n ++ [r]).length := fun r => by simp
        refine aexec_ok 1 ?_; (conv => whnf); repeat' (first | ((with_reducible refine Know.mk fun _ => ?_); conv => whnf) | ((with_reducible refine Need.mk ?_ ?_); exact nd; conv => whnf) | ((with_reducible first | refine Both.mk ?_ ?_ | refine Any.mk fun b hb => ?_ | refine AskB.dec (fun hb => ?_) (fun hb => ?_) | refine AskB.ndec (fun hb => ?_) (fun hb => ?_) | refine AskB.mk (fun hb => ?_) (fun hb => ?_)) <;> conv => whnf) | ((with_reducible first | refine Run.drawX rfl (by decide +kernel) ?_ | refine Run.drawT rfl (by decide +kernel) ?_ | refine Run.drawW rfl (by decide +kernel) ?_); conv => whnf))
        refine Run.holdBoxRow 7 0 90 57 rfl rfl rfl rfl rfl rfl ?_
        refine Run.to [(2, .box 2 0), (5, tS.L (splitB l)), (6, .int .i64 (IntKind.i64.wrap (((splitB l).length : Int) - 1))), (7, .box 7 0), (8, .int .i64 (n : Int)), (10, tI.L (x.map ixB)), (23, .sl (IntKind.i64.wrap (((splitB l).length : Int) - 1)).toNat tS.sz (tS.G (splitB l))), (24, .int .i64 ((IntKind.i64.wrap (((splitB l).length : Int) - 1)).toNat : Int)), (25, .int .i64 (n : Int))]
          [(2, .box 59 [.nils]), (7, .box 59 [.row 90]), (90, tRow.R 27 (rowsM l n ++ [x.map ixB]))] ⟨Le.refl _, Le.refl _, Le.refl _, Le.refl _, Le.refl _, Le.refl _, Le.refl _, Le.refl _, Le.refl _, trivial⟩ ⟨MOle.refl _, MOle.refl _, ?_, trivial⟩ ?_
        · exact tRow.push 27 (rowsM l n) (x.map ixB) _ (fun j hj => by
            have hj0 : j = 0 := by have : j < 1 := hj; omega
            subst hj0; exact Le.refl _)
        have hh1 : (0 : Int) < ((rowsM l n ++ [x.map ixB]).length : Int) := by have := hh0 (x.map ixB); omega
        have hbad : ¬ OkM (rowsM l n ++ [x.map ixB]) → goP (splitL l) [] = ([], (n : Int), 190) := fun hno => by
          rw [hg, hdrop, goP_no (fun h => by have := congrArg List.length h; rw [List.length_drop] at this; simp at this; omega) hno, hrl]
        refine Run.go ?_; (conv => whnf); repeat' (first | ((with_reducible refine Know.mk fun _ => ?_); conv => whnf) | ((with_reducible refine Need.mk ?_ ?_); exact nd; conv => whnf) | ((with_reducible first | refine Both.mk ?_ ?_ | refine Any.mk fun b hb => ?_ | refine AskB.dec (fun hb => ?_) (fun hb => ?_) | refine AskB.ndec (fun hb => ?_) (fun hb => ?_) | refine AskB.mk (fun hb => ?_) (fun hb => ?_)) <;> conv => whnf) | ((with_reducible first | refine Run.drawX rfl (by decide +kernel) ?_ | refine Run.drawT rfl (by decide +kernel) ?_ | refine Run.drawW rfl (by decide +kernel) ?_); conv => whnf))
        case _ =>
          rw [hbad (fun h => by have := ((ok_push hok).mp h).1; omega)]
          exact Run.leaveC3 (.inr ⟨_, rfl⟩) rfl Tryd.func28 rfl rfl rfl (Nat.le_of_ble_eq_true rfl) (agg1 (Le.nils _ _)) (Le.refl _) (Le.refl _)
        case _ =>
          rw [hbad (fun h => by have := ((ok_push hok).mp h).2.1; omega)]
          exact Run.leaveC3 (.inr ⟨_, rfl⟩) rfl Tryd.func28 rfl rfl rfl (Nat.le_of_ble_eq_true rfl) (agg1 (Le.nils _ _)) (Le.refl _) (Le.refl _)
        case _ =>
          have hgood : OkM (rowsM l n ++ [x.map ixB]) := (ok_push hok).mpr ⟨by omega, by omega, by simp only [Int.toNat_zero] at *; omega, fun j hj => by
            rw [hxr] at hj
            have h1 := hpa2 j hj
            have h2 := ix_range (x.getD j 0)
            have h3 : (x.map ixB).getD j tI.z = ixB (x.getD j 0) := by
              rw [List.getD, List.getD, List.getElem?_map, List.getElem?_eq_getElem hj]; rfl
            rw [h3]; omega⟩
          refine Run.to _ _ ?_ ?_ (IH (n + 1) (by omega) ⟨by omega, ?_, ?_⟩)
          · exact ⟨Le.refl _, Le.refl _, Le.refl _, Le.refl _, Le.refl _, Le.refl _, Le.int hw1, trivial⟩
          · refine ⟨MOle.refl _, MOle.refl _, ?_, trivial⟩
            rw [hsucc]; exact MOle.refl _
          · rw [hg, hdrop, goP_ok (fun h => by have := congrArg List.length h; rw [List.length_drop] at this; simp at this; omega) hgood, hsucc]
          · rw [hsucc]; exact .inl hgood
        case _ =>
          rw [hbad (fun h => by have := ((ok_push hok).mp h).2.2.1; simp only [Int.toNat_zero] at *; omega)]
          exact Run.leaveC3 (.inr ⟨_, rfl⟩) rfl Tryd.func28 rfl rfl rfl (Nat.le_of_ble_eq_true rfl) (agg1 (Le.nils _ _)) (Le.refl _) (Le.refl _)
    case _ =>
      obtain ⟨e1, e2, e3⟩ := hfin (by assumption)
      rw [e2, goP_last, if_neg (fun h => by
        have := List.length_pos_iff.mpr h.2
        omega)] at hg
      rw [hg]
      exact Run.leaveC3 (.inr ⟨_, rfl⟩) rfl Tryd.func28 rfl rfl rfl (Nat.le_of_ble_eq_true rfl) (agg1 (Le.nils _ _)) (Le.int (by rw [hw, hrl]; show ((splitB l).length : Int) - 1 = (n : Int); omega)) (Le.refl _)
    case _ =>
      obtain ⟨e1, e2, e3⟩ := hfin (by assumption)
      have hx0 : (splitL l).getD n [] = [] := (hbse _).mp (by rw [← e3]; assumption)
      rw [e2, goP_last, if_pos ⟨hx0, fun h => by
        have h2 := congrArg List.length h
        rw [hrl] at h2
        have h3 : n = 0 := h2
        omega⟩] at hg
      rw [hg]
      exact Run.leaveC3 (.inr ⟨_, rfl⟩) rfl Tryd.func28 rfl rfl rfl (Nat.le_of_ble_eq_true rfl) (agg1 (Le.refl _)) (Le.refl _) (Le.refl _)
    case _ =>
      obtain ⟨e1, e2, e3⟩ := hfin (by assumption)
      rw [e2, goP_last, if_neg (fun h => hb (by rw [e3, hbse]; exact h.1))] at hg
      rw [hg]
      exact Run.leaveC3 (.inr ⟨_, rfl⟩) rfl Tryd.func28 rfl rfl rfl (Nat.le_of_ble_eq_true rfl) (agg1 (Le.nils _ _)) (Le.int (by rw [hw, hrl]; show ((splitB l).length : Int) - 1 = (n : Int); omega)) (Le.refl _)
end Go.Proofs.YtnadacaoehpdnaaDoor.V

namespace Go.Proofs.YtnadacaoehpdnaaDoor.V
set_option linter.unusedVariables false
set_option linter.unusedSimpArgs false
open Go
/-! ### what awake asks -/
def awM : List (List Int) := [[0, -1], [11, 2]]
theorem awM_ok : OkM awM := by
  refine ⟨by decide, by decide, fun i hi => ?_⟩
  have hi2 : i < 2 := hi
  rcases (by omega : i = 0 ∨ i = 1) with rfl | rfl
  · refine ⟨rfl, by decide, fun j hj => ?_⟩
    have hj2 : j < 2 := hj
    rcases (by omega : j = 0 ∨ j = 1) with rfl | rfl <;> decide
  · refine ⟨rfl, by decide, fun j hj => ?_⟩
    have hj2 : j < 2 := hj
    rcases (by omega : j = 0 ∨ j = 1) with rfl | rfl <;> decide
theorem awPrint : printS awM = bs [48, 63, 10, 98, 50, 10] := by
  unfold printS
  rw [if_pos awM_ok]; rfl
theorem awParse : parseA [48, 49, 10, 48, 10] = ([], 1, 190) := by
  unfold parseA
  rw [if_neg (by decide)]
  have e : splitL [48, 49, 10, 48, 10] = [[48, 49], [48], []] := by decide
  rw [e]
  have h1 : OkM ([] ++ [[48, 49].map ixB]) := by
    have e1 : ([48, 49] : List UInt8).map ixB = [0, 1] := by decide +kernel
    rw [e1]
    refine ⟨by decide, by decide, fun i hi => ?_⟩
    have hi2 : i < 1 := hi
    have : i = 0 := by omega
    subst this
    refine ⟨rfl, by decide, fun j hj => ?_⟩
    have hj2 : j < 2 := hj
    rcases (by omega : j = 0 ∨ j = 1) with rfl | rfl <;> decide
  rw [goP_ok (by simp) h1, goP_no (by simp) (fun h => by
    have := (h.2.2 1 (by decide)).1
    exact absurd this (by decide))]
  rfl
/-! ### two rows exchanged -/
end Go.Proofs.YtnadacaoehpdnaaDoor.V

namespace Go.Proofs.YtnadacaoehpdnaaDoor.V
set_option linter.unusedVariables false
set_option linter.unusedSimpArgs false
open Go Go.Proofs Go.RowKit
set_option maxRecDepth 100000
set_option maxHeartbeats 2000000
open Go Go.Proofs Go.Proofs.YtnadacaoehpdnaaDoor.V
theorem awake27_fn : Fn Tryd.prog 27 [] .tt := by
  refine Fn.of Tryd.f27 _ Tryd.func27 rfl (by decide) (by show 0 ≤ _; decide) tbOk 33 rfl fun S w0 gl => ?_
  refine Run.go ?_; (conv => whnf); repeat' (first | ((with_reducible refine Know.mk fun _ => ?_); conv => whnf) | ((with_reducible refine Need.mk ?_ ?_); exact nd; conv => whnf) | ((with_reducible first | refine Both.mk ?_ ?_ | refine Any.mk fun b hb => ?_ | refine AskB.dec (fun hb => ?_) (fun hb => ?_) | refine AskB.ndec (fun hb => ?_) (fun hb => ?_) | refine AskB.mk (fun hb => ?_) (fun hb => ?_)) <;> conv => whnf) | ((with_reducible first | refine Run.drawX rfl (by decide +kernel) ?_ | refine Run.drawT rfl (by decide +kernel) ?_ | refine Run.drawW rfl (by decide +kernel) ?_); conv => whnf))
  refine Run.freeze 7 rfl ?_
  refine Run.freeze 8 rfl ?_
  refine Run.go ?_; (conv => whnf); repeat' (first | ((with_reducible refine Know.mk fun _ => ?_); conv => whnf) | ((with_reducible refine Need.mk ?_ ?_); exact nd; conv => whnf) | ((with_reducible first | refine Both.mk ?_ ?_ | refine Any.mk fun b hb => ?_ | refine AskB.dec (fun hb => ?_) (fun hb => ?_) | refine AskB.ndec (fun hb => ?_) (fun hb => ?_) | refine AskB.mk (fun hb => ?_) (fun hb => ?_)) <;> conv => whnf) | ((with_reducible first | refine Run.drawX rfl (by decide +kernel) ?_ | refine Run.drawT rfl (by decide +kernel) ?_ | refine Run.drawW rfl (by decide +kernel) ?_); conv => whnf))
  refine Run.callAX (print31_fn awM) rfl rfl ⟨agg1 ?_, trivial⟩ rfl rfl rfl ?_
  · show Le (.sl 2 1 _) (.sl 2 1 (tRow.G awM))
    refine Le.sl (fun i j hi hj => ?_)
    have hj0 : j = 0 := by omega
    subst hj0
    rcases (by omega : i = 0 ∨ i = 1) with rfl | rfl
    · show Le (.sl 2 1 _) (.sl 2 1 (tI.G [0, -1]))
      refine Le.sl (fun a b ha hb => ?_)
      have hb0 : b = 0 := by omega
      subst hb0
      rcases (by omega : a = 0 ∨ a = 1) with rfl | rfl <;> exact Le.refl _
    · show Le (.sl 2 1 _) (.sl 2 1 (tI.G [11, 2]))
      refine Le.sl (fun a b ha hb => ?_)
      have hb0 : b = 0 := by omega
      subst hb0
      rcases (by omega : a = 0 ∨ a = 1) with rfl | rfl <;> exact Le.refl _
  unfold printL
  rw [awPrint, codeM_yes awM_ok]
  (conv => whnf); repeat' (first | ((with_reducible refine Know.mk fun _ => ?_); conv => whnf) | ((with_reducible refine Need.mk ?_ ?_); exact nd; conv => whnf) | ((with_reducible first | refine Both.mk ?_ ?_ | refine Any.mk fun b hb => ?_ | refine AskB.dec (fun hb => ?_) (fun hb => ?_) | refine AskB.ndec (fun hb => ?_) (fun hb => ?_) | refine AskB.mk (fun hb => ?_) (fun hb => ?_)) <;> conv => whnf) | ((with_reducible first | refine Run.drawX rfl (by decide +kernel) ?_ | refine Run.drawT rfl (by decide +kernel) ?_ | refine Run.drawW rfl (by decide +kernel) ?_); conv => whnf))
  refine Run.callBX (parse28_fn [48, 49, 10, 48, 10]) rfl rfl ⟨Le.refl _, trivial⟩ rfl rfl rfl ?_
  unfold parseL
  rw [awParse]
  (conv => whnf); repeat' (first | ((with_reducible refine Know.mk fun _ => ?_); conv => whnf) | ((with_reducible refine Need.mk ?_ ?_); exact nd; conv => whnf) | ((with_reducible first | refine Both.mk ?_ ?_ | refine Any.mk fun b hb => ?_ | refine AskB.dec (fun hb => ?_) (fun hb => ?_) | refine AskB.ndec (fun hb => ?_) (fun hb => ?_) | refine AskB.mk (fun hb => ?_) (fun hb => ?_)) <;> conv => whnf) | ((with_reducible first | refine Run.drawX rfl (by decide +kernel) ?_ | refine Run.drawT rfl (by decide +kernel) ?_ | refine Run.drawW rfl (by decide +kernel) ?_); conv => whnf))
  all_goals first
    | exact absurd (by decide) hb
    | exact absurd hb (by decide)
    | exact Run.leave (ts := [0]) (.inr ⟨_, rfl⟩) rfl Tryd.func27 rfl (Le.tt'.trans (Le.bool (by decide)))
    | exact Run.leave (ts := [0]) (.inr ⟨_, rfl⟩) rfl Tryd.func27 rfl (Le.tt' (by decide))
    | exact Run.leave (ts := [0]) (.inr ⟨_, rfl⟩) rfl Tryd.func27 rfl (Le.refl _)
end Go.Proofs.YtnadacaoehpdnaaDoor.V

namespace Go.Proofs.YtnadacaoehpdnaaDoor.V
set_option linter.unusedVariables false
set_option linter.unusedSimpArgs false
open Go Go.RowKit
structure StatS (ops : Array Oper) (all : List Nat) : Prop where
  edge : ∀ (i : Nat) o, ops[i]? = some o → ∀ e ∈ o.after, Region.binds .any e = true → e.on < i
  look : ∀ (i : Nat) o, i < ops.size → ops[i]? = some o → ∀ s ∈ looks ops o, ∀ j, j < ops.size → dstOf ops j = some s → ∃ e ∈ o.after, Region.binds .any e = true ∧ e.on = j
  one : ∀ i j d, i < ops.size → j < ops.size → dstOf ops i = some d → dstOf ops j = some d → i = j
/-- What an op that only reads gives, once its operands are there. -/
def OpSemR (C : Ctx) (h : Heap) (ops : Array Oper) (E : Env) (i : Nat) : Prop :=
  ∃ o, ops[i]? = some o ∧ okD C.N o.dst = true ∧ o.guard = none ∧ ∀ env ι a w, Rel C env h ι a w → (∀ y ∈ o.op.operands, VR w (okB C h ι w) (ev E y) (rf h ι) (a.eval y)) → ∃ x, Quiet C h o (ev E) x ∧ ∀ d, o.dst = some d → Le x (E d)
/-- The same, worked out. -/
def opAt (C : Ctx) (h : Heap) (ops : Array Oper) (E : Env) (i : Nat) : Prop := match ops.toList[i]? with
  | some o => withDst o fun dst => cond (okD C.N dst) (cond o.guard.isNone (qop C o (ev E) h (fun x => fv x fun x => match dst with | none => True | some d => Le x (E d)) False) False) False
  | none => False
theorem opAt_ok {C : Ctx} {h : Heap} {ops : Array Oper} {E : Env} {i : Nat} (hq : opAt C h ops E i) : OpSemR C h ops E i := by
  unfold opAt at hq
  cases ho : ops.toList[i]? with
  | none => rw [ho] at hq; exact hq.elim
  | some o =>
    rw [ho] at hq
    simp only [withDst_eq] at hq
    cases hd : okD C.N o.dst with
    | false => rw [hd] at hq; exact hq.elim
    | true =>
      rw [hd, cond_true] at hq
      cases hg : o.guard with
      | some g => rw [hg] at hq; exact hq.elim
      | none =>
        rw [hg] at hq
        simp only [Option.isNone_none, cond_true] at hq
        refine ⟨o, by simpa using ho, hd, hg, fun env ι a w R hρ => ?_⟩
        rcases qop_quiet R hρ hq with hf | ⟨x, hx, hqx⟩
        · exact hf.elim
        · refine ⟨x, hqx, fun d hdd => ?_⟩
          have hx := (fv_eq _ _).mp hx
          rw [hdd] at hx
          exact hx
def allowed (ops : Array Oper) (all ms done : List Nat) (i : Nat) : Bool := !(all.any (Nat.beq i)) && ms.all (fun m => !reachB ops 40 i m) && done.all (fun m => !reachB ops 40 m i)
/-- One stage behind the other: what the reads give at each, what the memory's statements make of it. -/
def StageOK (C : Ctx) (ops : Array Oper) (k : List Item) (all : List Nat) : List Nat → List Nat → Env → Heap → Prop
  | [], done, F, H => (∀ i, i < ops.size → allowed ops all [] done i = true → OpSemR C H ops F i) ∧ Run C (.inRegion ops [] :: k) F H
  | m :: ms, done, F, H => (∀ i, i < ops.size → allowed ops all (m :: ms) done i = true → OpSemR C H ops F i) ∧ (∀ m' ∈ ms, reachB ops 40 m' m = true) ∧ m < ops.size ∧
      ∃ F' H', (∀ (listed : Array Bool) rest, listed.size = ops.size → (∀ o, ops[m]? = some o → ∀ e ∈ o.after, Region.binds .any e = true → listed.getD e.on false = true) →
          Run C (.inRegion ops rest :: k) (envX ops ops.size F' (listed.setIfInBounds m true)) H' → Run C (.inRegion ops (m :: rest) :: k) (envX ops ops.size F listed) H) ∧ StageOK C ops k all ms (m :: done) F' H'
section
variable {C : Ctx} {ops : Array Oper}
theorem stageOK_lt {k : List Item} {all : List Nat} : ∀ {ms done : List Nat} {F : Env} {H : Heap}, StageOK C ops k all ms done F H → ∀ m ∈ ms, m < ops.size
  | [], _, _, _, _, m, h => absurd h List.not_mem_nil
  | m0 :: ms, _, _, _, hs, m, h => by
    obtain ⟨_, _, h1, _, _, _, h2⟩ := hs
    rcases List.mem_cons.mp h with rfl | h
    · exact h1
    · exact stageOK_lt h2 m h
theorem quiet_step {k : List Item} {E : Env} {h : Heap} {all : List Nat} (S : StatS ops all) {i : Nat} {rest : List Nat} {listed : Array Bool} (hsz : listed.size = ops.size) (hi : i < ops.size) (hsem : OpSemR C h ops E i)
    (hpre : ∀ o, ops[i]? = some o → ∀ e ∈ o.after, Region.binds .any e = true → listed.getD e.on false = true)
    (hrec : Run C (.inRegion ops rest :: k) (envX ops ops.size E (listed.setIfInBounds i true)) h) : Run C (.inRegion ops (i :: rest) :: k) (envX ops ops.size E listed) h := by
  obtain ⟨o, ho, hd, hg, hsem⟩ := hsem
  have hdsti : dstOf ops i = o.dst := by unfold dstOf; rw [show ops.toList[i]? = some o by simpa using ho]; rfl
  have hlk : ∀ s ∈ looks ops o, envX ops ops.size E listed s = E s := by
    intro s hs2
    unfold envX
    rw [unl_false (fun j hjp hj => ?_)]
    · rfl
    · obtain ⟨e, h1, h2, h3⟩ := S.look i o hi ho s hs2 j hjp hj
      have := hpre o ho e h1 h2
      rw [h3] at this
      have hjl : j < listed.size := by rw [hsz]; exact dstOf_lt hj
      rw [getD_two (b := false) hjl]; exact this
  have hle : ∀ (x : AV), (∀ d, o.dst = some d → Le x (E d)) → ∀ s, Le (putE (envX ops ops.size E listed) o.dst x s) (envX ops ops.size E (listed.setIfInBounds i true) s) := by
    intro x hx s
    by_cases hsd : o.dst = some s
    · rw [hsd]
      simp only [putE, upd_same]
      unfold envX
      cases unl ops ops.size (listed.setIfInBounds i true) s with
      | true => exact Le.u _
      | false => exact hx s hsd
    · have e1 : putE (envX ops ops.size E listed) o.dst x s = envX ops ops.size E listed s := by
        cases hq : o.dst with
        | none => rfl
        | some d => exact upd_other _ _ (fun e => hsd (by rw [hq, e]))
      rw [e1]
      unfold envX
      cases hu : unl ops ops.size (listed.setIfInBounds i true) s with
      | true => exact Le.u _
      | false =>
        have : unl ops ops.size listed s = false := by
          refine unl_false fun j hjp hj => ?_
          unfold unl at hu
          rw [List.any_eq_false] at hu
          have := hu j (List.mem_range.mpr hjp)
          simp only [hj, beq_self_eq_true, Bool.and_true, Bool.not_eq_true, Bool.not_eq_false'] at this
          rw [getD_set] at this
          by_cases hij : i = j
          · subst hij; exact absurd (hdsti ▸ hj) hsd
          · rwa [if_neg hij] at this
        rw [this]; exact Le.refl _
  refine Run.of_step fun ι a w b cs _ R => ?_
  have hopn : ∀ y ∈ o.op.operands, VR w (okB C h ι w) (ev E y) (rf h ι) (a.eval y) := fun y hy => by
    have := ev_ok R y
    cases y with
    | tmp s => have e : ev (envX ops ops.size E listed) (.tmp s) = ev E (.tmp s) := hlk s (looks_tmp hy)
               rw [e] at this; exact this
    | const v => exact this
    | global g => exact this
    | func f => exact this
  obtain ⟨x, hq, hx⟩ := hsem _ ι a w R hopn
  obtain ⟨v, w', ι', hst, R', hv⟩ := hq _ ι a w R hopn b k cs ops i rest ho (wanted_none hg _)
  exact ⟨_, h, ι', _, w', _, hst, (R'.put hv hd).weaken (hle x hx) (fun _ => MOle.refl _), hrec⟩
theorem stages_ok {k : List Item} {all : List Nat} (S : StatS ops all) : ∀ (l : List Nat) (ms done : List Nat) (F : Env) (H : Heap) (listed : Array Bool), StageOK C ops k all ms done F H → (∀ i, i ∈ all → i ∈ ms ∨ i ∈ done) → listed.size = ops.size → Closed ops listed → Sched ops listed l →
    (∀ m ∈ ms, listed.getD m true = false) → (∀ m ∈ done, listed.getD m false = true) → Run C (.inRegion ops l :: k) (envX ops ops.size F listed) H := by
  intro l
  induction l with
  | nil =>
    intro ms done F H listed hst hall hsz hcl hs hms hdone
    have hs : ∀ j, j < ops.size → listed.getD j true = true := fun j hj => hs j hj
    cases ms with
    | cons m ms =>
      have h1 := stageOK_lt hst m (List.mem_cons_self ..)
      have h2 := hms m (List.mem_cons_self ..)
      rw [hs m h1] at h2; cases h2
    | nil =>
      refine Run.weaken (fun s => ?_) (fun _ => MOle.refl _) hst.2
      unfold envX
      rw [unl_false (fun j hj _ => hs j hj)]
      exact Le.refl _
  | cons i rest ih =>
    intro ms done F H listed hst hall hsz hcl hs hms hdone
    obtain ⟨hi, hil, hpre, hs'⟩ := hs
    have hmv : ∀ m, listed.getD m true = false → listed.getD m false = false ∨ True := fun _ _ => .inr trivial
    by_cases hia : i ∈ ms
    · cases ms with
      | nil => exact absurd hia List.not_mem_nil
      | cons m ms =>
        obtain ⟨hq, htot, hmlt, F', H', hM, hnext⟩ := hst
        have him : i = m := by
          rcases List.mem_cons.mp hia with h | h
          · exact h
          · exfalso
            have h1 := reach_listed hcl 40 i hpre (htot i h)
            have h2 := hms m (List.mem_cons_self ..)
            rw [getD_two (b := true) (by omega)] at h1
            rw [h1] at h2; cases h2
        subst him
        refine hM listed rest hsz hpre (ih ms (i :: done) F' H' (listed.setIfInBounds i true) hnext (fun j hj => ?_) (by simpa using hsz) (hcl.set hpre) hs' (fun m hm => ?_) (fun m hm => ?_))
        · rcases hall j hj with h | h
          · rcases List.mem_cons.mp h with h | h
            · exact .inr (List.mem_cons.mpr (.inl h))
            · exact .inl h
          · exact .inr (List.mem_cons_of_mem _ h)
        · rw [getD_set]
          split
          · rename_i e
            exfalso
            subst e
            have h1 := reach_listed hcl 40 i hpre (htot i hm)
            rw [getD_two (b := true) (by omega), hil] at h1; cases h1
          · exact hms m (List.mem_cons_of_mem _ hm)
        · rcases List.mem_cons.mp hm with rfl | hm
          · rw [getD_two (b := true) (by simpa [hsz] using hi), getD_set, if_pos rfl]
          · exact getD_mono (hdone m hm)
    · have hnd : i ∉ done := fun h => by
        have := hdone i h
        rw [getD_two (b := true) (by omega), hil] at this; cases this
      have hna : i ∉ all := fun h => (hall i h).elim hia hnd
      have hal : allowed ops all ms done i = true := by
        unfold allowed
        rw [Bool.and_eq_true, Bool.and_eq_true]
        refine ⟨⟨?_, List.all_eq_true.mpr fun m hm => ?_⟩, List.all_eq_true.mpr fun m hm => ?_⟩
        · rw [Bool.not_eq_true', List.any_eq_false]
          intro x hx hb
          exact hna (by rw [Nat.eq_of_beq_eq_true hb]; exact hx)
        · cases hr : reachB ops 40 i m with
          | false => rfl
          | true =>
            have h1 := reach_listed hcl 40 i hpre hr
            have h2 := hms m hm
            rw [getD_two (b := true) (by rw [hsz]; exact stageOK_lt hst m hm), h2] at h1; cases h1
        · cases hr : reachB ops 40 m i with
          | false => rfl
          | true =>
            have h1 := reach_listed hcl 40 m (fun o ho e he hb => hcl m o ho (hdone m hm) e he hb) hr
            rw [getD_two (b := true) (by omega), hil] at h1; cases h1
      have hsem : OpSemR C H ops F i := by
        cases ms with
        | nil => exact hst.1 i hi hal
        | cons m ms => exact hst.1 i hi hal
      exact quiet_step S hsz hi hsem hpre (ih ms done F H (listed.setIfInBounds i true) hst hall (by simpa using hsz) (hcl.set hpre) hs' (fun m hm => by
        rw [getD_set, if_neg (fun e => hia (by rw [e]; exact hm))]; exact hms m hm) (fun m hm => getD_mono (hdone m hm)))
def drawStatS (ops : Array Oper) : Bool := (List.range ops.size).all fun i => match ops.toList[i]? with
  | none => false
  | some o => (o.after.toList.all fun e => !Region.binds .any e || Nat.blt e.on i) &&
    ((looks ops o).all fun s => (List.range ops.size).all fun j => match dstOf ops j with
      | some d => !(Nat.beq d s) || (o.after.toList.any fun e => Region.binds .any e && Nat.beq e.on j)
      | none => true) &&
    ((List.range ops.size).all fun j => Nat.beq j i || match dstOf ops j, o.dst with
      | some d, some d' => !(Nat.beq d d')
      | _, _ => true)
theorem StatS.of {all : List Nat} (hs : drawStatS ops = true) : StatS ops all := by
  unfold drawStatS at hs
  have key : ∀ (i : Nat) o, ops[i]? = some o → ((o.after.toList.all fun e => !Region.binds .any e || Nat.blt e.on i) = true ∧
    ((looks ops o).all fun s => (List.range ops.size).all fun j => match dstOf ops j with
      | some d => !(Nat.beq d s) || (o.after.toList.any fun e => Region.binds .any e && Nat.beq e.on j)
      | none => true) = true) ∧
    ((List.range ops.size).all fun j => Nat.beq j i || match dstOf ops j, o.dst with
      | some d, some d' => !(Nat.beq d d')
      | _, _ => true) = true := by
    intro i o ho
    have hi : i < ops.size := (Array.getElem?_eq_some_iff.1 ho).1
    have := List.all_eq_true.mp hs i (List.mem_range.mpr hi)
    have ho' : ops.toList[i]? = some o := by simpa using ho
    rw [ho'] at this
    simpa only [Bool.and_eq_true] using this
  refine ⟨?_, ?_, ?_⟩
  · intro i o ho e he hb
    have := List.all_eq_true.mp (key i o ho).1.1 e (by simpa using he)
    rw [hb] at this
    simpa [Nat.blt_eq] using this
  · intro i o hip ho s hs' j hjp hj
    have h1 := List.all_eq_true.mp (key i o ho).1.2 s hs'
    have h2 := List.all_eq_true.mp h1 j (List.mem_range.mpr hjp)
    rw [hj] at h2
    simp only [Nat.beq_refl, Bool.not_true, Bool.false_or] at h2
    obtain ⟨e, he, h3⟩ := List.any_eq_true.mp h2
    rw [Bool.and_eq_true] at h3
    exact ⟨e, by simpa using he, h3.1, Nat.eq_of_beq_eq_true h3.2⟩
  · intro i j d hip hjp hi hj
    have hi' := hi
    unfold dstOf at hi'
    cases ho : ops.toList[i]? with
    | none => rw [ho] at hi'; cases hi'
    | some o =>
      rw [ho] at hi'
      have hd : o.dst = some d := hi'
      have h1 := List.all_eq_true.mp (key i o (by simpa using ho)).2 j (List.mem_range.mpr hjp)
      rw [hj, hd] at h1
      simp only [Nat.beq_refl, Bool.not_true, Bool.or_false] at h1
      exact (Nat.eq_of_beq_eq_true h1).symm
theorem Run.drawS {id : Nat} {k : List Item} {env : Env} {h : Heap} (all : List Nat) (F : Env) (hm : C.P.follows .mixedOrders = true) (hs : drawStatS ops = true) (hF : ∀ s, (∀ j, j < ops.size → dstOf ops j ≠ some s) → Le (env s) (F s))
    (hst : StageOK C ops k all all [] F h) : Run C (.code (.region id ops true) :: k) env h := by
  have S : StatS ops all := StatS.of hs
  refine ⟨fun ι a w b cs hb hkd R => ?_⟩
  have hf : ∀ j, (Array.replicate ops.size false).getD j false = false := fun j => by
    rw [Array.getD_eq_getD_getElem?, Array.getElem?_replicate]; split <;> rfl
  have hf' : ∀ j, j < ops.size → (Array.replicate ops.size false).getD j true = false := fun j hj => by simp [hj]
  have hrun := stages_ok (C := C) (k := k) S (Region.schedule (C.P.follows .mixedOrders) ops (w.tape w.drawn (.order b.fn id))) all [] F h (Array.replicate ops.size false) hst (fun i hi => .inl hi) (by simp)
    (fun i o ho hl => by rw [hf] at hl; cases hl) (sched_of hm S.edge _) (fun m hm => hf' m (stageOK_lt hst m hm)) (fun m hm => absurd hm List.not_mem_nil)
  have Rd : Rel C env h ι a { w with drawn := w.drawn + 1 } := R.grow ((Below.refl _ _).drew)
  have R' : Rel C (envX ops ops.size F (Array.replicate ops.size false)) h ι a { w with drawn := w.drawn + 1 } := Rd.weaken (fun s => by
    unfold envX
    cases hu : unl ops ops.size (Array.replicate ops.size false) s with
    | true => exact Le.u _
    | false =>
      refine hF s fun j hjp hj => ?_
      unfold unl at hu
      rw [List.any_eq_false] at hu
      have := hu j (List.mem_range.mpr hjp)
      simp [hj, hjp] at this) (fun _ => MOle.refl _)
  obtain ⟨e, w2, fr, h1, h2, h3⟩ := hrun.run ι a _ b cs hb hkd R'
  exact ⟨e, w2, fr, h1, Comes.of_steps (.one step_region_draw) h2, h3⟩
/-- Slots behind a statement that changes all of them in one way. -/
theorem mask_step {o : Oper} {m : Nat} (ho : ops.toList[m]? = some o) {F F' : Env} {listed : Array Bool} (τ : AV → AV) (hu : τ .u = .u) (y : AV) (hF : ∀ s, o.dst ≠ some s → Le (τ (F s)) (F' s)) (hy : ∀ d, o.dst = some d → Le y (F' d)) (s : Nat) :
    Le (putE (fun s => τ (envX ops ops.size F listed s)) o.dst y s) (envX ops ops.size F' (listed.setIfInBounds m true) s) := by
  have hdst : dstOf ops m = o.dst := by unfold dstOf; rw [ho]; rfl
  unfold envX
  cases hul : unl ops ops.size (listed.setIfInBounds m true) s with
  | true => exact Le.u _
  | false =>
    by_cases hsd : o.dst = some s
    · rw [hsd]
      simp only [putE, upd_same]
      exact hy s hsd
    · have e1 : putE (fun s => τ (cond (unl ops ops.size listed s) .u (F s))) o.dst y s = τ (cond (unl ops ops.size listed s) .u (F s)) := by
        cases hq : o.dst with
        | none => rfl
        | some d =>
          have hsd' : s ≠ d := fun e => hsd (by rw [hq, e])
          show upd (fun s => τ (cond (unl ops ops.size listed s) .u (F s))) d y s = _
          rw [upd_other _ _ hsd']
      rw [e1]
      have : unl ops ops.size listed s = false := by
        refine unl_false fun j hjp hj => ?_
        unfold unl at hul
        rw [List.any_eq_false] at hul
        have := hul j (List.mem_range.mpr hjp)
        simp only [hj, beq_self_eq_true, Bool.and_true, Bool.not_eq_true, Bool.not_eq_false'] at this
        rw [getD_set] at this
        by_cases hij : m = j
        · subst hij; exact absurd (hdst ▸ hj) hsd
        · rwa [if_neg hij] at this
      rw [this]
      exact hF s hsd
theorem mask_look {all : List Nat} (S : StatS ops all) {o : Oper} {m : Nat} (ho : ops[m]? = some o) (hm : m < ops.size) {F : Env} {listed : Array Bool} (hsz : listed.size = ops.size) (hpre : ∀ o, ops[m]? = some o → ∀ e ∈ o.after, Region.binds .any e = true → listed.getD e.on false = true)
    {s : Nat} (hs : s ∈ looks ops o) : envX ops ops.size F listed s = F s := by
  unfold envX
  rw [unl_false (fun j hjp hj => ?_)]
  · rfl
  · obtain ⟨e, h1, h2, h3⟩ := S.look m o hm ho s hs j hjp hj
    have := hpre o ho e h1 h2
    rw [h3] at this
    have hjl : j < listed.size := by rw [hsz]; exact dstOf_lt hj
    rw [getD_two (b := false) hjl]; exact this
theorem lst_app {l1 : List (Nat × AV)} {s : Nat} (h : ∀ p ∈ l1, p.1 ≠ s) : ∀ l0 : List (Nat × AV), lst (l0 ++ l1) s = lst l0 s
  | [] => by
    induction l1 with
    | nil => rfl
    | cons p l ih =>
      have h1 := h p (List.mem_cons_self ..)
      have h2 := ih (fun q hq => h q (List.mem_cons_of_mem _ hq))
      simp only [List.nil_append] at h2 ⊢
      unfold lst
      rw [beq_ne (fun e => h1 e.symm)]
      exact h2
  | p :: l => by
    have ih := lst_app h l
    simp only [List.cons_append]
    unfold lst
    rw [ih]
/-- What the statements will write is not yet there. -/
theorem lst_dsts {l0 l1 : List (Nat × AV)} (hb : (l1.all fun p => (List.range ops.size).any fun j => dstOf ops j == some p.1) = true) (s : Nat) (hs : ∀ j, j < ops.size → dstOf ops j ≠ some s) : Le (lst l0 s) (lst (l0 ++ l1) s) := by
  rw [lst_app (fun p hp e => ?_)]
  · exact Le.refl _
  · have h1 := List.all_eq_true.mp hb p hp
    obtain ⟨j, hj, h2⟩ := List.any_eq_true.mp h1
    have h3 : dstOf ops j = some p.1 := by simpa using h2
    rw [e] at h3
    exact hs j (List.mem_range.mp hj) h3
/-- A statement that makes or changes memory, at a stage. -/
theorem Run.stageOp {all : List Nat} (S : StatS ops all) {k : List Item} {o : Oper} {m : Nat} {rest : List Nat} {listed : Array Bool} {F F' : Env} {H H' : Heap} (τ : AV → AV) (y : AV) (ho : ops[m]? = some o) (hm : m < ops.size) (hd : okD C.N o.dst = true) (hg : o.guard = none) (hu : τ .u = .u)
    (hF : ∀ s, o.dst ≠ some s → Le (τ (F s)) (F' s)) (hy : ∀ d, o.dst = some d → Le y (F' d)) (hsz : listed.size = ops.size) (hpre : ∀ o, ops[m]? = some o → ∀ e ∈ o.after, Region.binds .any e = true → listed.getD e.on false = true)
    (hop : ∀ G : Env, (∀ s ∈ looks ops o, G s = F s) → ∀ (K : Env → Heap → AV → Prop) stop, K (fun s => τ (G s)) H' y → aop C o G H K stop)
    (next : Run C (.inRegion ops rest :: k) (envX ops ops.size F' (listed.setIfInBounds m true)) H') : Run C (.inRegion ops (m :: rest) :: k) (envX ops ops.size F listed) H := by
  refine op_ok (K := fun env' h' x => env' = (fun s => τ (envX ops ops.size F listed s)) ∧ h' = H' ∧ x = y) ho hd (fun env' h' x ⟨e1, e2, e3⟩ => ?_) (fun _ _ _ _ => wanted_none hg _) (hop _ (fun s hs => mask_look S ho hm hsz hpre hs) _ _ ⟨rfl, rfl, rfl⟩)
  subst e1; subst e2; subst e3
  exact Run.weaken (mask_step (show ops.toList[m]? = some o by simpa using ho) τ hu x hF hy) (fun _ => MOle.refl _) next
/-- The same, where an inner row is taken out by name first. -/
theorem Run.stageTake {all : List Nat} (S : StatS ops all) {k : List Item} {o : Oper} {m : Nat} {rest : List Nat} {listed : Array Bool} {F F' : Env} {H H' : Heap} (s q : Nat) {id i e sz n oo ei szi : Nat} {get0 : Nat → Nat → AV} {len : Nat → Nat} {get : Nat → Nat → Nat → AV} (τ : AV → AV) (y : AV)
    (ho : ops[m]? = some o) (hm : m < ops.size) (hd : okD C.N o.dst = true) (hg : o.guard = none) (hu : τ (scrT id q .u) = .u) (hsl : s ∈ looks ops o) (hsd : o.dst ≠ some s) (hFs : F s = .mrow id i) (hH : H id = .mat e sz n get0 oo ei szi len get none) (hne : Nat.beq id q = false)
    (hF : ∀ x, o.dst ≠ some x → Le (τ (scrT id q (F x))) (F' x)) (hFs' : F' s = .u) (hy : ∀ d, o.dst = some d → Le y (F' d)) (hsz : listed.size = ops.size) (hpre : ∀ o, ops[m]? = some o → ∀ e ∈ o.after, Region.binds .any e = true → listed.getD e.on false = true)
    (hop : ∀ G : Env, (∀ x ∈ looks ops o, x ≠ s → G x = scrT id q (F x)) → G s = .row q → ∀ (K : Env → Heap → AV → Prop) stop, K (fun x => τ (G x)) H' y → aop C o G (upd (upd (fun k => scrM (scrT id q) (H k)) id (.mat e sz n get0 oo ei szi len get (some i))) q (.row ei szi (len i) (get i))) K stop)
    (next : Run C (.inRegion ops rest :: k) (envX ops ops.size F' (listed.setIfInBounds m true)) H') : Run C (.inRegion ops (m :: rest) :: k) (envX ops ops.size F listed) H := by
  refine Run.takeM s q (by rw [mask_look S ho hm hsz hpre hsl]; exact hFs) hH hne ?_
  refine op_ok (K := fun env' h' x => env' = (fun x => τ (upd (fun k => scrT id q (envX ops ops.size F listed k)) s (.row q) x)) ∧ h' = H' ∧ x = y) ho hd (fun env' h' x ⟨e1, e2, e3⟩ => ?_) (fun _ _ _ _ => wanted_none hg _)
    (hop _ (fun x hx hxs => by rw [upd_other _ _ hxs, mask_look S ho hm hsz hpre hx]) (upd_same _ _ _) _ _ ⟨rfl, rfl, rfl⟩)
  subst e1; subst e2; subst e3
  refine Run.weaken (fun x' => ?_) (fun _ => MOle.refl _) next
  by_cases hx : x' = s
  · subst hx
    have hz : envX ops ops.size F' (listed.setIfInBounds m true) x' = .u := by
      unfold envX
      rw [hFs']
      cases unl ops ops.size (listed.setIfInBounds m true) x' <;> rfl
    rw [hz]
    exact Le.u _
  · have h1 := mask_step (show ops.toList[m]? = some o by simpa using ho) (F := F) (F' := F') (listed := listed) (fun z => τ (scrT id q z)) hu x hF hy x'
    have h2 : putE (fun x => τ (upd (fun k => scrT id q (envX ops ops.size F listed k)) s (.row q) x)) o.dst x x' = putE (fun s => τ (scrT id q (envX ops ops.size F listed s))) o.dst x x' := by
      cases hq : o.dst with
      | none => show τ (upd _ s (.row q) x') = _; rw [upd_other _ _ hx]; rfl
      | some d =>
        by_cases hxd : x' = d
        · subst hxd; simp only [putE, upd_same]
        · simp only [putE]; rw [upd_other _ _ hxd, upd_other _ _ hxd, upd_other _ _ hx]
    rw [h2]
    exact h1
end
end Go.Proofs.YtnadacaoehpdnaaDoor.V

namespace Go.Proofs.YtnadacaoehpdnaaDoor.V
set_option linter.unusedVariables false
set_option linter.unusedSimpArgs false
open Go Go.Proofs Go.RowKit
set_option maxRecDepth 100000
set_option maxHeartbeats 1000000
/-- The rows, each of the first ones with one state more. -/
def rowAdd (rows : List (List Int)) (st : List Int) : Nat → List (List Int)
  | 0 => rows
  | j + 1 => (rowAdd rows st j).set j ((rowAdd rows st j).getD j [] ++ [st.getD j 0])
theorem rowAdd_len (rows : List (List Int)) (st : List Int) : ∀ j, (rowAdd rows st j).length = rows.length
  | 0 => rfl
  | j + 1 => by unfold rowAdd; rw [List.length_set, rowAdd_len rows st j]
theorem rowAdd_at (rows : List (List Int)) (st : List Int) : ∀ j k, (rowAdd rows st j).getD k [] = if k < j ∧ k < rows.length then rows.getD k [] ++ [st.getD k 0] else rows.getD k []
  | 0, k => by rw [if_neg (by omega)]; rfl
  | j + 1, k => by
    have ih := rowAdd_at rows st j
    have hl := rowAdd_len rows st j
    unfold rowAdd
    rw [List.getD, List.getElem?_set]
    by_cases e : j = k
    · subst e
      by_cases h : j < rows.length
      · rw [if_pos rfl, if_pos (by omega), if_pos ⟨by omega, h⟩, ih j, if_neg (by omega)]; rfl
      · rw [if_pos rfl, if_neg (by omega), if_neg (by omega), List.getD, List.getElem?_eq_none (by omega)]
    · rw [if_neg e]
      show (rowAdd rows st j).getD k [] = _
      rw [ih k]
      by_cases h : k < j ∧ k < rows.length
      · rw [if_pos h, if_pos ⟨by omega, h.2⟩]
      · rw [if_neg h, if_neg (by omega)]
def ofE (t : Tab) (o : Int) : Nat → List Int × List (List Int)
  | 0 => ([], List.replicate t.wits.length [])
  | c + 1 => if (stE t c o t.wits.length).2 < 2 then ofE t o c else ((ofE t o c).1 ++ [(c : Int)], rowAdd (ofE t o c).2 (stE t c o t.wits.length).1 t.wits.length)
theorem ofE_ok (t : Tab) (o : Int) : ∀ c, (ofE t o c).1.length ≤ c ∧ (ofE t o c).2.length = t.wits.length ∧ ∀ k, k < t.wits.length → ((ofE t o c).2.getD k []).length = (ofE t o c).1.length
  | 0 => ⟨Nat.le_refl _, by simp [ofE], fun k hk => by simp [ofE, List.getD, hk]⟩
  | c + 1 => by
    obtain ⟨h1, h2, h3⟩ := ofE_ok t o c
    unfold ofE
    split
    · exact ⟨by omega, h2, h3⟩
    · refine ⟨by simp; omega, by rw [rowAdd_len, h2], fun k hk => ?_⟩
      rw [rowAdd_at, if_pos ⟨hk, by omega⟩]
      have := h3 k hk
      rw [List.length_append, List.length_append, this]; rfl
noncomputable def ofL (t : Tab) (o : Int) : AV := tupL [mxA (if siteCode t o = 0 then (ofE t o t.cols.length).2 else []), tI.L (if siteCode t o = 0 then (ofE t o t.cols.length).1 else []), .int .i64 (siteCode t o)]
theorem ofL_no {t : Tab} (o : Int) (h : ¬ OkT t) : ofL t o = tupL [mxA [], tI.L [], .int .i64 121] := by
  have hc : siteCode t o = 121 := if_pos h
  unfold ofL
  rw [hc, if_neg (by decide), if_neg (by decide)]
theorem ofL_bad {t : Tab} {o : Int} (h : OkT t) (hb : badO o) : ofL t o = tupL [mxA [], tI.L [], .int .i64 2] := by
  have hc : siteCode t o = 2 := by unfold siteCode; rw [if_neg (not_not_intro h), if_pos hb]
  unfold ofL
  rw [hc, if_neg (by decide), if_neg (by decide)]
theorem ofL_ok {t : Tab} {o : Int} (h : OkT t) (hb : ¬ badO o) : ofL t o = tupL [mxA (ofE t o t.cols.length).2, tI.L (ofE t o t.cols.length).1, .int .i64 0] := by
  have hc : siteCode t o = 0 := by unfold siteCode; rw [if_neg (not_not_intro h), if_neg hb]
  unfold ofL
  rw [hc, if_pos rfl, if_pos rfl]
theorem mx_out (m : List (List Int)) (g0 : Nat → Nat → AV) : Le (.sl m.length 1 (fun i j => cond (Nat.beq j 0) (.sl (m.getD i []).length tI.sz (fun a b => tI.G (m.getD i []) a b)) (g0 i j))) (tRow.L m) := Le.sl fun i j hi hj => by
  obtain rfl : j = 0 := by omega
  exact Le.refl _
end Go.Proofs.YtnadacaoehpdnaaDoor.V

namespace Go.Proofs.YtnadacaoehpdnaaDoor.V
set_option linter.unusedVariables false
set_option linter.unusedSimpArgs false
open Go Go.Proofs Go.RowKit
set_option maxRecDepth 100000
def cV (t : Tab) (c i w : Nat) : Int := if lacB t c w = true then -1 else (i : Int)
def clsJ (t : Tab) (c i : Nat) (ws row : List Int) : Nat → List Int
  | 0 => row
  | k + 1 => (clsJ t c i ws row k).set (ws.getD k 0).toNat (cV t c i (ws.getD k 0).toNat)
def clsI (t : Tab) (c : Nat) (l : List Rd) (n : Nat) : Nat → List Int
  | 0 => List.replicate n 0
  | i + 1 => clsJ t c i (l.getD i rd0).wits (clsI t c l n i) (l.getD i rd0).wits.length
theorem clsJ_len (t : Tab) (c i : Nat) (ws row : List Int) : ∀ k, (clsJ t c i ws row k).length = row.length
  | 0 => rfl
  | k + 1 => by unfold clsJ; rw [List.length_set, clsJ_len t c i ws row k]
theorem clsI_len (t : Tab) (c : Nat) (l : List Rd) (n : Nat) : ∀ i, (clsI t c l n i).length = n
  | 0 => by simp [clsI]
  | i + 1 => by unfold clsI; rw [clsJ_len, clsI_len t c l n i]
theorem set_at {l : List Int} {i k : Nat} {x : Int} (hi : i < l.length) : (l.set i x).getD k 0 = if k = i then x else l.getD k 0 := by
  rw [List.getD, List.getElem?_set]
  by_cases e : i = k
  · subst e; rw [if_pos rfl, if_pos hi, if_pos rfl]; rfl
  · rw [if_neg e, if_neg (fun h => e h.symm)]; rfl
theorem clsJ_no (t : Tab) (c i : Nat) {ws row : List Int} {w : Nat} : ∀ k, (∀ q, q < k → 0 ≤ ws.getD q 0 ∧ (ws.getD q 0).toNat < row.length) → (∀ q, q < k → ws.getD q 0 ≠ (w : Int)) → (clsJ t c i ws row k).getD w 0 = row.getD w 0
  | 0, _, _ => rfl
  | k + 1, h, hn => by
    have hk := h k (by omega)
    have hnk := hn k (by omega)
    unfold clsJ
    rw [set_at (by rw [clsJ_len]; exact hk.2), if_neg (by omega)]
    exact clsJ_no t c i k (fun q hq => h q (by omega)) (fun q hq => hn q (by omega))
theorem clsJ_yes (t : Tab) (c i : Nat) {ws row : List Int} {w : Nat} : ∀ k, (∀ q, q < k → 0 ≤ ws.getD q 0 ∧ (ws.getD q 0).toNat < row.length) → (∃ q, q < k ∧ ws.getD q 0 = (w : Int)) → (clsJ t c i ws row k).getD w 0 = cV t c i w
  | 0, _, ⟨q, hq, _⟩ => absurd hq (Nat.not_lt_zero _)
  | k + 1, h, ⟨q, hq, he⟩ => by
    have hk := h k (by omega)
    unfold clsJ
    rw [set_at (by rw [clsJ_len]; exact hk.2)]
    by_cases e : w = (ws.getD k 0).toNat
    · rw [if_pos e, ← e]
    · rw [if_neg e]
      refine clsJ_yes t c i k (fun q hq => h q (by omega)) ⟨q, ?_, he⟩
      by_cases e2 : q = k
      · subst e2; omega
      · omega
section
variable {t : Tab} {c n : Nat} {o : Int} {l : List Rd}
theorem wits_in (hi : RInv t c o n l) {i : Nat} (h : i < l.length) (m : Nat) : ∀ q, q < (l.getD i rd0).wits.length → 0 ≤ (l.getD i rd0).wits.getD q 0 ∧ ((l.getD i rd0).wits.getD q 0).toNat < (clsI t c l n m).length := fun q hq => by
  obtain ⟨a, b, _⟩ := (hi.ws i h).at' q hq
  rw [clsI_len]
  exact ⟨a, by omega⟩
theorem clsI_at (hi : RInv t c o n l) (hc : RCov t c o n l) {w i k : Nat} (h1 : i < l.length) (h2 : k < (l.getD i rd0).wits.length) (he : (l.getD i rd0).wits.getD k 0 = (w : Int)) : ∀ m, m ≤ l.length → i < m → (clsI t c l n m).getD w 0 = cV t c i w
  | 0, _, h => absurd h (Nat.not_lt_zero _)
  | m + 1, hm, h => by
    show (clsJ t c m (l.getD m rd0).wits (clsI t c l n m) (l.getD m rd0).wits.length).getD w 0 = _
    have hin := wits_in hi (show m < l.length by omega) m
    by_cases e : i = m
    · subst e
      exact clsJ_yes t c i _ hin ⟨k, h2, he⟩
    · rw [clsJ_no t c m _ hin (fun q hq hh => e (wit_once hi hc h1 (by omega) h2 hq (he.trans hh.symm)))]
      exact clsI_at hi hc h1 h2 he m (by omega) (by omega)
theorem cls_ok (hi : RInv t c o n l) (hc : RCov t c o n l) : ClsOk t c o n (fun w => (clsI t c l n l.length).getD w 0) := by
  have hv : ∀ w, w < n → ∃ i, i < l.length ∧ ∃ k, k < (l.getD i rd0).wits.length ∧ (l.getD i rd0).wits.getD k 0 = (w : Int) ∧ (clsI t c l n l.length).getD w 0 = cV t c i w := fun w hw => by
    obtain ⟨i, h1, k, h2, he⟩ := hc.cov w hw
    exact ⟨i, h1, k, h2, he, clsI_at hi hc h1 h2 he l.length (Nat.le_refl _) h1⟩
  refine ⟨fun w hw hl => ?_, fun w hw hl => ?_, fun w1 w2 hw1 hw2 hl1 hl2 => ?_⟩
  · obtain ⟨i, _, _, _, _, e⟩ := hv w hw
    show (clsI t c l n l.length).getD w 0 = -1
    rw [e]; exact if_pos hl
  · obtain ⟨i, _, _, _, _, e⟩ := hv w hw
    show 0 ≤ (clsI t c l n l.length).getD w 0
    rw [e]
    unfold cV
    rw [if_neg hl]; omega
  · obtain ⟨i1, a1, k1, b1, c1, e1⟩ := hv w1 hw1
    obtain ⟨i2, a2, k2, b2, c2, e2⟩ := hv w2 hw2
    have h := class_iff hi hc a2 a1 b2 b1
    rw [c1, c2, Int.toNat_natCast, Int.toNat_natCast] at h
    rw [h]
    show i2 = i1 ↔ (clsI t c l n l.length).getD w2 0 = (clsI t c l n l.length).getD w1 0
    rw [e1, e2]
    unfold cV
    rw [if_neg hl1, if_neg hl2]
    omega
theorem few_ok (h : ∀ i k, i < n → k < n → ¬ lacB t c i = true → ¬ lacB t c k = true → eqSt t c o i k = true) : ∀ i, i ≤ n → (stE t c o i).2 ≤ 1 ∧ ((stE t c o i).2 = 1 → ∃ k, k < i ∧ 0 ≤ (stE t c o i).1.getD k 0) ∧ ∀ k, k < i → lacB t c k = true → (stE t c o i).1.getD k 0 = -1
  | 0, _ => ⟨Nat.zero_le _, fun h => absurd h (show ¬ (0 : Nat) = 1 by decide), fun k h => absurd h (Nat.not_lt_zero _)⟩
  | i + 1, hi => by
    obtain ⟨g1, g2, g3⟩ := few_ok h i (by omega)
    obtain ⟨s1, s2, s3⟩ := stE_ok t c o i
    have hS : stE t c o (i + 1) = stNx t c o i (stE t c o i) := rfl
    have hS2 : stNx t c o i (stE t c o i) = if lacB t c i = true then ((stE t c o i).1 ++ [-1], (stE t c o i).2) else if fndS (stE t c o i).1 (eqSt t c o i) i < 0 then ((stE t c o i).1 ++ [((stE t c o i).2 : Int)], (stE t c o i).2 + 1) else ((stE t c o i).1 ++ [fndS (stE t c o i).1 (eqSt t c o i) i], (stE t c o i).2) := rfl
    rw [hS2] at hS
    rw [hS]
    generalize stE t c o i = st at g1 g2 g3 s1 s2 s3
    have hap : ∀ (x : Int) k, k < i → (st.1 ++ [x]).getD k 0 = st.1.getD k 0 := fun x k hk => getD_app1 (by omega)
    have hae : ∀ x : Int, (st.1 ++ [x]).getD i 0 = x := fun x => by rw [← s1]; exact getD_app2
    by_cases hl : lacB t c i = true
    · rw [if_pos hl]
      refine ⟨g1, fun h1 => ?_, fun k hk hlk => ?_⟩
      · obtain ⟨k, hk, hp⟩ := g2 h1
        exact ⟨k, by omega, by rw [hap _ k hk]; exact hp⟩
      · by_cases e : k = i
        · rw [e, hae]
        · rw [hap _ k (by omega)]; exact g3 k (by omega) hlk
    · rw [if_neg hl]
      by_cases hf : fndS st.1 (eqSt t c o i) i < 0
      · rw [if_pos hf]
        have h0 : st.2 = 0 := by
          by_cases h1 : st.2 = 1
          · exfalso
            obtain ⟨k, hk, hp⟩ := g2 h1
            have hnl : ¬ lacB t c k = true := fun hh => by have := g3 k hk hh; omega
            have : fndS st.1 (eqSt t c o i) i = 0 := fndS_hit (N := i) (Int.le_refl 0) (fun q hq a _ => by have := s3 q hq; omega) i (Nat.le_refl _) ⟨k, hk, hp, h i k (by omega) (by omega) hl hnl⟩
            omega
          · omega
        refine ⟨by show st.2 + 1 ≤ 1; omega, fun _ => ⟨i, by omega, by rw [hae]; omega⟩, fun k hk hlk => ?_⟩
        by_cases e : k = i
        · subst e; exact absurd hlk hl
        · rw [hap _ k (by omega)]; exact g3 k (by omega) hlk
      · rw [if_neg hf]
        refine ⟨g1, fun _ => ⟨i, by omega, by rw [hae]; omega⟩, fun k hk hlk => ?_⟩
        by_cases e : k = i
        · subst e; exact absurd hlk hl
        · rw [hap _ k (by omega)]; exact g3 k (by omega) hlk
/-- A column with one reading parts no witnesses. -/
theorem one_few (hi : RInv t c o n l) (hc : RCov t c o n l) (hl : l.length ≤ 1) : (stE t c o n).2 < 2 := by
  have h := (few_ok (t := t) (c := c) (o := o) (n := n) (fun i k hi' hk' _ _ => by
    obtain ⟨i1, a1, k1, b1, c1⟩ := hc.cov i hi'
    obtain ⟨i2, a2, k2, b2, c2⟩ := hc.cov k hk'
    have h := class_iff hi hc a2 a1 b2 b1
    rw [c1, c2, Int.toNat_natCast, Int.toNat_natCast] at h
    exact h.mpr (by omega)) n (Nat.le_refl _)).1
  omega
end
/-- One column more. -/
def ofN (t : Tab) (o : Int) (s : List Int × List (List Int)) (c : Int) : List Int × List (List Int) :=
  if (stE t c.toNat o t.wits.length).2 < 2 then s else (s.1 ++ [c], rowAdd s.2 (stE t c.toNat o t.wits.length).1 t.wits.length)
theorem of_sites (t : Tab) (o : Int) : ∀ c, (sitesE t o c).foldl (ofN t o) ([], List.replicate t.wits.length []) = ofE t o c
  | 0 => rfl
  | c + 1 => by
    have ih := of_sites t o c
    unfold sitesE ofE
    by_cases h : 1 < (readE t c o t.wits.length).length
    · rw [if_pos h, List.foldl_append, ih]
      simp only [List.foldl_cons, List.foldl_nil, ofN, Int.toNat_natCast]
    · rw [if_neg h, ih, if_pos (one_few (read_inv t c o t.wits.length) (read_cov t c o t.wits.length) (by omega))]
end Go.Proofs.YtnadacaoehpdnaaDoor.V

namespace Go.Proofs.YtnadacaoehpdnaaDoor.V
set_option linter.unusedVariables false
set_option linter.unusedSimpArgs false
open Go Go.Proofs Go.RowKit
set_option maxRecDepth 100000
set_option maxHeartbeats 1000000
theorem sites_in (t : Tab) (o : Int) : ∀ c, ∀ x ∈ sitesE t o c, 0 ≤ x ∧ x < (c : Int)
  | 0, x, h => absurd h List.not_mem_nil
  | c + 1, x, h => by
    have ih := sites_in t o c
    unfold sitesE at h
    split at h
    · rcases List.mem_append.mp h with h | h
      · have := ih x h; omega
      · rw [List.mem_singleton] at h; omega
    · have := ih x h; omega
theorem mset_le {α β : Type} [DecidableEq α] (k : α) (v : β) : ∀ l : List (α × β), (mset k v l).length ≤ l.length + 1
  | [] => Nat.le_refl _
  | p :: l => by
    have ih := mset_le k v l
    simp only [mset]
    split
    · simp
    · simp only [List.length_cons]; omega
theorem numM_len (cls : Nat → Int) : ∀ y, (numM cls y).length ≤ y + 1
  | 0 => Nat.le_refl _
  | y + 1 => by
    have ih := numM_len cls y
    unfold numM
    split
    · omega
    · have := mset_le (cls y) (((numM cls y).length : Int) - 1) (numM cls y)
      omega
theorem fold_ok (t : Tab) (o : Int) : ∀ (l : List Int) (s0 : List Int × List (List Int)), s0.2.length = t.wits.length → (∀ k, k < t.wits.length → (s0.2.getD k []).length = s0.1.length) →
    (l.foldl (ofN t o) s0).1.length ≤ s0.1.length + l.length ∧ (l.foldl (ofN t o) s0).2.length = t.wits.length ∧ ∀ k, k < t.wits.length → ((l.foldl (ofN t o) s0).2.getD k []).length = (l.foldl (ofN t o) s0).1.length
  | [], s0, h1, h2 => ⟨by simp, h1, h2⟩
  | c :: l, s0, h1, h2 => by
    have key : (ofN t o s0 c).1.length ≤ s0.1.length + 1 ∧ (ofN t o s0 c).2.length = t.wits.length ∧ ∀ k, k < t.wits.length → ((ofN t o s0 c).2.getD k []).length = (ofN t o s0 c).1.length := by
      unfold ofN
      split
      · exact ⟨by omega, h1, h2⟩
      · refine ⟨by simp, by rw [rowAdd_len, h1], fun k hk => ?_⟩
        rw [rowAdd_at, if_pos ⟨hk, by omega⟩]
        have := h2 k hk
        rw [List.length_append, List.length_append, this]; rfl
    obtain ⟨a, b, d⟩ := fold_ok t o l (ofN t o s0 c) key.2.1 key.2.2
    exact ⟨by simp only [List.foldl_cons, List.length_cons]; omega, b, d⟩
theorem not_t {b : Bool} (h : (!b) = true) : b = false := by cases b; rfl; cases h
theorem not_f {b : Bool} (h : (!b) = false) : b = true := by cases b; cases h; rfl
theorem zeros_le (n : Nat) (e : Nat) : MOle (.row e 1 ((n : Nat) : Int).toNat (fun i j => [AV.int .i64 0].getD j AV.u)) (tI.R e (List.replicate n 0)) := ⟨rfl, rfl, by simp [Ty.R, tI], fun i j hi hj => by
  obtain rfl : j = 0 := by omega
  have hi : i < n := hi
  refine Le.int ?_
  show (0 : Int) = (List.replicate n 0).getD i 0
  rw [List.getD, List.getElem?_replicate, if_pos hi]; rfl⟩
theorem of37_fn (t : Tab) (o : Int) (hf : FitT t) : Fn Tryd.prog 37 [tbA t, .int .i64 o] (ofL t o) := by
  refine Fn.of Tryd.f37 _ Tryd.func37 rfl (by decide) (by show 2 ≤ _; decide) tbOk 149 rfl fun S w0 gl => ?_
  refine Run.go ?_; (conv => whnf); repeat' (first | ((with_reducible refine Know.mk fun _ => ?_); conv => whnf) | ((with_reducible refine Need.mk ?_ ?_); exact nd; conv => whnf) | ((with_reducible first | refine Both.mk ?_ ?_ | refine Any.mk fun b hb => ?_ | refine AskB.dec (fun hb => ?_) (fun hb => ?_) | refine AskB.ndec (fun hb => ?_) (fun hb => ?_) | refine AskB.mk (fun hb => ?_) (fun hb => ?_)) <;> conv => whnf) | ((with_reducible first | refine Run.drawX rfl (by decide +kernel) ?_ | refine Run.drawT rfl (by decide +kernel) ?_ | refine Run.drawW rfl (by decide +kernel) ?_); conv => whnf))
  refine Run.callBX (sites_fn t o hf) rfl rfl ⟨tb_le t (Le.refl _) (Le.refl _), Le.refl _, trivial⟩ rfl rfl rfl ?_
  have hfc := hf.cols
  have hfw := hf.wits
  by_cases hok : OkT t
  · by_cases hbo : badO o
    · rw [sitesL_bad hok hbo, ofL_bad hok hbo]
      (conv => whnf); repeat' (first | ((with_reducible refine Know.mk fun _ => ?_); conv => whnf) | ((with_reducible refine Need.mk ?_ ?_); exact nd; conv => whnf) | ((with_reducible refine Both.mk ?_ ?_) <;> conv => whnf) | ((with_reducible refine Any.mk fun b hb => ?_); conv => whnf) | ((with_reducible first | refine AskB.dec (fun hb => ?_) (fun hb => ?_) | refine AskB.ndec (fun hb => ?_) (fun hb => ?_) | refine AskB.mk (fun hb => ?_) (fun hb => ?_)) <;> first | (exfalso; omega) | (conv => whnf)) | ((with_reducible first | refine Run.drawX rfl (by decide +kernel) ?_ | refine Run.drawT rfl (by decide +kernel) ?_ | refine Run.drawW rfl (by decide +kernel) ?_); conv => whnf))
      all_goals try (exfalso; omega)
      exact Run.leaveC3 (.inr ⟨_, rfl⟩) rfl Tryd.func37 rfl rfl rfl (Nat.le_of_ble_eq_true rfl) (agg1 (Le.nils _ _)) (Le.nils _ _) (Le.refl _)
    · rw [sitesL_ok hok hbo, ofL_ok hok hbo]
      have hn12 := hok.n12
      have hnc := hok.nc
      have hsl := sites_len t o t.cols.length
      have hsi := sites_in t o t.cols.length
      have hof := of_sites t o t.cols.length
      generalize sitesE t o t.cols.length = Ss at hsl hsi hof ⊢
      (conv => whnf); repeat' (first | ((with_reducible refine Know.mk fun _ => ?_); conv => whnf) | ((with_reducible refine Need.mk ?_ ?_); exact nd; conv => whnf) | ((with_reducible refine Both.mk ?_ ?_) <;> conv => whnf) | ((with_reducible refine Any.mk fun b hb => ?_); conv => whnf) | ((with_reducible first | refine AskB.dec (fun hb => ?_) (fun hb => ?_) | refine AskB.ndec (fun hb => ?_) (fun hb => ?_) | refine AskB.mk (fun hb => ?_) (fun hb => ?_)) <;> first | (exfalso; omega) | (conv => whnf)) | ((with_reducible first | refine Run.drawX rfl (by decide +kernel) ?_ | refine Run.drawT rfl (by decide +kernel) ?_ | refine Run.drawW rfl (by decide +kernel) ?_); conv => whnf))
      all_goals try (exfalso; omega)
      refine Run.asMat 43 0 3 1 (e := 27) (sz := 1) (n := ((t.wits.length : Nat) : Int).toNat) (get := fun i j => [AV.nils].getD j AV.u) rfl (by decide) (fun i hi => rfl) ?_
      refine Run.holdNil 10 1000 3 1 (fun _ _ => .u) rfl ?_
      refine Run.loop [1, 45, 46] (fun (x : Nat) => [(2, .box 2 0), (4, .box 4 0), (9, .box 9 0), (10, .row 1000), (47, .int .i64 (x : Int))]) (fun x => [(2, .box 25 [tWit.L t.wits, tIL.L t.cols]), (4, .box 59 [.nils]), (9, .box 59 [.row 43]), (43, tI.M 27 3 ((Ss.take x).foldl (ofN t o) ([], List.replicate t.wits.length [])).2), (1000, tI.R 3 ((Ss.take x).foldl (ofN t o) ([], List.replicate t.wits.length [])).1)]) (fun x => x ≤ Ss.length) (fun x => Ss.length - x) 0 (Nat.zero_le _) ⟨Le.refl _, Le.refl _, Le.refl _, Le.refl _, Le.refl _, trivial⟩ ⟨MOle.refl _, MOle.refl _, MOle.refl _, tI.M_nils 27 3 t.wits.length _ _, ⟨rfl, rfl, rfl, fun i j hi => absurd hi (Nat.not_lt_zero _)⟩, trivial⟩ ?_
      intro x hx IH
      have hwx : IntKind.i64.wrap ((x : Int) + 1) = ((x + 1 : Nat) : Int) := wrap64 (by omega) (by omega)
      have hnx : x < Ss.length → (Ss.take (x + 1)).foldl (ofN t o) ([], List.replicate t.wits.length []) = ofN t o ((Ss.take x).foldl (ofN t o) ([], List.replicate t.wits.length [])) (Ss.getD x 0) := fun h => by
        rw [take_at Ss x 0 h, List.foldl_append]; rfl
      obtain ⟨hs1, hs2, hs3⟩ := fold_ok t o (Ss.take x) ([], List.replicate t.wits.length []) (by simp) (fun k hk => by simp [List.getD, hk])
      have htk : (Ss.take x).length ≤ x := by rw [List.length_take]; omega
      generalize hS : (Ss.take x).foldl (ofN t o) ([], List.replicate t.wits.length []) = s at hnx hs1 hs2 hs3 ⊢
      have hs1 : s.1.length ≤ 4096 := by simp only [List.length_nil] at hs1; omega
      show Run _ _ (lst (_ ++ [(2, .box 2 0), (4, .box 4 0), (9, .box 9 0), (10, .row 1000), (47, .int .i64 (x : Int))])) (lstH [(2, .box 25 [tWit.L t.wits, tIL.L t.cols]), (4, .box 59 [.nils]), (9, .box 59 [.row 43]), (43, tI.M 27 3 s.2), (1000, tI.R 3 s.1)])
      by_cases hxl : x < Ss.length
      · obtain ⟨c, hcs⟩ : ∃ c : Nat, Ss.getD x 0 = (c : Int) := ⟨(Ss.getD x 0).toNat, by have := hsi _ (getD_mem' (z := (0 : Int)) x hxl); omega⟩
        have hcl : c < t.cols.length := by have := hsi _ (getD_mem' (z := (0 : Int)) x hxl); omega
        have hcx : Ss.getD ((x : Nat) : Int).toNat tI.z = (c : Int) := hcs
        refine Run.go ?_; (conv => whnf); repeat' (first | ((with_reducible refine Know.mk fun _ => ?_); conv => whnf) | ((with_reducible refine Need.mk ?_ ?_); exact nd; conv => whnf) | ((with_reducible refine Both.mk ?_ ?_) <;> conv => whnf) | ((with_reducible refine Any.mk fun b hb => ?_); conv => whnf) | ((with_reducible first | refine AskB.dec (fun hb => ?_) (fun hb => ?_) | refine AskB.ndec (fun hb => ?_) (fun hb => ?_) | refine AskB.mk (fun hb => ?_) (fun hb => ?_)) <;> first | (exfalso; omega) | (conv => whnf)) | ((with_reducible first | refine Run.drawX rfl (by decide +kernel) ?_ | refine Run.drawT rfl (by decide +kernel) ?_ | refine Run.drawW rfl (by decide +kernel) ?_); conv => whnf))
        all_goals try (exfalso; omega)
        refine Run.callBX (readings_fn t c o hf) rfl rfl ⟨tb_le t (Le.refl _) (Le.refl _), Le.int hcx, Le.refl _, trivial⟩ rfl rfl rfl ?_
        unfold readL
        obtain ⟨h1, h2⟩ := rc_ok (c := (c : Int)) hok hbo (fun h => by unfold badC at h; omega)
        have hlen : (readR t c o).length ≤ 12 := by rw [h2]; have := read_len t (c : Int).toNat o t.wits.length; omega
        have hinv : RInv t c o t.wits.length (readR t c o) := by rw [h2]; exact read_inv t c o t.wits.length
        have hcov : RCov t c o t.wits.length (readR t c o) := by rw [h2]; exact read_cov t c o t.wits.length
        have hwl := (readR_fit t c o hf).2.1
        rw [h1]
        generalize readR t c o = l at hlen hinv hcov hwl ⊢
        (conv => whnf); repeat' (first | ((with_reducible refine Know.mk fun _ => ?_); conv => whnf) | ((with_reducible refine Need.mk ?_ ?_); exact nd; conv => whnf) | ((with_reducible refine Both.mk ?_ ?_) <;> conv => whnf) | ((with_reducible refine Any.mk fun b hb => ?_); conv => whnf) | ((with_reducible first | refine AskB.dec (fun hb => ?_) (fun hb => ?_) | refine AskB.ndec (fun hb => ?_) (fun hb => ?_) | refine AskB.mk (fun hb => ?_) (fun hb => ?_)) <;> first | (exfalso; omega) | (conv => whnf)) | ((with_reducible first | refine Run.drawX rfl (by decide +kernel) ?_ | refine Run.drawT rfl (by decide +kernel) ?_ | refine Run.drawW rfl (by decide +kernel) ?_); conv => whnf))
        all_goals try (exfalso; omega)
        refine Run.to [(1, .int .i64 o), (2, .box 2 0), (4, .box 4 0), (9, .box 9 0), (10, .row 1000), (12, .int .i64 (c : Int)), (15, .row 61), (45, tI.L Ss), (46, .int .i64 (Ss.length : Int)), (47, .int .i64 (x : Int)), (62, tRd.L l), (63, .int .i64 (l.length : Int)), (64, .int .i64 0)] [(2, .box 25 [tWit.L t.wits, tIL.L t.cols]), (4, .box 59 [.nils]), (9, .box 59 [.row 43]), (43, tI.M 27 3 s.2), (61, tI.R 3 (List.replicate t.wits.length 0)), (1000, tI.R 3 s.1)] ⟨Le.refl _, Le.refl _, Le.refl _, Le.refl _, Le.refl _, Le.int hcx, Le.refl _, Le.refl _, Le.refl _, Le.refl _, Le.refl _, Le.refl _, Le.refl _, trivial⟩ ⟨MOle.refl _, MOle.refl _, MOle.refl _, MOle.refl _, zeros_le _ _, MOle.refl _, trivial⟩ ?_
        refine Run.loop [1, 12, 45, 46, 47, 62, 63] (fun (i : Nat) => [(2, .box 2 0), (4, .box 4 0), (9, .box 9 0), (10, .row 1000), (15, .row 61), (64, .int .i64 (i : Int))]) (fun i => [(2, .box 25 [tWit.L t.wits, tIL.L t.cols]), (4, .box 59 [.nils]), (9, .box 59 [.row 43]), (43, tI.M 27 3 s.2), (61, tI.R 3 (clsI t c l t.wits.length i)), (1000, tI.R 3 s.1)]) (fun i => i ≤ l.length) (fun i => l.length - i) 0 (Nat.zero_le _) ⟨Le.refl _, Le.refl _, Le.refl _, Le.refl _, Le.refl _, Le.refl _, trivial⟩ ⟨MOle.refl _, MOle.refl _, MOle.refl _, MOle.refl _, MOle.refl _, MOle.refl _, trivial⟩ ?_
        intro i hi IH2
        have hwi : IntKind.i64.wrap ((i : Int) + 1) = ((i + 1 : Nat) : Int) := wrap64 (by omega) (by omega)
        have hcn : clsI t c l t.wits.length (i + 1) = clsJ t c i (l.getD i rd0).wits (clsI t c l t.wits.length i) (l.getD i rd0).wits.length := rfl
        have hcl2 := clsI_len t c l t.wits.length i
        by_cases hil : i < l.length
        · have hin := wits_in hinv hil i
          have hwm : (l.getD i rd0).wits.length ≤ 2000000 := hwl _ (getD_mem' i hil)
          have hws := (hinv.ws i hil).at'
          generalize clsI t c l t.wits.length i = row0 at hcn hcl2 hin ⊢
          show Run _ _ (lst (_ ++ [(2, .box 2 0), (4, .box 4 0), (9, .box 9 0), (10, .row 1000), (15, .row 61), (64, .int .i64 (i : Int))])) (lstH [(2, .box 25 [tWit.L t.wits, tIL.L t.cols]), (4, .box 59 [.nils]), (9, .box 59 [.row 43]), (43, tI.M 27 3 s.2), (61, tI.R 3 row0), (1000, tI.R 3 s.1)])
          refine Run.go ?_; (conv => whnf); repeat' (first | ((with_reducible refine Know.mk fun _ => ?_); conv => whnf) | ((with_reducible refine Need.mk ?_ ?_); exact nd; conv => whnf) | ((with_reducible refine Both.mk ?_ ?_) <;> conv => whnf) | ((with_reducible refine Any.mk fun b hb => ?_); conv => whnf) | ((with_reducible first | refine AskB.dec (fun hb => ?_) (fun hb => ?_) | refine AskB.ndec (fun hb => ?_) (fun hb => ?_) | refine AskB.mk (fun hb => ?_) (fun hb => ?_)) <;> first | (exfalso; omega) | (conv => whnf)) | ((with_reducible first | refine Run.drawX rfl (by decide +kernel) ?_ | refine Run.drawT rfl (by decide +kernel) ?_ | refine Run.drawW rfl (by decide +kernel) ?_); conv => whnf))
          all_goals try (exfalso; omega)
          refine Run.loop [1, 12, 16, 45, 46, 47, 62, 63, 64, 70, 71] (fun (k : Nat) => [(2, .box 2 0), (4, .box 4 0), (9, .box 9 0), (10, .row 1000), (15, .row 61), (72, .int .i64 (k : Int))]) (fun k => [(2, .box 25 [tWit.L t.wits, tIL.L t.cols]), (4, .box 59 [.nils]), (9, .box 59 [.row 43]), (43, tI.M 27 3 s.2), (61, tI.R 3 (clsJ t c i (l.getD i rd0).wits row0 k)), (1000, tI.R 3 s.1)]) (fun k => k ≤ (l.getD i rd0).wits.length) (fun k => (l.getD i rd0).wits.length - k) 0 (Nat.zero_le _) ⟨Le.refl _, Le.refl _, Le.refl _, Le.refl _, Le.refl _, Le.refl _, trivial⟩ ⟨MOle.refl _, MOle.refl _, MOle.refl _, MOle.refl _, MOle.refl _, MOle.refl _, trivial⟩ ?_
          intro k hk IH3
          have hwk : IntKind.i64.wrap ((k : Int) + 1) = ((k + 1 : Nat) : Int) := wrap64 (by omega) (by omega)
          have hjl := clsJ_len t c i (l.getD i rd0).wits row0 k
          have hjn : clsJ t c i (l.getD i rd0).wits row0 (k + 1) = (clsJ t c i (l.getD i rd0).wits row0 k).set ((l.getD i rd0).wits.getD k 0).toNat (cV t c i ((l.getD i rd0).wits.getD k 0).toNat) := rfl
          generalize hJ : clsJ t c i (l.getD i rd0).wits row0 k = row at hjl hjn ⊢
          show Run _ _ (lst (_ ++ [(2, .box 2 0), (4, .box 4 0), (9, .box 9 0), (10, .row 1000), (15, .row 61), (72, .int .i64 (k : Int))])) (lstH [(2, .box 25 [tWit.L t.wits, tIL.L t.cols]), (4, .box 59 [.nils]), (9, .box 59 [.row 43]), (43, tI.M 27 3 s.2), (61, tI.R 3 row), (1000, tI.R 3 s.1)])
          have hlk : (l.getD ((i : Nat) : Int).toNat tRd.z).wits.length = (l.getD i rd0).wits.length := rfl
          by_cases hkl : k < (l.getD i rd0).wits.length
          · obtain ⟨w0, w1, _, _⟩ := hws k hkl
            obtain ⟨w, hw⟩ : ∃ w : Nat, (l.getD i rd0).wits.getD k 0 = (w : Int) := ⟨((l.getD i rd0).wits.getD k 0).toNat, by omega⟩
            have hwx2 : (l.getD ((i : Nat) : Int).toNat tRd.z).wits.getD ((k : Nat) : Int).toNat tI.z = (w : Int) := hw
            refine Run.go ?_; (conv => whnf); repeat' (first | ((with_reducible refine Know.mk fun _ => ?_); conv => whnf) | ((with_reducible refine Need.mk ?_ ?_); exact nd; conv => whnf) | ((with_reducible refine Both.mk ?_ ?_) <;> conv => whnf) | ((with_reducible refine Any.mk fun b hb => ?_); conv => whnf) | ((with_reducible first | refine AskB.dec (fun hb => ?_) (fun hb => ?_) | refine AskB.ndec (fun hb => ?_) (fun hb => ?_) | refine AskB.mk (fun hb => ?_) (fun hb => ?_)) <;> first | (exfalso; omega) | (conv => whnf)) | ((with_reducible first | refine Run.drawX rfl (by decide +kernel) ?_ | refine Run.drawT rfl (by decide +kernel) ?_ | refine Run.drawW rfl (by decide +kernel) ?_); conv => whnf))
            all_goals try (exfalso; omega)
            refine Run.to [(1, .int .i64 o), (2, .box 2 0), (4, .box 4 0), (9, .box 9 0), (10, .row 1000), (12, .int .i64 (c : Int)), (15, .row 61), (16, .int .i64 (i : Int)), (19, .int .i64 (w : Int)), (45, tI.L Ss), (46, .int .i64 (Ss.length : Int)), (47, .int .i64 (x : Int)), (62, tRd.L l), (63, .int .i64 (l.length : Int)), (64, .int .i64 (i : Int)), (70, tI.L (l.getD i rd0).wits), (71, .int .i64 ((l.getD i rd0).wits.length : Int)), (72, .int .i64 (k : Int)), (81, tbA t), (82, .int .i64 (c : Int)), (83, .int .i64 (w : Int))] [(2, .box 25 [tWit.L t.wits, tIL.L t.cols]), (4, .box 59 [.nils]), (9, .box 59 [.row 43]), (43, tI.M 27 3 s.2), (61, tI.R 3 (row.set w (i : Int))), (1000, tI.R 3 s.1)] ⟨Le.refl _, Le.refl _, Le.refl _, Le.refl _, Le.refl _, Le.refl _, Le.refl _, Le.refl _, Le.int hwx2, Le.refl _, Le.refl _, Le.refl _, Le.refl _, Le.refl _, Le.refl _, Le.refl _, Le.refl _, Le.refl _, tb_le t (Le.refl _) (Le.refl _), Le.refl _, Le.int hwx2, trivial⟩ ⟨MOle.refl _, MOle.refl _, MOle.refl _, MOle.refl _, ?_, MOle.refl _, trivial⟩ ?_
            · have h := tI.set 3 row w (i : Int) (by omega) [AV.int .i64 (i : Int)] rfl (Le.one (Le.refl _))
              have e : ((l.getD ((i : Nat) : Int).toNat tRd.z).wits.getD ((k : Nat) : Int).toNat tI.z).toNat = w := by rw [hwx2]; rfl
              rw [← e] at h ⊢
              exact h
            refine Run.callBX (tcell_fn t c w hf hok hcl (by omega)) rfl rfl ⟨Le.refl _, Le.refl _, Le.refl _, trivial⟩ rfl rfl rfl ?_
            have hwr : w < row.length := by omega
            have hsr : (row.set w (i : Int)).length = row.length := List.length_set
            unfold cellL
            (conv => whnf); repeat' (first | ((with_reducible refine Know.mk fun _ => ?_); conv => whnf) | ((with_reducible refine Need.mk ?_ ?_); exact nd; conv => whnf) | ((with_reducible refine Both.mk ?_ ?_) <;> conv => whnf) | ((with_reducible refine Any.mk fun b hb => ?_); conv => whnf) | ((with_reducible first | refine AskB.dec (fun hb => ?_) (fun hb => ?_) | refine AskB.ndec (fun hb => ?_) (fun hb => ?_) | refine AskB.mk (fun hb => ?_) (fun hb => ?_)) <;> first | (exfalso; omega) | (conv => whnf)) | ((with_reducible first | refine Run.drawX rfl (by decide +kernel) ?_ | refine Run.drawT rfl (by decide +kernel) ?_ | refine Run.drawW rfl (by decide +kernel) ?_); conv => whnf))
            all_goals try (exfalso; omega)
            · have hcv : cV t c i w = -1 := by
                refine if_pos ?_
                have hx : ¬ atC t c w < 0 := fun hh => by
                  have hz : textAt t c w = .empty := if_pos hh
                  have hb2 : textAt t c w = dag := by assumption
                  rw [hz] at hb2
                  exact absurd hb2 (by decide)
                unfold lacB thB
                rw [decide_eq_false hx, decide_eq_true (show textAt t c w = dag by assumption)]; rfl
              refine Run.to _ _ ?_ ?_ (IH3 (k + 1) (by omega) (by omega))
              · exact ⟨Le.refl _, Le.refl _, Le.refl _, Le.refl _, Le.refl _, Le.refl _, Le.refl _, Le.refl _, Le.refl _, Le.refl _, Le.refl _, Le.refl _, Le.refl _, Le.refl _, Le.refl _, Le.refl _, Le.int hwk, trivial⟩
              · rw [hjn, hw, Int.toNat_natCast, hcv]
                have h := tI.set 3 (row.set w (i : Int)) w (-1) (by omega) [AV.int .i64 (-1)] rfl (Le.one (Le.refl _))
                rw [List.set_set] at h
                exact ⟨MOle.refl _, MOle.refl _, MOle.refl _, MOle.refl _, h, MOle.refl _, trivial⟩
            · have hcv : cV t c i w = (i : Int) := by
                refine if_neg (fun hh => ?_)
                unfold lacB at hh
                rw [Bool.and_eq_true] at hh
                exact absurd (of_decide_eq_true hh.2) (by assumption)
              refine Run.to _ _ ?_ ?_ (IH3 (k + 1) (by omega) (by omega))
              · exact ⟨Le.refl _, Le.refl _, Le.refl _, Le.refl _, Le.refl _, Le.refl _, Le.refl _, Le.refl _, Le.refl _, Le.refl _, Le.refl _, Le.refl _, Le.refl _, Le.refl _, Le.refl _, Le.refl _, Le.int hwk, trivial⟩
              · rw [hjn, hw, Int.toNat_natCast, hcv]
                exact ⟨MOle.refl _, MOle.refl _, MOle.refl _, MOle.refl _, MOle.refl _, MOle.refl _, trivial⟩
          · obtain rfl : k = (l.getD i rd0).wits.length := by omega
            refine Run.go ?_; (conv => whnf); repeat' (first | ((with_reducible refine Know.mk fun _ => ?_); conv => whnf) | ((with_reducible refine Need.mk ?_ ?_); exact nd; conv => whnf) | ((with_reducible refine Both.mk ?_ ?_) <;> conv => whnf) | ((with_reducible refine Any.mk fun b hb => ?_); conv => whnf) | ((with_reducible first | refine AskB.dec (fun hb => ?_) (fun hb => ?_) | refine AskB.ndec (fun hb => ?_) (fun hb => ?_) | refine AskB.mk (fun hb => ?_) (fun hb => ?_)) <;> first | (exfalso; omega) | (conv => whnf)) | ((with_reducible first | refine Run.drawX rfl (by decide +kernel) ?_ | refine Run.drawT rfl (by decide +kernel) ?_ | refine Run.drawW rfl (by decide +kernel) ?_); conv => whnf))
            all_goals try (exfalso; omega)
            refine Run.to _ _ ?_ ?_ (IH2 (i + 1) (by omega) (by omega))
            · exact ⟨Le.refl _, Le.refl _, Le.refl _, Le.refl _, Le.refl _, Le.refl _, Le.refl _, Le.refl _, Le.refl _, Le.refl _, Le.refl _, Le.refl _, Le.int hwi, trivial⟩
            · rw [hcn, hJ]; exact ⟨MOle.refl _, MOle.refl _, MOle.refl _, MOle.refl _, MOle.refl _, MOle.refl _, trivial⟩
        · obtain rfl : i = l.length := by omega
          refine Run.go ?_; (conv => whnf); repeat' (first | ((with_reducible refine Know.mk fun _ => ?_); conv => whnf) | ((with_reducible refine Need.mk ?_ ?_); exact nd; conv => whnf) | ((with_reducible refine Both.mk ?_ ?_) <;> conv => whnf) | ((with_reducible refine Any.mk fun b hb => ?_); conv => whnf) | ((with_reducible first | refine AskB.dec (fun hb => ?_) (fun hb => ?_) | refine AskB.ndec (fun hb => ?_) (fun hb => ?_) | refine AskB.mk (fun hb => ?_) (fun hb => ?_)) <;> first | (exfalso; omega) | (conv => whnf)) | ((with_reducible first | refine Run.drawX rfl (by decide +kernel) ?_ | refine Run.drawT rfl (by decide +kernel) ?_ | refine Run.drawW rfl (by decide +kernel) ?_); conv => whnf))
          all_goals try (exfalso; omega)
          have hno := num_ok (cls_ok hinv hcov) t.wits.length (Nat.le_refl _)
          have hclen := clsI_len t c l t.wits.length l.length
          have hnxt := hnx hxl
          rw [hcs] at hnxt
          have hofn : ofN t o s (c : Int) = if (stE t c o t.wits.length).2 < 2 then s else (s.1 ++ [(c : Int)], rowAdd s.2 (stE t c o t.wits.length).1 t.wits.length) := rfl
          rw [hofn] at hnxt
          obtain ⟨g1, g2, g3⟩ := stE_ok t c o t.wits.length
          have hkeys : ∀ y, (numM (fun w => (clsI t c l t.wits.length l.length).getD w 0) y).length ≤ y + 1 := numM_len _
          generalize clsI t c l t.wits.length l.length = cl at hno hclen hkeys ⊢
          refine Run.loop [1, 12, 45, 46, 47, 98] (fun (y : Nat) => [(2, .box 2 0), (4, .box 4 0), (9, .box 9 0), (10, .row 1000), (15, .row 61), (23, .obj 95), (97, .row 61), (99, .int .i64 (y : Int))]) (fun y => [(2, .box 25 [tWit.L t.wits, tIL.L t.cols]), (4, .box 59 [.nils]), (9, .box 59 [.row 43]), (43, tI.M 27 3 s.2), (61, tI.R 3 cl), (95, .mp (.ii (numM (fun w => cl.getD w 0) y))), (1000, tI.R 3 s.1)]) (fun y => y ≤ t.wits.length) (fun y => t.wits.length - y) 0 (Nat.zero_le _) ⟨Le.refl _, Le.refl _, Le.refl _, Le.refl _, Le.refl _, Le.refl _, Le.refl _, Le.refl _, trivial⟩ ⟨MOle.refl _, MOle.refl _, MOle.refl _, MOle.refl _, MOle.refl _, MOle.refl _, MOle.refl _, trivial⟩ ?_
          intro y hy IH4
          have hwy : IntKind.i64.wrap ((y : Int) + 1) = ((y + 1 : Nat) : Int) := wrap64 (by omega) (by omega)
          have hML := hkeys y
          have hM1 : numM (fun w => cl.getD w 0) (y + 1) = if (mget (cl.getD y 0) (numM (fun w => cl.getD w 0) y)).isSome = true then numM (fun w => cl.getD w 0) y else mset (cl.getD y 0) (((numM (fun w => cl.getD w 0) y).length : Int) - 1) (numM (fun w => cl.getD w 0) y) := rfl
          by_cases hyl : y < t.wits.length
          · generalize numM (fun w => cl.getD w 0) y = M at hM1 hML ⊢
            have hwM : IntKind.i64.wrap ((M.length : Int) - 1) = (M.length : Int) - 1 := wrap64 (by omega) (by omega)
            show Run _ _ (lst (_ ++ [(2, .box 2 0), (4, .box 4 0), (9, .box 9 0), (10, .row 1000), (15, .row 61), (23, .obj 95), (97, .row 61), (99, .int .i64 (y : Int))])) (lstH [(2, .box 25 [tWit.L t.wits, tIL.L t.cols]), (4, .box 59 [.nils]), (9, .box 59 [.row 43]), (43, tI.M 27 3 s.2), (61, tI.R 3 cl), (95, .mp (.ii M)), (1000, tI.R 3 s.1)])
            refine Run.go ?_; (conv => whnf); repeat' (first | ((with_reducible refine Know.mk fun _ => ?_); conv => whnf) | ((with_reducible refine Need.mk ?_ ?_); exact nd; conv => whnf) | ((with_reducible refine Both.mk ?_ ?_) <;> conv => whnf) | ((with_reducible refine Any.mk fun b hb => ?_); conv => whnf) | ((with_reducible first | refine AskB.dec (fun hb => ?_) (fun hb => ?_) | refine AskB.ndec (fun hb => ?_) (fun hb => ?_) | refine AskB.mk (fun hb => ?_) (fun hb => ?_)) <;> first | (exfalso; omega) | (conv => whnf)) | ((with_reducible first | refine Run.drawX rfl (by decide +kernel) ?_ | refine Run.drawT rfl (by decide +kernel) ?_ | refine Run.drawW rfl (by decide +kernel) ?_); conv => whnf))
            all_goals try (exfalso; omega)
            · have hb1 : (!(mget (cl.getD y 0) M).isSome) = true := by assumption
              rw [if_neg (by rw [not_t hb1]; decide)] at hM1
              refine Run.to _ _ ?_ ?_ (IH4 (y + 1) (by omega) (by omega))
              · exact ⟨Le.refl _, Le.refl _, Le.refl _, Le.refl _, Le.refl _, Le.refl _, Le.refl _, Le.refl _, Le.refl _, Le.refl _, Le.refl _, Le.refl _, Le.refl _, Le.int hwy, trivial⟩
              · rw [hM1, ← hwM]; exact ⟨MOle.refl _, MOle.refl _, MOle.refl _, MOle.refl _, MOle.refl _, MOle.refl _, MOle.refl _, trivial⟩
            · have hb1 : (!(mget (cl.getD y 0) M).isSome) = false := by assumption
              rw [if_pos (not_f hb1)] at hM1
              refine Run.to _ _ ?_ ?_ (IH4 (y + 1) (by omega) (by omega))
              · exact ⟨Le.refl _, Le.refl _, Le.refl _, Le.refl _, Le.refl _, Le.refl _, Le.refl _, Le.refl _, Le.refl _, Le.refl _, Le.refl _, Le.refl _, Le.refl _, Le.int hwy, trivial⟩
              · rw [hM1]; exact ⟨MOle.refl _, MOle.refl _, MOle.refl _, MOle.refl _, MOle.refl _, MOle.refl _, MOle.refl _, trivial⟩
          · obtain rfl : y = t.wits.length := by omega
            have hnl := hno.len
            have hat := hno.at'
            generalize numM (fun w => cl.getD w 0) t.wits.length = M at hnl hat hML ⊢
            have hsz : (MK.ii M).size = M.length := rfl
            refine Run.go ?_; (conv => whnf); repeat' (first | ((with_reducible refine Know.mk fun _ => ?_); conv => whnf) | ((with_reducible refine Need.mk ?_ ?_); exact nd; conv => whnf) | ((with_reducible refine Both.mk ?_ ?_) <;> conv => whnf) | ((with_reducible refine Any.mk fun b hb => ?_); conv => whnf) | ((with_reducible first | refine AskB.dec (fun hb => ?_) (fun hb => ?_) | refine AskB.ndec (fun hb => ?_) (fun hb => ?_) | refine AskB.mk (fun hb => ?_) (fun hb => ?_)) <;> first | (exfalso; omega) | (conv => whnf)) | ((with_reducible first | refine Run.drawX rfl (by decide +kernel) ?_ | refine Run.drawT rfl (by decide +kernel) ?_ | refine Run.drawW rfl (by decide +kernel) ?_); conv => whnf))
            all_goals try (exfalso; omega)
            · rw [if_pos (by omega)] at hnxt
              refine Run.to _ _ ?_ ?_ (IH (x + 1) (by omega) (by omega))
              · exact ⟨Le.refl _, Le.refl _, Le.refl _, Le.refl _, Le.refl _, Le.refl _, Le.refl _, Le.int hwx, trivial⟩
              · rw [hnxt]; exact ⟨MOle.refl _, MOle.refl _, MOle.refl _, MOle.refl _, MOle.refl _, trivial⟩
            · rw [if_neg (by omega)] at hnxt
              refine Run.to [(1, .int .i64 o), (2, .box 2 0), (4, .box 4 0), (9, .box 9 0), (10, .row 123), (23, .obj 95), (45, tI.L Ss), (46, .int .i64 (Ss.length : Int)), (47, .int .i64 (x : Int)), (124, .row 61), (125, .int .i64 (cl.length : Int)), (126, .int .i64 0)] [(2, .box 25 [tWit.L t.wits, tIL.L t.cols]), (4, .box 59 [.nils]), (9, .box 59 [.row 43]), (43, tI.M 27 3 s.2), (61, tI.R 3 cl), (95, .mp (.ii M)), (123, tI.R 3 (s.1 ++ [(c : Int)]))] ⟨Le.refl _, Le.refl _, Le.refl _, Le.refl _, Le.refl _, Le.refl _, Le.refl _, Le.refl _, Le.refl _, Le.refl _, Le.refl _, Le.refl _, trivial⟩ ⟨MOle.refl _, MOle.refl _, MOle.refl _, MOle.refl _, MOle.refl _, MOle.refl _, tI.push 3 s.1 (c : Int) _ (one0 (Le.refl _)), trivial⟩ ?_
              refine Run.hold (z := 123) 10 1000 (by rfl) (by rfl) (by rfl) ?_
              refine Run.loop [1, 45, 46, 47, 125] (fun (v : Nat) => [(2, .box 2 0), (4, .box 4 0), (9, .box 9 0), (10, .row 1000), (23, .obj 95), (124, .row 61), (126, .int .i64 (v : Int))]) (fun v => [(2, .box 25 [tWit.L t.wits, tIL.L t.cols]), (4, .box 59 [.nils]), (9, .box 59 [.row 43]), (43, tI.M 27 3 (rowAdd s.2 (stE t c o t.wits.length).1 v)), (61, tI.R 3 cl), (95, .mp (.ii M)), (1000, tI.R 3 (s.1 ++ [(c : Int)]))]) (fun v => v ≤ t.wits.length) (fun v => t.wits.length - v) 0 (Nat.zero_le _) ⟨Le.refl _, Le.refl _, Le.refl _, Le.refl _, Le.refl _, Le.refl _, Le.refl _, trivial⟩ ⟨MOle.refl _, MOle.refl _, MOle.refl _, MOle.refl _, MOle.refl _, MOle.refl _, MOle.refl _, trivial⟩ ?_
              intro v hv IH5
              have hwv : IntKind.i64.wrap ((v : Int) + 1) = ((v + 1 : Nat) : Int) := wrap64 (by omega) (by omega)
              have hrl := rowAdd_len s.2 (stE t c o t.wits.length).1 v
              have hra := rowAdd_at s.2 (stE t c o t.wits.length).1 v v
              have hrn : rowAdd s.2 (stE t c o t.wits.length).1 (v + 1) = (rowAdd s.2 (stE t c o t.wits.length).1 v).set v ((rowAdd s.2 (stE t c o t.wits.length).1 v).getD v [] ++ [(stE t c o t.wits.length).1.getD v 0]) := rfl
              have hjr : v < t.wits.length → ((rowAdd s.2 (stE t c o t.wits.length).1 v).getD v []).length ≤ 4096 := fun h => by
                rw [hra, if_neg (by omega), hs3 v h]; omega
              generalize hR : rowAdd s.2 (stE t c o t.wits.length).1 v = rows at hrl hra hrn hjr ⊢
              show Run _ _ (lst (_ ++ [(2, .box 2 0), (4, .box 4 0), (9, .box 9 0), (10, .row 1000), (23, .obj 95), (124, .row 61), (126, .int .i64 (v : Int))])) (lstH [(2, .box 25 [tWit.L t.wits, tIL.L t.cols]), (4, .box 59 [.nils]), (9, .box 59 [.row 43]), (43, tI.M 27 3 rows), (61, tI.R 3 cl), (95, .mp (.ii M)), (1000, tI.R 3 (s.1 ++ [(c : Int)]))])
              by_cases hvl : v < t.wits.length
              · have hjr2 := hjr hvl
                have hxv : ((mget (cl.getD v 0) M).getD 0) = (stE t c o t.wits.length).1.getD v 0 := by rw [hat v hvl]; rfl
                refine Run.go ?_; (conv => whnf); repeat' (first | ((with_reducible refine Know.mk fun _ => ?_); conv => whnf) | ((with_reducible refine Need.mk ?_ ?_); exact nd; conv => whnf) | ((with_reducible refine Both.mk ?_ ?_) <;> conv => whnf) | ((with_reducible refine Any.mk fun b hb => ?_); conv => whnf) | ((with_reducible first | refine AskB.dec (fun hb => ?_) (fun hb => ?_) | refine AskB.ndec (fun hb => ?_) (fun hb => ?_) | refine AskB.mk (fun hb => ?_) (fun hb => ?_)) <;> first | (exfalso; omega) | (conv => whnf)) | ((with_reducible first | refine Run.drawX rfl (by decide +kernel) ?_ | refine Run.drawT rfl (by decide +kernel) ?_ | refine Run.drawW rfl (by decide +kernel) ?_); conv => whnf))
                all_goals try (exfalso; omega)
                refine Run.to [(1, .int .i64 o), (2, .box 2 0), (4, .box 4 0), (9, .box 9 0), (10, .row 1000), (23, .obj 95), (28, .int .i64 (v : Int)), (29, .int .i64 (cl.getD v 0)), (45, tI.L Ss), (46, .int .i64 (Ss.length : Int)), (47, .int .i64 (x : Int)), (124, .row 61), (125, .int .i64 (cl.length : Int)), (126, .int .i64 (v : Int))] [(2, .box 25 [tWit.L t.wits, tIL.L t.cols]), (4, .box 59 [.nils]), (9, .box 59 [.row 43]), (43, tI.M 27 3 rows), (61, tI.R 3 cl), (95, .mp (.ii M)), (1000, tI.R 3 (s.1 ++ [(c : Int)]))] ⟨Le.refl _, Le.refl _, Le.refl _, Le.refl _, Le.refl _, Le.refl _, Le.refl _, Le.refl _, Le.refl _, Le.refl _, Le.refl _, Le.refl _, Le.refl _, Le.refl _, trivial⟩ ⟨MOle.refl _, MOle.refl _, MOle.refl _, MOle.refl _, MOle.refl _, MOle.refl _, MOle.refl _, trivial⟩ ?_
                refine Run.drawS [11, 12, 14] (lst ([(1, .int .i64 o), (2, .box 2 0), (4, .box 4 0), (9, .box 9 0), (10, .row 1000), (23, .obj 95), (28, .int .i64 (v : Int)), (29, .int .i64 (cl.getD v 0)), (45, tI.L Ss), (46, .int .i64 (Ss.length : Int)), (47, .int .i64 (x : Int)), (124, .row 61), (125, .int .i64 (cl.length : Int)), (126, .int .i64 (v : Int))] ++ [(131, .box 9 0), (132, .row 43), (133, .int .i64 (v : Int)), (134, .box 9 0), (135, .row 43), (136, .int .i64 (v : Int)), (137, .radr 43 1 v 0), (138, .mrow 43 v), (139, .obj 95), (140, .int .i64 (cl.getD v 0)), (141, .int .i64 ((mget (cl.getD v 0) M).getD 0)), (144, .radr 43 1 v 0)])) rfl (by decide +kernel) (lst_dsts rfl) ?_
                refine ⟨?_, by decide +kernel, by decide, ?_⟩
                · intro i hi ha
                  have hc : i < 11 := by revert ha; revert i; decide +kernel
                  refine opAt_ok ?_
                  clear ha hi
                  have hcs : i = 0 ∨ i = 1 ∨ i = 2 ∨ i = 3 ∨ i = 4 ∨ i = 5 ∨ i = 6 ∨ i = 7 ∨ i = 8 ∨ i = 9 ∨ i = 10 := by omega
                  rcases hcs with rfl | rfl | rfl | rfl | rfl | rfl | rfl | rfl | rfl | rfl | rfl
                  all_goals ((conv => whnf); repeat' (first | ((with_reducible refine Know.mk fun _ => ?_); conv => whnf) | ((with_reducible refine Need.mk ?_ ?_); exact nd; conv => whnf) | ((with_reducible first | refine Both.mk ?_ ?_ | refine Any.mk fun b hb => ?_ | refine AskB.dec (fun hb => ?_) (fun hb => ?_) | refine AskB.ndec (fun hb => ?_) (fun hb => ?_) | refine AskB.mk (fun hb => ?_) (fun hb => ?_)) <;> conv => whnf) | ((with_reducible first | refine Run.drawX rfl (by decide +kernel) ?_ | refine Run.drawT rfl (by decide +kernel) ?_ | refine Run.drawW rfl (by decide +kernel) ?_); conv => whnf) | fail))
                  all_goals exact Le.refl _
                refine ⟨(upd (fun s => scrub 142 ((lst ([(1, .int .i64 o), (2, .box 2 0), (4, .box 4 0), (9, .box 9 0), (10, .row 1000), (23, .obj 95), (28, .int .i64 (v : Int)), (29, .int .i64 (cl.getD v 0)), (45, tI.L Ss), (46, .int .i64 (Ss.length : Int)), (47, .int .i64 (x : Int)), (124, .row 61), (125, .int .i64 (cl.length : Int)), (126, .int .i64 (v : Int))] ++ [(131, .box 9 0), (132, .row 43), (133, .int .i64 (v : Int)), (134, .box 9 0), (135, .row 43), (136, .int .i64 (v : Int)), (137, .radr 43 1 v 0), (138, .mrow 43 v), (139, .obj 95), (140, .int .i64 (cl.getD v 0)), (141, .int .i64 ((mget (cl.getD v 0) M).getD 0)), (144, .radr 43 1 v 0)])) s)) 142 (.row 142)), (upd (upd (scrubH 142 (lstH [(2, .box 25 [tWit.L t.wits, tIL.L t.cols]), (4, .box 59 [.nils]), (9, .box 59 [.row 43]), (43, tI.M 27 3 rows), (61, tI.R 3 cl), (95, .mp (.ii M)), (1000, tI.R 3 (s.1 ++ [(c : Int)]))])) 142 .dead) 142 (.row 3 1 1 (fun i j' => ([[AV.int .i64 ((mget (cl.getD v 0) M).getD 0)]].getD i []).getD j' .u))), fun listed rest hsz hpre next => ?_, ?_⟩
                · refine Run.stageOp (StatS.of (all := [11, 12, 14]) (by decide +kernel)) (scrub 142) (.row 142) rfl (by decide) rfl rfl rfl (fun s hs => ?_) (fun d hd => ?_) hsz hpre (fun G hG K stop hk => ?_) next
                  · have h1 : s ≠ 142 := fun e => hs (by subst e; rfl)
                    rw [upd_other _ _ h1]; exact Le.refl _
                  · cases hd; rw [upd_same]; exact Le.refl _
                  · have h66 : G 141 = .int .i64 ((mget (cl.getD v 0) M).getD 0) := hG 141 (by decide)
                    (conv => whnf)
                    rw [show ev G ((0, Operand.tmp 141) : Nat × Operand).snd = .int .i64 ((mget (cl.getD v 0) M).getD 0) from h66]
                    (conv => whnf)
                    exact hk
                refine ⟨?_, by decide +kernel, by decide, ?_⟩
                · intro i hi ha
                  have hc : i < 8 := by revert ha; revert i; decide +kernel
                  refine opAt_ok ?_
                  clear ha hi
                  have hcs : i = 0 ∨ i = 1 ∨ i = 2 ∨ i = 3 ∨ i = 4 ∨ i = 5 ∨ i = 6 ∨ i = 7 := by omega
                  rcases hcs with rfl | rfl | rfl | rfl | rfl | rfl | rfl | rfl
                  all_goals ((conv => whnf); repeat' (first | ((with_reducible refine Know.mk fun _ => ?_); conv => whnf) | ((with_reducible refine Need.mk ?_ ?_); exact nd; conv => whnf) | ((with_reducible first | refine Both.mk ?_ ?_ | refine Any.mk fun b hb => ?_ | refine AskB.dec (fun hb => ?_) (fun hb => ?_) | refine AskB.ndec (fun hb => ?_) (fun hb => ?_) | refine AskB.mk (fun hb => ?_) (fun hb => ?_)) <;> conv => whnf) | ((with_reducible first | refine Run.drawX rfl (by decide +kernel) ?_ | refine Run.drawT rfl (by decide +kernel) ?_ | refine Run.drawW rfl (by decide +kernel) ?_); conv => whnf) | fail))
                  all_goals exact Le.refl _
                refine ⟨(upd (fun zz => scrub 143 (scrT 43 2000 ((upd (fun s => scrub 142 ((lst ([(1, .int .i64 o), (2, .box 2 0), (4, .box 4 0), (9, .box 9 0), (10, .row 1000), (23, .obj 95), (28, .int .i64 (v : Int)), (29, .int .i64 (cl.getD v 0)), (45, tI.L Ss), (46, .int .i64 (Ss.length : Int)), (47, .int .i64 (x : Int)), (124, .row 61), (125, .int .i64 (cl.length : Int)), (126, .int .i64 (v : Int))] ++ [(131, .box 9 0), (132, .row 43), (133, .int .i64 (v : Int)), (134, .box 9 0), (135, .row 43), (136, .int .i64 (v : Int)), (137, .radr 43 1 v 0), (138, .mrow 43 v), (139, .obj 95), (140, .int .i64 (cl.getD v 0)), (141, .int .i64 ((mget (cl.getD v 0) M).getD 0)), (144, .radr 43 1 v 0)])) s)) 142 (.row 142)) zz))) 143 (.row 143)), ?_⟩
                apply Exists.intro
                refine ⟨fun listed rest hsz hpre next => ?_, ?_⟩
                · refine Run.stageTake (StatS.of (all := [11, 12, 14]) (by decide +kernel)) 138 2000 (scrub 143) (.row 143) rfl (by decide) rfl rfl rfl (by decide) (by decide) rfl rfl rfl (fun s hs => ?_) rfl (fun d hd => ?_) hsz hpre (fun G hG hGs K stop hk => ?_) next
                  · have h1 : s ≠ 143 := fun e => hs (by subst e; rfl)
                    rw [upd_other _ _ h1]; exact Le.refl _
                  · cases hd; rw [upd_same]; exact Le.refl _
                  · have h67 : G 142 = .row 142 := hG 142 (by decide) (by decide)
                    (conv => whnf)
                    rw [show ev G (Operand.tmp 138) = .row 2000 from hGs, show ev G (Operand.tmp 142) = .row 142 from h67]
                    (conv => whnf); repeat' (first | ((with_reducible refine Know.mk fun _ => ?_); conv => whnf) | ((with_reducible refine Need.mk ?_ ?_); exact nd; conv => whnf) | ((with_reducible first | refine Both.mk ?_ ?_ | refine Any.mk fun b hb => ?_ | refine AskB.dec (fun hb => ?_) (fun hb => ?_) | refine AskB.ndec (fun hb => ?_) (fun hb => ?_) | refine AskB.mk (fun hb => ?_) (fun hb => ?_)) <;> conv => whnf) | ((with_reducible first | refine Run.drawX rfl (by decide +kernel) ?_ | refine Run.drawT rfl (by decide +kernel) ?_ | refine Run.drawW rfl (by decide +kernel) ?_); conv => whnf))
                    exact hk
                refine ⟨?_, by decide +kernel, by decide, ?_⟩
                · intro i hi ha
                  have hc : i = 0 ∨ i = 1 ∨ i = 2 ∨ i = 13 := by revert ha; revert i; decide +kernel
                  refine opAt_ok ?_
                  clear ha hi
                  rcases hc with rfl | rfl | rfl | rfl
                  all_goals ((conv => whnf); repeat' (first | ((with_reducible refine Know.mk fun _ => ?_); conv => whnf) | ((with_reducible refine Need.mk ?_ ?_); exact nd; conv => whnf) | ((with_reducible first | refine Both.mk ?_ ?_ | refine Any.mk fun b hb => ?_ | refine AskB.dec (fun hb => ?_) (fun hb => ?_) | refine AskB.ndec (fun hb => ?_) (fun hb => ?_) | refine AskB.mk (fun hb => ?_) (fun hb => ?_)) <;> conv => whnf) | ((with_reducible first | refine Run.drawX rfl (by decide +kernel) ?_ | refine Run.drawT rfl (by decide +kernel) ?_ | refine Run.drawW rfl (by decide +kernel) ?_); conv => whnf) | fail))
                  all_goals exact Le.refl _
                refine ⟨(fun zz => scrubI 43 ((upd (fun zz => scrub 143 (scrT 43 2000 ((upd (fun s => scrub 142 ((lst ([(1, .int .i64 o), (2, .box 2 0), (4, .box 4 0), (9, .box 9 0), (10, .row 1000), (23, .obj 95), (28, .int .i64 (v : Int)), (29, .int .i64 (cl.getD v 0)), (45, tI.L Ss), (46, .int .i64 (Ss.length : Int)), (47, .int .i64 (x : Int)), (124, .row 61), (125, .int .i64 (cl.length : Int)), (126, .int .i64 (v : Int))] ++ [(131, .box 9 0), (132, .row 43), (133, .int .i64 (v : Int)), (134, .box 9 0), (135, .row 43), (136, .int .i64 (v : Int)), (137, .radr 43 1 v 0), (138, .mrow 43 v), (139, .obj 95), (140, .int .i64 (cl.getD v 0)), (141, .int .i64 ((mget (cl.getD v 0) M).getD 0)), (144, .radr 43 1 v 0)])) s)) 142 (.row 142)) zz))) 143 (.row 143)) zz)), ?_⟩
                apply Exists.intro
                refine ⟨fun listed rest hsz hpre next => ?_, ?_⟩
                · refine Run.stageOp (StatS.of (all := [11, 12, 14]) (by decide +kernel)) (scrubI 43) .u rfl (by decide) rfl rfl rfl (fun s hs => Le.refl _) (fun d hd => by cases hd) hsz hpre (fun G hG K stop hk => ?_) next
                  have h68 : G 143 = .row 143 := hG 143 (by decide)
                  have h69 : G 144 = .radr 43 1 v 0 := hG 144 (by decide)
                  (conv => whnf)
                  rw [show ev G (Operand.tmp 144) = .radr 43 1 v 0 from h69, show ev G (Operand.tmp 143) = .row 143 from h68]
                  (conv => whnf); repeat' (first | ((with_reducible refine Know.mk fun _ => ?_); conv => whnf) | ((with_reducible refine Need.mk ?_ ?_); exact nd; conv => whnf) | ((with_reducible first | refine Both.mk ?_ ?_ | refine Any.mk fun b hb => ?_ | refine AskB.dec (fun hb => ?_) (fun hb => ?_) | refine AskB.ndec (fun hb => ?_) (fun hb => ?_) | refine AskB.mk (fun hb => ?_) (fun hb => ?_)) <;> conv => whnf) | ((with_reducible first | refine Run.drawX rfl (by decide +kernel) ?_ | refine Run.drawT rfl (by decide +kernel) ?_ | refine Run.drawW rfl (by decide +kernel) ?_); conv => whnf))
                  exact hk
                refine ⟨fun i hi ha => absurd ha (by revert i; decide +kernel), ?_⟩
                refine Run.go ?_; (conv => whnf); repeat' (first | ((with_reducible refine Know.mk fun _ => ?_); conv => whnf) | ((with_reducible refine Need.mk ?_ ?_); exact nd; conv => whnf) | ((with_reducible first | refine Both.mk ?_ ?_ | refine Any.mk fun b hb => ?_ | refine AskB.dec (fun hb => ?_) (fun hb => ?_) | refine AskB.ndec (fun hb => ?_) (fun hb => ?_) | refine AskB.mk (fun hb => ?_) (fun hb => ?_)) <;> conv => whnf) | ((with_reducible first | refine Run.drawX rfl (by decide +kernel) ?_ | refine Run.drawT rfl (by decide +kernel) ?_ | refine Run.drawW rfl (by decide +kernel) ?_); conv => whnf))
                refine Run.to _ _ ?_ ?_ (IH5 (v + 1) (by omega) (by omega))
                · exact ⟨Le.refl _, Le.refl _, Le.refl _, Le.refl _, Le.refl _, Le.refl _, Le.refl _, Le.refl _, Le.refl _, Le.refl _, Le.refl _, Le.int hwv, trivial⟩
                · rw [hrn, ← hxv]
                  exact ⟨MOle.refl _, MOle.refl _, MOle.refl _, tI.M_plug 27 3 rows v _ _ _ _ (by omega) (by simp) (tI.push 3 (rows.getD v []) _ _ (one0 (Le.refl _))).2.2.2, MOle.refl _, MOle.refl _, MOle.refl _, trivial⟩
              · obtain rfl : v = t.wits.length := by omega
                refine Run.go ?_; (conv => whnf); repeat' (first | ((with_reducible refine Know.mk fun _ => ?_); conv => whnf) | ((with_reducible refine Need.mk ?_ ?_); exact nd; conv => whnf) | ((with_reducible refine Both.mk ?_ ?_) <;> conv => whnf) | ((with_reducible refine Any.mk fun b hb => ?_); conv => whnf) | ((with_reducible first | refine AskB.dec (fun hb => ?_) (fun hb => ?_) | refine AskB.ndec (fun hb => ?_) (fun hb => ?_) | refine AskB.mk (fun hb => ?_) (fun hb => ?_)) <;> first | (exfalso; omega) | (conv => whnf)) | ((with_reducible first | refine Run.drawX rfl (by decide +kernel) ?_ | refine Run.drawT rfl (by decide +kernel) ?_ | refine Run.drawW rfl (by decide +kernel) ?_); conv => whnf))
                all_goals try (exfalso; omega)
                refine Run.to _ _ ?_ ?_ (IH (x + 1) (by omega) (by omega))
                · exact ⟨Le.refl _, Le.refl _, Le.refl _, Le.refl _, Le.refl _, Le.refl _, Le.refl _, Le.int hwx, trivial⟩
                · rw [hnxt, hR]
                  exact ⟨MOle.refl _, MOle.refl _, MOle.refl _, MOle.refl _, MOle.refl _, trivial⟩
      · obtain rfl : x = Ss.length := by omega
        rw [List.take_length] at hS
        rw [← hof, hS]
        refine Run.go ?_; (conv => whnf); repeat' (first | ((with_reducible refine Know.mk fun _ => ?_); conv => whnf) | ((with_reducible refine Need.mk ?_ ?_); exact nd; conv => whnf) | ((with_reducible refine Both.mk ?_ ?_) <;> conv => whnf) | ((with_reducible refine Any.mk fun b hb => ?_); conv => whnf) | ((with_reducible first | refine AskB.dec (fun hb => ?_) (fun hb => ?_) | refine AskB.ndec (fun hb => ?_) (fun hb => ?_) | refine AskB.mk (fun hb => ?_) (fun hb => ?_)) <;> first | (exfalso; omega) | (conv => whnf)) | ((with_reducible first | refine Run.drawX rfl (by decide +kernel) ?_ | refine Run.drawT rfl (by decide +kernel) ?_ | refine Run.drawW rfl (by decide +kernel) ?_); conv => whnf))
        all_goals try (exfalso; omega)
        exact Run.leaveC3 (.inr ⟨_, rfl⟩) rfl Tryd.func37 rfl rfl rfl (Nat.le_of_ble_eq_true rfl) (agg1 (mx_out _ _)) (Le.refl _) (Le.refl _)
  · rw [sitesL_no o hok, ofL_no o hok]
    (conv => whnf); repeat' (first | ((with_reducible refine Know.mk fun _ => ?_); conv => whnf) | ((with_reducible refine Need.mk ?_ ?_); exact nd; conv => whnf) | ((with_reducible refine Both.mk ?_ ?_) <;> conv => whnf) | ((with_reducible refine Any.mk fun b hb => ?_); conv => whnf) | ((with_reducible first | refine AskB.dec (fun hb => ?_) (fun hb => ?_) | refine AskB.ndec (fun hb => ?_) (fun hb => ?_) | refine AskB.mk (fun hb => ?_) (fun hb => ?_)) <;> first | (exfalso; omega) | (conv => whnf)) | ((with_reducible first | refine Run.drawX rfl (by decide +kernel) ?_ | refine Run.drawT rfl (by decide +kernel) ?_ | refine Run.drawW rfl (by decide +kernel) ?_); conv => whnf))
    all_goals try (exfalso; omega)
    exact Run.leaveC3 (.inr ⟨_, rfl⟩) rfl Tryd.func37 rfl rfl rfl (Nat.le_of_ble_eq_true rfl) (agg1 (Le.nils _ _)) (Le.nils _ _) (Le.refl _)
end Go.Proofs.YtnadacaoehpdnaaDoor.V

namespace Go.Proofs.YtnadacaoehpdnaaDoor.V
set_option linter.unusedVariables false
set_option linter.unusedSimpArgs false
open Go Go.Proofs Go.RowKit
set_option maxRecDepth 100000
/-- What a kept column is. -/
theorem of_at (t : Tab) (o : Int) : ∀ C k, k < (ofE t o C).1.length → ∃ c : Nat, (ofE t o C).1.getD k 0 = (c : Int) ∧ c < C ∧ 2 ≤ (stE t c o t.wits.length).2 ∧ (c : Int) ∈ sitesE t o C ∧ ∀ i, i < t.wits.length → ((ofE t o C).2.getD i []).getD k 0 = (stE t c o t.wits.length).1.getD i 0
  | 0, k, h => absurd h (Nat.not_lt_zero _)
  | C + 1, k, h => by
    obtain ⟨h1, h2, h3⟩ := ofE_ok t o C
    have hs : sitesE t o (C + 1) = if 1 < (readE t C o t.wits.length).length then sitesE t o C ++ [(C : Int)] else sitesE t o C := rfl
    have hmem : ∀ x ∈ sitesE t o C, x ∈ sitesE t o (C + 1) := fun x hx => by
      rw [hs]; split
      · exact List.mem_append_left _ hx
      · exact hx
    have ho : ofE t o (C + 1) = if (stE t C o t.wits.length).2 < 2 then ofE t o C else ((ofE t o C).1 ++ [(C : Int)], rowAdd (ofE t o C).2 (stE t C o t.wits.length).1 t.wits.length) := rfl
    by_cases hl : (stE t C o t.wits.length).2 < 2
    · rw [if_pos hl] at ho
      rw [ho] at h ⊢
      obtain ⟨c, a, b, d, e, f⟩ := of_at t o C k h
      exact ⟨c, a, by omega, d, hmem _ e, f⟩
    · rw [if_neg hl] at ho
      rw [ho] at h ⊢
      dsimp only at h ⊢
      rw [List.length_append, List.length_singleton] at h
      by_cases e : k = (ofE t o C).1.length
      · subst e
        refine ⟨C, getD_app2, by omega, by omega, ?_, fun i hi => ?_⟩
        · have hr : 1 < (readE t C o t.wits.length).length := by
            by_cases e : 1 < (readE t C o t.wits.length).length
            · exact e
            · exact absurd (one_few (read_inv t C o t.wits.length) (read_cov t C o t.wits.length) (by omega)) hl
          rw [hs, if_pos hr]; exact List.mem_append_right _ (List.mem_singleton.mpr rfl)
        · rw [rowAdd_at, if_pos ⟨hi, by omega⟩, ← h3 i hi]; exact getD_app2
      · obtain ⟨c, a, b, d, e2, f⟩ := of_at t o C k (by omega)
        refine ⟨c, by rw [getD_app1 (by omega)]; exact a, by omega, d, hmem _ e2, fun i hi => ?_⟩
        rw [rowAdd_at, if_pos ⟨hi, by omega⟩, getD_app1 (by have := h3 i hi; omega)]
        exact f i hi
theorem stE_pre (t : Tab) (c : Nat) (o : Int) : ∀ m i k, k < i → i ≤ m → (stE t c o m).1.getD k 0 = (stE t c o i).1.getD k 0
  | 0, i, k, h1, h2 => absurd h1 (by omega)
  | m + 1, i, k, h1, h2 => by
    by_cases e : i = m + 1
    · rw [e]
    · rw [← stE_pre t c o m i k h1 (by omega)]
      have hl := (stE_ok t c o m).1
      show (stNx t c o m (stE t c o m)).1.getD k 0 = _
      unfold stNx
      split
      · exact getD_app1 (by omega)
      · split <;> exact getD_app1 (by omega)
/-- A row's state: below none for a gap; a new one is the next one. -/
theorem st_step (t : Tab) (c : Nat) (o : Int) (i : Nat) : ((stE t c o (i + 1)).1.getD i 0 < 0 ↔ lacB t c i = true) ∧ (stE t c o (i + 1)).1.getD i 0 ≤ ((stE t c o i).2 : Int) ∧ (stE t c o (i + 1)).2 = if (stE t c o (i + 1)).1.getD i 0 = ((stE t c o i).2 : Int) then (stE t c o i).2 + 1 else (stE t c o i).2 := by
  obtain ⟨s1, s2, s3⟩ := stE_ok t c o i
  have hf := fndS_lt (ms := (stE t c o i).1) (p := eqSt t c o i) (n := ((stE t c o i).2 : Int)) (fun k hk => (s3 k (by omega)).2) (by omega) i (by omega)
  have hS : stE t c o (i + 1) = if lacB t c i = true then ((stE t c o i).1 ++ [-1], (stE t c o i).2) else if fndS (stE t c o i).1 (eqSt t c o i) i < 0 then ((stE t c o i).1 ++ [((stE t c o i).2 : Int)], (stE t c o i).2 + 1) else ((stE t c o i).1 ++ [fndS (stE t c o i).1 (eqSt t c o i) i], (stE t c o i).2) := rfl
  generalize stE t c o i = st at s1 s2 s3 hf hS
  have hae : ∀ x : Int, (st.1 ++ [x]).getD i 0 = x := fun x => by rw [← s1]; exact getD_app2
  rw [hS]
  by_cases hl : lacB t c i = true
  · rw [if_pos hl]
    dsimp only
    rw [hae, if_neg (by omega)]
    exact ⟨⟨fun _ => hl, fun _ => by decide⟩, by omega, rfl⟩
  · rw [if_neg hl]
    by_cases hn : fndS st.1 (eqSt t c o i) i < 0
    · rw [if_pos hn]
      dsimp only
      rw [hae, if_pos rfl]
      exact ⟨⟨fun h => by omega, fun h => absurd h hl⟩, Int.le_refl _, rfl⟩
    · rw [if_neg hn]
      dsimp only
      rw [hae, if_neg (by omega)]
      exact ⟨⟨fun h => by omega, fun h => absurd h hl⟩, by omega, rfl⟩
theorem fndS_some {ms : List Int} {p : Nat → Bool} : ∀ n, 0 ≤ fndS ms p n → ∃ k, k < n ∧ p k = true
  | 0, h => absurd h (by show ¬ (0 : Int) ≤ -1; decide)
  | n + 1, h => by
    unfold fndS at h
    split at h
    · obtain ⟨k, hk, e⟩ := fndS_some n h
      exact ⟨k, by omega, e⟩
    · split at h
      · rename_i h2; exact ⟨n, by omega, h2.2⟩
      · exact absurd h (by decide)
theorem eqSt_and {t : Tab} {c i k : Nat} {o : Int} : eqSt t c o i k = true ↔ thB t c k = thB t c i ∧ keyAt t c o k = keyAt t c o i := by
  unfold eqSt; rw [Bool.and_eq_true, decide_eq_true_eq, decide_eq_true_eq]
/-- One state alone, no gap: all rows read the same. -/
theorem few_same {t : Tab} {c n : Nat} {o : Int} (h : ∀ i, i < n → ¬ lacB t c i = true) : ∀ i, i ≤ n → (stE t c o i).2 ≤ 1 → ∀ k, k < i → eqSt t c o k 0 = true
  | 0, _, _, k, hk => absurd hk (Nat.not_lt_zero _)
  | i + 1, hi, h1, k, hk => by
    obtain ⟨s1, s2, s3⟩ := stE_ok t c o i
    have hS : stE t c o (i + 1) = if lacB t c i = true then ((stE t c o i).1 ++ [-1], (stE t c o i).2) else if fndS (stE t c o i).1 (eqSt t c o i) i < 0 then ((stE t c o i).1 ++ [((stE t c o i).2 : Int)], (stE t c o i).2 + 1) else ((stE t c o i).1 ++ [fndS (stE t c o i).1 (eqSt t c o i) i], (stE t c o i).2) := rfl
    rw [if_neg (h i (by omega))] at hS
    have hpos : ∀ q, q < i → 0 ≤ (stE t c o i).1.getD q 0 := fun q hq => by
      rw [stE_pre t c o i (q + 1) q (by omega) (by omega)]
      have := (st_step t c o q).1
      by_cases e : (stE t c o (q + 1)).1.getD q 0 < 0
      · exact absurd (this.mp e) (h q (by omega))
      · omega
    have ih := few_same (o := o) h i (by omega)
    by_cases hn : fndS (stE t c o i).1 (eqSt t c o i) i < 0
    · rw [if_pos hn] at hS
      rw [hS] at h1
      dsimp only at h1
      have hi0 : i = 0 := by
        by_cases e : i = 0
        · exact e
        · have a := hpos 0 (by omega)
          have b := (s3 0 (by omega)).2
          omega
      have hk0 : k = 0 := by omega
      rw [hk0]
      exact eqSt_and.mpr ⟨rfl, rfl⟩
    · rw [if_neg hn] at hS
      rw [hS] at h1
      have ih := ih h1
      by_cases e : k = i
      · obtain ⟨q, hq, hp⟩ := fndS_some (ms := (stE t c o i).1) (p := eqSt t c o i) i (by omega)
        have a := eqSt_and.mp hp
        have b := eqSt_and.mp (ih q hq)
        rw [e]
        exact eqSt_and.mpr ⟨b.1.trans a.1, b.2.trans a.2⟩
      · exact ih k (by omega)
/-- Without gaps two readings are two states. -/
theorem two_st {t : Tab} {c n : Nat} {o : Int} {l : List Rd} (hi : RInv t c o n l) (hc : RCov t c o n l) (h : ∀ i, i < n → ¬ lacB t c i = true) (hl : 1 < l.length) : ¬ (stE t c o n).2 < 2 := fun hlt => by
  have hs := few_same (o := o) h n (Nat.le_refl _) (by omega)
  have p0 := (hi.ws 0 (by omega)).pos
  have p1 := (hi.ws 1 hl).pos
  have a0 := (hi.ws 0 (by omega)).at' 0 p0
  have a1 := (hi.ws 1 hl).at' 0 p1
  have e0 := eqSt_and.mp (hs ((l.getD 0 rd0).wits.getD 0 0).toNat (by omega))
  have e1 := eqSt_and.mp (hs ((l.getD 1 rd0).wits.getD 0 0).toNat (by omega))
  have := (class_iff hi hc (i1 := 0) (i2 := 1) (by omega) hl p0 p1).mp (eqSt_and.mpr ⟨e0.1.symm.trans e1.1, e0.2.symm.trans e1.2⟩)
  omega
theorem of_all {t : Tab} {o : Int} : ∀ C, (∀ c i, c < C → i < t.wits.length → ¬ lacB t c i = true) → (ofE t o C).1 = sitesE t o C
  | 0, _ => rfl
  | C + 1, h => by
    have ih := of_all (o := o) C (fun c i hc => h c i (by omega))
    unfold ofE sitesE
    by_cases hr : 1 < (readE t C o t.wits.length).length
    · rw [if_pos hr, if_neg (two_st (read_inv t C o t.wits.length) (read_cov t C o t.wits.length) (fun i hi => h C i (by omega) hi) hr), ih]
    · rw [if_neg hr, if_pos (one_few (read_inv t C o t.wits.length) (read_cov t C o t.wits.length) (by omega)), ih]
/-- Is a word the gap's sign? -/
def lostJ (ws : List Wrd) : Nat → Bool
  | 0 => false
  | j + 1 => lostJ ws j || decide ((ws.getD j tWrd.z).text = dag)
def lostI (t : Tab) : Nat → Bool
  | 0 => false
  | i + 1 => lostI t i || lostJ (witAt t i).words (witAt t i).words.length
theorem lostJ_no {ws : List Wrd} : ∀ n, lostJ ws n = false → ∀ j, j < n → (ws.getD j tWrd.z).text ≠ dag
  | 0, _, j, hj => absurd hj (Nat.not_lt_zero _)
  | n + 1, h, j, hj => by
    unfold lostJ at h
    rw [Bool.or_eq_false_iff] at h
    by_cases e : j = n
    · rw [e]; exact of_decide_eq_false h.2
    · exact lostJ_no n h.1 j (by omega)
theorem lostI_no {t : Tab} : ∀ n, lostI t n = false → ∀ i, i < n → lostJ (witAt t i).words (witAt t i).words.length = false
  | 0, _, i, hi => absurd hi (Nat.not_lt_zero _)
  | n + 1, h, i, hi => by
    unfold lostI at h
    rw [Bool.or_eq_false_iff] at h
    by_cases e : i = n
    · rw [e]; exact h.2
    · exact lostI_no n h.1 i (by omega)
theorem no_lac {t : Tab} (hok : OkT t) (h : lostI t t.wits.length = false) {c i : Nat} (hc : c < t.cols.length) (hi : i < t.wits.length) : ¬ lacB t c i = true := fun hl => by
  unfold lacB thB at hl
  rw [Bool.and_eq_true, decide_eq_true_eq] at hl
  obtain ⟨_, ha⟩ := at_ok hok hc hi
  have h0 : ¬ atC t c i < 0 := fun hh => by rw [decide_eq_true hh] at hl; exact absurd hl.1 (by decide)
  have h2 := hl.2
  unfold textAt at h2
  rw [if_neg h0] at h2
  exact lostJ_no _ (lostI_no _ h i hi) (atC t c i).toNat (by omega) h2
/-- Does a number stand in a list? -/
def inJ (l : List Int) (c : Int) : Nat → Bool
  | 0 => false
  | j + 1 => inJ l c j || decide (l.getD j 0 = c)
theorem inJ_yes {l : List Int} {c : Int} : ∀ n j, j < n → l.getD j 0 = c → inJ l c n = true
  | 0, j, h, _ => absurd h (Nat.not_lt_zero _)
  | n + 1, j, h, e => by
    unfold inJ
    by_cases e2 : j = n
    · rw [← e2, decide_eq_true e, Bool.or_true]
    · rw [inJ_yes n j (by omega) e, Bool.true_or]
theorem inJ_mem {l : List Int} {c : Int} (h : c ∈ l) : inJ l c l.length = true := by
  obtain ⟨j, hj, e⟩ := List.getElem_of_mem h
  exact inJ_yes _ j hj (by rw [List.getD, List.getElem?_eq_getElem hj]; exact e)
theorem of_okM {t : Tab} (o : Int) (hok : OkT t) : OkM (ofE t o t.cols.length).2 := by
  obtain ⟨h1, h2, h3⟩ := ofE_ok t o t.cols.length
  have hn1 := hok.n1
  have hn12 := hok.n12
  have hnc := hok.nc
  refine ⟨by omega, by omega, fun i hi => ⟨?_, ?_, fun j hj => ?_⟩⟩
  · exact (h3 i (by omega)).trans (h3 0 (by omega)).symm
  · have : ((ofE t o t.cols.length).2.getD i tRow.z).length = _ := h3 i (by omega)
    omega
  · have hl : ((ofE t o t.cols.length).2.getD i tRow.z).length = _ := h3 i (by omega)
    obtain ⟨c, _, _, _, _, f⟩ := of_at t o t.cols.length j (by omega)
    have hf : ((ofE t o t.cols.length).2.getD i tRow.z).getD j tI.z = _ := f i (by omega)
    rw [hf]
    obtain ⟨s1, s2, s3⟩ := stE_ok t c o t.wits.length
    have := s3 i (by omega)
    omega
end Go.Proofs.YtnadacaoehpdnaaDoor.V

namespace Go.Proofs.YtnadacaoehpdnaaDoor.V
set_option linter.unusedVariables false
set_option linter.unusedSimpArgs false
open Go Go.Proofs Go.RowKit
set_option maxRecDepth 100000
set_option maxHeartbeats 4000000
theorem matrixSites_fn (t : Tab) (o : Int) (hf : FitT t) : Fn Tryd.prog 13 [tbA t, .int .i64 o] .tt := by
  refine Fn.of Tryd.f13 _ Tryd.func13 rfl (by decide) (by show 2 ≤ _; decide) tbOk 213 rfl fun S w0 gl => ?_
  have hfc := hf.cols
  have hfw := hf.wits
  refine Run.go ?_; (conv => whnf); repeat' (first | ((with_reducible refine Know.mk fun _ => ?_); conv => whnf) | ((with_reducible refine Need.mk ?_ ?_); exact nd; conv => whnf) | ((with_reducible first | refine Both.mk ?_ ?_ | refine Any.mk fun b hb => ?_ | refine AskB.dec (fun hb => ?_) (fun hb => ?_) | refine AskB.ndec (fun hb => ?_) (fun hb => ?_) | refine AskB.mk (fun hb => ?_) (fun hb => ?_)) <;> conv => whnf) | ((with_reducible first | refine Run.drawX rfl (by decide +kernel) ?_ | refine Run.drawT rfl (by decide +kernel) ?_ | refine Run.drawW rfl (by decide +kernel) ?_); conv => whnf))
  refine Run.callBX awake27_fn rfl rfl trivial rfl rfl rfl ?_
  (conv => whnf); repeat' (first | ((with_reducible refine Know.mk fun _ => ?_); conv => whnf) | ((with_reducible refine Need.mk ?_ ?_); exact nd; conv => whnf) | ((with_reducible first | refine Both.mk ?_ ?_ | refine Any.mk fun b hb => ?_ | refine AskB.dec (fun hb => ?_) (fun hb => ?_) | refine AskB.ndec (fun hb => ?_) (fun hb => ?_) | refine AskB.mk (fun hb => ?_) (fun hb => ?_)) <;> conv => whnf) | ((with_reducible first | refine Run.drawX rfl (by decide +kernel) ?_ | refine Run.drawT rfl (by decide +kernel) ?_ | refine Run.drawW rfl (by decide +kernel) ?_); conv => whnf))
  refine Run.callBX (of37_fn t o hf) rfl rfl ⟨tb_le t (Le.refl _) (Le.refl _), Le.refl _, trivial⟩ rfl rfl rfl ?_
  by_cases hok : OkT t
  case neg =>
    rw [ofL_no o hok]
    (conv => whnf); repeat' (first | ((with_reducible refine Know.mk fun _ => ?_); conv => whnf) | ((with_reducible refine Need.mk ?_ ?_); exact nd; conv => whnf) | ((with_reducible refine Both.mk ?_ ?_) <;> conv => whnf) | ((with_reducible refine Any.mk fun b hb => ?_); conv => whnf) | ((with_reducible first | refine AskB.dec (fun hb => ?_) (fun hb => ?_) | refine AskB.ndec (fun hb => ?_) (fun hb => ?_) | refine AskB.mk (fun hb => ?_) (fun hb => ?_)) <;> first | (exfalso; omega) | (conv => whnf)) | ((with_reducible first | refine Run.drawX rfl (by decide +kernel) ?_ | refine Run.drawT rfl (by decide +kernel) ?_ | refine Run.drawW rfl (by decide +kernel) ?_); conv => whnf))
    all_goals try (exfalso; omega)
    all_goals first
      | exact absurd rfl hb
      | exact Run.leave (ts := [4]) (.inr ⟨_, rfl⟩) rfl Tryd.func13 rfl (Le.refl _)
  by_cases hbo : badO o
  case pos =>
    rw [ofL_bad hok hbo]
    (conv => whnf); repeat' (first | ((with_reducible refine Know.mk fun _ => ?_); conv => whnf) | ((with_reducible refine Need.mk ?_ ?_); exact nd; conv => whnf) | ((with_reducible refine Both.mk ?_ ?_) <;> conv => whnf) | ((with_reducible refine Any.mk fun b hb => ?_); conv => whnf) | ((with_reducible first | refine AskB.dec (fun hb => ?_) (fun hb => ?_) | refine AskB.ndec (fun hb => ?_) (fun hb => ?_) | refine AskB.mk (fun hb => ?_) (fun hb => ?_)) <;> first | (exfalso; omega) | (conv => whnf)) | ((with_reducible first | refine Run.drawX rfl (by decide +kernel) ?_ | refine Run.drawT rfl (by decide +kernel) ?_ | refine Run.drawW rfl (by decide +kernel) ?_); conv => whnf))
    all_goals try (exfalso; omega)
    all_goals first
      | exact absurd rfl hb
      | exact Run.leave (ts := [4]) (.inr ⟨_, rfl⟩) rfl Tryd.func13 rfl (Le.refl _)
  rw [ofL_ok hok hbo]
  (conv => whnf); repeat' (first | ((with_reducible refine Know.mk fun _ => ?_); conv => whnf) | ((with_reducible refine Need.mk ?_ ?_); exact nd; conv => whnf) | ((with_reducible refine Both.mk ?_ ?_) <;> conv => whnf) | ((with_reducible refine Any.mk fun b hb => ?_); conv => whnf) | ((with_reducible first | refine AskB.dec (fun hb => ?_) (fun hb => ?_) | refine AskB.ndec (fun hb => ?_) (fun hb => ?_) | refine AskB.mk (fun hb => ?_) (fun hb => ?_)) <;> first | (exfalso; omega) | (conv => whnf)) | ((with_reducible first | refine Run.drawX rfl (by decide +kernel) ?_ | refine Run.drawT rfl (by decide +kernel) ?_ | refine Run.drawW rfl (by decide +kernel) ?_); conv => whnf))
  all_goals try (exfalso; omega)
  refine Run.callBX (sites_fn t o hf) rfl rfl ⟨tb_le t (Le.refl _) (Le.refl _), Le.refl _, trivial⟩ rfl rfl rfl ?_
  rw [sitesL_ok hok hbo]
  obtain ⟨hcl, hml, hmr⟩ := ofE_ok t o t.cols.length
  have hat := of_at t o t.cols.length
  have hom := codeM_yes (of_okM o hok)
  have hall : lostI t t.wits.length = false → (ofE t o t.cols.length).1 = sitesE t o t.cols.length := fun h => of_all _ fun c i hc hi => no_lac hok h hc hi
  have hsl := sites_len t o t.cols.length
  have hn12 := hok.n12
  have hn1 := hok.n1
  have hnc := hok.nc
  generalize (ofE t o t.cols.length).2 = m at hml hmr hat hom ⊢
  generalize (ofE t o t.cols.length).1 = cs at hcl hmr hat hall ⊢
  generalize sitesE t o t.cols.length = ss at hat hall hsl ⊢
  (conv => whnf); repeat' (first | ((with_reducible refine Know.mk fun _ => ?_); conv => whnf) | ((with_reducible refine Need.mk ?_ ?_); exact nd; conv => whnf) | ((with_reducible refine Both.mk ?_ ?_) <;> conv => whnf) | ((with_reducible refine Any.mk fun b hb => ?_); conv => whnf) | ((with_reducible first | refine AskB.dec (fun hb => ?_) (fun hb => ?_) | refine AskB.ndec (fun hb => ?_) (fun hb => ?_) | refine AskB.mk (fun hb => ?_) (fun hb => ?_)) <;> first | (exfalso; omega) | (conv => whnf)) | ((with_reducible first | refine Run.drawX rfl (by decide +kernel) ?_ | refine Run.drawT rfl (by decide +kernel) ?_ | refine Run.drawW rfl (by decide +kernel) ?_); conv => whnf))
  all_goals try (exfalso; omega)
  refine Run.callBX (check32_fn m) rfl rfl ⟨agg1 (Le.refl _), trivial⟩ rfl rfl rfl ?_
  rw [hom]
  have hm0 : (m.getD (0 : Int).toNat tRow.z).length = cs.length := hmr 0 (by omega)
  (conv => whnf); repeat' (first | ((with_reducible refine Know.mk fun _ => ?_); conv => whnf) | ((with_reducible refine Need.mk ?_ ?_); exact nd; conv => whnf) | ((with_reducible refine Both.mk ?_ ?_) <;> conv => whnf) | ((with_reducible refine Any.mk fun b hb => ?_); conv => whnf) | ((with_reducible first | refine AskB.dec (fun hb => ?_) (fun hb => ?_) | refine AskB.ndec (fun hb => ?_) (fun hb => ?_) | refine AskB.mk (fun hb => ?_) (fun hb => ?_)) <;> first | (exfalso; omega) | (conv => whnf)) | ((with_reducible first | refine Run.drawX rfl (by decide +kernel) ?_ | refine Run.drawT rfl (by decide +kernel) ?_ | refine Run.drawW rfl (by decide +kernel) ?_); conv => whnf))
  all_goals try (exfalso; omega)
  refine Run.loop [6, 8, 78, 79] (fun (i : Nat) => [(2, .box 2 0), (5, .box 5 0), (10, .bool (lostI t i)), (80, .int .i64 (i : Int))]) (fun i => [(2, .box 25 [tWit.L t.wits, tIL.L t.cols]), (5, .box 59 [tRow.L m])]) (fun i => i ≤ t.wits.length) (fun i => t.wits.length - i) 0 (Nat.zero_le _) ⟨Le.refl _, Le.refl _, Le.refl _, Le.refl _, trivial⟩ ⟨MOle.refl _, MOle.refl _, trivial⟩ ?_
  intro i hi IH
  have hwi : IntKind.i64.wrap ((i : Int) + 1) = ((i + 1 : Nat) : Int) := wrap64 (by omega) (by omega)
  have hfi : i < t.wits.length → (t.wits.getD (i : Int).toNat tWit.z).words.length ≤ 2000000 := fun h => (hf.wit _ (getD_mem' i h)).2.1
  show Run _ _ (lst (_ ++ [(2, .box 2 0), (5, .box 5 0), (10, .bool (lostI t i)), (80, .int .i64 (i : Int))])) (lstH [(2, .box 25 [tWit.L t.wits, tIL.L t.cols]), (5, .box 59 [tRow.L m])])
  refine Run.go ?_; (conv => whnf); repeat' (first | ((with_reducible refine Know.mk fun _ => ?_); conv => whnf) | ((with_reducible refine Need.mk ?_ ?_); exact nd; conv => whnf) | ((with_reducible first | refine Both.mk ?_ ?_ | refine Any.mk fun b hb => ?_ | refine AskB.dec (fun hb => ?_) (fun hb => ?_) | refine AskB.ndec (fun hb => ?_) (fun hb => ?_) | refine AskB.mk (fun hb => ?_) (fun hb => ?_)) <;> conv => whnf) | ((with_reducible first | refine Run.drawX rfl (by decide +kernel) ?_ | refine Run.drawT rfl (by decide +kernel) ?_ | refine Run.drawW rfl (by decide +kernel) ?_); conv => whnf))
  · have hfi := hfi (by omega)
    refine Run.loop [6, 8, 78, 79, 80, 85, 86] (fun (j : Nat) => [(2, .box 2 0), (5, .box 5 0), (10, .bool (lostI t i || lostJ (witAt t i).words j)), (87, .int .i64 (j : Int))]) (fun j => [(2, .box 25 [tWit.L t.wits, tIL.L t.cols]), (5, .box 59 [tRow.L m])]) (fun j => j ≤ (witAt t i).words.length) (fun j => (witAt t i).words.length - j) 0 (Nat.zero_le _) ⟨Le.refl _, Le.refl _, Le.bool (by show _ = (lostI t i || false); rw [Bool.or_false]), Le.refl _, trivial⟩ ⟨MOle.refl _, MOle.refl _, trivial⟩ ?_
    intro j hj IH2
    have hlw : (t.wits.getD (i : Int).toNat tWit.z).words.length = (witAt t i).words.length := rfl
    have hwj : IntKind.i64.wrap ((j : Int) + 1) = ((j + 1 : Nat) : Int) := wrap64 (by omega) (by omega)
    have hnx : (lostI t i || lostJ (witAt t i).words (j + 1)) = ((lostI t i || lostJ (witAt t i).words j) || decide (((witAt t i).words.getD j tWrd.z).text = dag)) := by rw [Bool.or_assoc]; rfl
    have hex : (lostI t i || lostJ (witAt t i).words (witAt t i).words.length) = lostI t (i + 1) := rfl
    generalize hb0 : (lostI t i || lostJ (witAt t i).words j) = b0
    rw [hb0] at hnx
    show Run _ _ (lst (_ ++ [(2, .box 2 0), (5, .box 5 0), (10, .bool b0), (87, .int .i64 (j : Int))])) (lstH [(2, .box 25 [tWit.L t.wits, tIL.L t.cols]), (5, .box 59 [tRow.L m])])
    refine Run.go ?_; (conv => whnf); repeat' (first | ((with_reducible refine Know.mk fun _ => ?_); conv => whnf) | ((with_reducible refine Need.mk ?_ ?_); exact nd; conv => whnf) | ((with_reducible first | refine Both.mk ?_ ?_ | refine Any.mk fun b hb => ?_ | refine AskB.dec (fun hb => ?_) (fun hb => ?_) | refine AskB.ndec (fun hb => ?_) (fun hb => ?_) | refine AskB.mk (fun hb => ?_) (fun hb => ?_)) <;> conv => whnf) | ((with_reducible first | refine Run.drawX rfl (by decide +kernel) ?_ | refine Run.drawT rfl (by decide +kernel) ?_ | refine Run.drawW rfl (by decide +kernel) ?_); conv => whnf))
    all_goals try (exfalso; omega)
    all_goals first
      | (refine Run.to _ _ ?_ ?_ (IH2 (j + 1) (by omega) (by omega))
         · refine ⟨Le.refl _, Le.refl _, Le.refl _, Le.refl _, Le.refl _, Le.refl _, Le.refl _, Le.refl _, Le.refl _, ?_, Le.int hwj, trivial⟩
           first
             | exact Le.tt.trans (Le.bool (by rw [hnx, hb]; rfl))
             | exact Le.bool (by rw [hnx, hb]; rfl)
             | exact Le.bool (by rw [hnx, hb, Bool.false_or]; rfl)
         · exact ⟨MOle.refl _, MOle.refl _, trivial⟩)
      | (refine Run.to _ _ ?_ ?_ (IH (i + 1) (by omega) (by omega))
         · refine ⟨Le.refl _, Le.refl _, Le.refl _, Le.refl _, Le.refl _, Le.refl _, Le.bool (by rw [← hb0, ← hex]; congr 2; omega), Le.int hwi, trivial⟩
         · exact ⟨MOle.refl _, MOle.refl _, trivial⟩)
  all_goals try (
    refine Run.callBX (ints_fn cs ss (by omega)) rfl rfl ⟨Le.refl _, Le.refl _, trivial⟩ rfl rfl rfl ?_
    have hie : i = t.wits.length := by omega
    have hcs : cs = ss := hall (by rw [← hie]; simpa using hb)
    (conv => whnf); repeat' (first | ((with_reducible refine Know.mk fun _ => ?_); conv => whnf) | ((with_reducible refine Need.mk ?_ ?_); exact nd; conv => whnf) | ((with_reducible first | refine Both.mk ?_ ?_ | refine Any.mk fun b hb => ?_ | refine AskB.dec (fun hb => ?_) (fun hb => ?_) | refine AskB.ndec (fun hb => ?_) (fun hb => ?_) | refine AskB.mk (fun hb => ?_) (fun hb => ?_)) <;> conv => whnf) | ((with_reducible first | refine Run.drawX rfl (by decide +kernel) ?_ | refine Run.drawT rfl (by decide +kernel) ?_ | refine Run.drawW rfl (by decide +kernel) ?_); conv => whnf))
    all_goals try (exact absurd hcs hb))
  all_goals
    refine Run.loop [8, 107, 108] (fun (k : Nat) => [(2, .box 2 0), (5, .box 5 0), (109, .int .i64 (k : Int))]) (fun k => [(2, .box 25 [tWit.L t.wits, tIL.L t.cols]), (5, .box 59 [tRow.L m])]) (fun k => k ≤ cs.length) (fun k => cs.length - k) 0 (Nat.zero_le _) ⟨Le.refl _, Le.refl _, Le.refl _, trivial⟩ ⟨MOle.refl _, MOle.refl _, trivial⟩ ?_
    intro k hk IHk
    have hwk : IntKind.i64.wrap ((k : Int) + 1) = ((k + 1 : Nat) : Int) := wrap64 (by omega) (by omega)
    show Run _ _ (lst (_ ++ [(2, .box 2 0), (5, .box 5 0), (109, .int .i64 (k : Int))])) (lstH [(2, .box 25 [tWit.L t.wits, tIL.L t.cols]), (5, .box 59 [tRow.L m])])
    refine Run.go ?_; (conv => whnf); repeat' (first | ((with_reducible refine Know.mk fun _ => ?_); conv => whnf) | ((with_reducible refine Need.mk ?_ ?_); exact nd; conv => whnf) | ((with_reducible first | refine Both.mk ?_ ?_ | refine Any.mk fun b hb => ?_ | refine AskB.dec (fun hb => ?_) (fun hb => ?_) | refine AskB.ndec (fun hb => ?_) (fun hb => ?_) | refine AskB.mk (fun hb => ?_) (fun hb => ?_)) <;> conv => whnf) | ((with_reducible first | refine Run.drawX rfl (by decide +kernel) ?_ | refine Run.drawT rfl (by decide +kernel) ?_ | refine Run.drawW rfl (by decide +kernel) ?_); conv => whnf))
    all_goals try (exact Run.leave (ts := [4]) (.inr ⟨_, rfl⟩) rfl Tryd.func13 rfl (Le.refl _))
    obtain ⟨c, hck, hcC, hc2, hcm, hst⟩ := hat k (by omega)
    refine Run.loop [8, 15, 107, 108, 109, 114, 115] (fun (j : Nat) => [(2, .box 2 0), (5, .box 5 0), (16, .int .i64 (c : Int)), (17, .bool (inJ ss c j)), (116, .int .i64 (j : Int))]) (fun j => [(2, .box 25 [tWit.L t.wits, tIL.L t.cols]), (5, .box 59 [tRow.L m])]) (fun j => j ≤ ss.length) (fun j => ss.length - j) 0 (Nat.zero_le _) ⟨Le.refl _, Le.refl _, Le.int hck, Le.refl _, Le.refl _, trivial⟩ ⟨MOle.refl _, MOle.refl _, trivial⟩ ?_
    intro j hj IHj
    have hwj : IntKind.i64.wrap ((j : Int) + 1) = ((j + 1 : Nat) : Int) := wrap64 (by omega) (by omega)
    have hnx : inJ ss c (j + 1) = (inJ ss c j || decide (ss.getD j 0 = (c : Int))) := rfl
    generalize hb0 : inJ ss c j = b0
    rw [hb0] at hnx
    show Run _ _ (lst (_ ++ [(2, .box 2 0), (5, .box 5 0), (16, .int .i64 (c : Int)), (17, .bool b0), (116, .int .i64 (j : Int))])) (lstH [(2, .box 25 [tWit.L t.wits, tIL.L t.cols]), (5, .box 59 [tRow.L m])])
    refine Run.go ?_; (conv => whnf); repeat' (first | ((with_reducible refine Know.mk fun _ => ?_); conv => whnf) | ((with_reducible refine Need.mk ?_ ?_); exact nd; conv => whnf) | ((with_reducible first | refine Both.mk ?_ ?_ | refine Any.mk fun b hb => ?_ | refine AskB.dec (fun hb => ?_) (fun hb => ?_) | refine AskB.ndec (fun hb => ?_) (fun hb => ?_) | refine AskB.mk (fun hb => ?_) (fun hb => ?_)) <;> conv => whnf) | ((with_reducible first | refine Run.drawX rfl (by decide +kernel) ?_ | refine Run.drawT rfl (by decide +kernel) ?_ | refine Run.drawW rfl (by decide +kernel) ?_); conv => whnf))
    all_goals try (refine Run.to _ _ ?_ ?_ (IHj (j + 1) (by omega) (by omega)) <;> first
      | exact ⟨MOle.refl _, MOle.refl _, trivial⟩
      | (refine ⟨Le.refl _, Le.refl _, Le.refl _, Le.refl _, Le.refl _, Le.refl _, Le.refl _, Le.refl _, Le.refl _, Le.refl _, ?_, Le.int hwj, trivial⟩
         first
           | exact Le.tt.trans (Le.bool (by rw [hnx, hb]; rfl))
           | exact Le.bool (by rw [hnx, hb]; rfl)
           | exact Le.bool (by rw [hnx, hb, Bool.false_or]; rfl)))
    have hje : j = ss.length := by omega
    have hfound : b0 = true := by rw [← hb0, hje]; exact inJ_mem hcm
    obtain ⟨hlen, _⟩ := at_ok hok hcC (show 0 < t.wits.length by omega)
    have hlc : (t.cols.getD (c : Int).toNat tIL.z).length = t.wits.length := hlen
    refine Run.loop [8, 15, 107, 108, 109, 129] (fun (i : Nat) => [(2, .box 2 0), (5, .box 5 0), (16, .int .i64 (c : Int)), (17, .bool true), (20, .int .i64 ((stE t c o i).2 : Int)), (130, .int .i64 (i : Int))]) (fun i => [(2, .box 25 [tWit.L t.wits, tIL.L t.cols]), (5, .box 59 [tRow.L m])]) (fun i => i ≤ t.wits.length) (fun i => t.wits.length - i) 0 (Nat.zero_le _) ⟨Le.refl _, Le.refl _, Le.refl _, Le.bool hfound, Le.refl _, Le.refl _, trivial⟩ ⟨MOle.refl _, MOle.refl _, trivial⟩ ?_
    intro i hi IHi
    have hwi : IntKind.i64.wrap ((i : Int) + 1) = ((i + 1 : Nat) : Int) := wrap64 (by omega) (by omega)
    by_cases hil : i < t.wits.length
    · have hmi : (m.getD (i : Int).toNat tRow.z).length = cs.length := hmr i hil
      obtain ⟨_, hati⟩ := at_ok hok hcC hil
      have hfi : (t.wits.getD (i : Int).toNat tWit.z).words.length = (witAt t i).words.length := rfl
      have hx : (t.cols.getD (c : Int).toNat tIL.z).getD (i : Int).toNat tI.z = atC t c i := rfl
      obtain ⟨hs1, hs2, hs3⟩ := st_step t c o i
      have hst' : (m.getD (i : Int).toNat tRow.z).getD (k : Int).toNat tI.z = (stE t c o (i + 1)).1.getD i 0 := (hst i hil).trans (stE_pre t c o t.wits.length (i + 1) i (by omega) (by omega))
      have hn := (stE_ok t c o i).2.1
      have hw2 : IntKind.i64.wrap (((stE t c o i).2 : Int) + 1) = (((stE t c o i).2 + 1 : Nat) : Int) := wrap64 (by omega) (by omega)
      have hlac : lacB t c i = true ↔ (¬ atC t c i < 0 ∧ textAt t c i = dag) := by
        unfold lacB thB
        rw [Bool.and_eq_true, decide_eq_true_eq, Bool.not_eq_true', decide_eq_false_iff_not]
      rw [hlac] at hs1
      have htx : ¬ atC t c i < 0 → ((t.wits.getD (i : Int).toNat tWit.z).words.getD (atC t c i).toNat tWrd.z).text = textAt t c i := fun h => by unfold textAt; rw [if_neg h]; rfl
      generalize textAt t c i = tx at hs1 htx
      generalize (stE t c o i).2 = n at hs2 hs3 hn hw2 ⊢
      generalize hn' : (stE t c o (i + 1)).2 = n' at hs3
      rw [← hst'] at hs1 hs2 hs3
      have hA : 0 ≤ (t.cols.getD (c : Int).toNat tIL.z).getD (i : Int).toNat tI.z → (decide ((m.getD (i : Int).toNat tRow.z).getD (k : Int).toNat tI.z < 0) != decide (((t.wits.getD (i : Int).toNat tWit.z).words.getD ((t.cols.getD (c : Int).toNat tIL.z).getD (i : Int).toNat tI.z).toNat tWrd.z).text = dag)) = false := fun h => by
        rw [hx] at h ⊢
        rw [htx (by omega), decide_eq_decide.mpr (show _ ↔ tx = dag from ⟨fun a => (hs1.mp a).2, fun a => hs1.mpr ⟨by omega, a⟩⟩)]
        exact bne_self_eq_false _
      have hB : ¬ 0 ≤ (t.cols.getD (c : Int).toNat tIL.z).getD (i : Int).toNat tI.z → (decide ((m.getD (i : Int).toNat tRow.z).getD (k : Int).toNat tI.z < 0) != false) = false := fun h => by
        rw [hx] at h
        rw [decide_eq_false (fun a => (hs1.mp a).1 (by omega))]; rfl
      show Run _ _ (lst (_ ++ [(2, .box 2 0), (5, .box 5 0), (16, .int .i64 (c : Int)), (17, .bool true), (20, .int .i64 (n : Int)), (130, .int .i64 (i : Int))])) (lstH [(2, .box 25 [tWit.L t.wits, tIL.L t.cols]), (5, .box 59 [tRow.L m])])
      refine Run.go ?_; (conv => whnf); repeat' (first | ((with_reducible refine Know.mk fun _ => ?_); conv => whnf) | ((with_reducible refine Need.mk ?_ ?_); exact nd; conv => whnf) | ((with_reducible refine Both.mk ?_ ?_) <;> conv => whnf) | ((with_reducible refine Any.mk fun b hb => ?_); conv => whnf) | ((with_reducible first | refine AskB.dec (fun hb => ?_) (fun hb => ?_) | refine AskB.ndec (fun hb => ?_) (fun hb => ?_) | refine AskB.mk (fun hb => ?_) (fun hb => ?_)) <;> first | (exfalso; omega) | (conv => whnf)) | ((with_reducible first | refine Run.drawX rfl (by decide +kernel) ?_ | refine Run.drawT rfl (by decide +kernel) ?_ | refine Run.drawW rfl (by decide +kernel) ?_); conv => whnf))
      all_goals try (exfalso; omega)
      all_goals first
        | exact absurd ((hA (by assumption)).symm.trans hb) (by decide)
        | exact absurd ((hB (by assumption)).symm.trans hb) (by decide)
        | (refine Run.to _ _ ?_ ?_ (IHi (i + 1) (by omega) (by omega))
           · refine ⟨Le.refl _, Le.refl _, Le.refl _, Le.refl _, Le.refl _, Le.refl _, Le.refl _, Le.refl _, Le.refl _, Le.refl _, ?_, Le.int hwi, trivial⟩
             first
               | exact Le.int (by rw [hn', hs3, if_pos (by assumption)]; exact hw2)
               | exact Le.int (by rw [hn', hs3, if_neg (by assumption)])
           · exact ⟨MOle.refl _, MOle.refl _, trivial⟩)
    · have hie : i = t.wits.length := by omega
      rw [hie]
      refine Run.go ?_; (conv => whnf); repeat' (first | ((with_reducible refine Know.mk fun _ => ?_); conv => whnf) | ((with_reducible refine Need.mk ?_ ?_); exact nd; conv => whnf) | ((with_reducible refine Both.mk ?_ ?_) <;> conv => whnf) | ((with_reducible refine Any.mk fun b hb => ?_); conv => whnf) | ((with_reducible first | refine AskB.dec (fun hb => ?_) (fun hb => ?_) | refine AskB.ndec (fun hb => ?_) (fun hb => ?_) | refine AskB.mk (fun hb => ?_) (fun hb => ?_)) <;> first | (exfalso; omega) | (conv => whnf)) | ((with_reducible first | refine Run.drawX rfl (by decide +kernel) ?_ | refine Run.drawT rfl (by decide +kernel) ?_ | refine Run.drawW rfl (by decide +kernel) ?_); conv => whnf))
      all_goals try (exfalso; omega)
      all_goals first
        | exact absurd hb (by decide)
        | (refine Run.to _ _ ?_ ?_ (IHk (k + 1) (by omega) (by omega))
           · exact ⟨Le.refl _, Le.refl _, Le.refl _, Le.refl _, Le.refl _, Le.int hwk, trivial⟩
           · exact ⟨MOle.refl _, MOle.refl _, trivial⟩)
end Go.Proofs.YtnadacaoehpdnaaDoor.V

namespace Go.Proofs.YtnadacaoehpdnaaDoor.V
set_option linter.unusedVariables false
set_option linter.unusedSimpArgs false
open Go Go.Proofs Go.RowKit
set_option maxRecDepth 100000
def bkWit (w : Wit) : Nat := w.name.size + w.head.size + sumL bkW w.words + 4
theorem dWs : Dec Tryd.prog 36 (tL tWrd) (fun l => sumL bkW l + 1) := Dec.slice (e := 40) (by kernel_rfl) (by kernel_rfl) (by decide) dWord
theorem dWit : Dec Tryd.prog 38 tWit bkWit :=
  Dec.map (fun x : ByteArray × ByteArray × List Wrd × Unit => ⟨x.1, x.2.1, x.2.2.1⟩) rfl (fun x j hj => match j, hj with | 0, _ => Le.refl _ | 1, _ => Le.refl _ | 2, _ => Le.refl _) (fun x => by simp only [bkWit]; omega)
    (Dec.struct (t := 38) (fs := #[⟨"Name", 9, 0, false, "", "", 0⟩, ⟨"Head", 9, 1, false, "", "", 16⟩, ⟨"Words", 36, 2, false, "", "", 32⟩]) (by kernel_rfl) (by kernel_rfl)
      (DecF.cons rfl (Dec.str (by kernel_rfl) (by kernel_rfl)) (DecF.cons rfl (Dec.str (by kernel_rfl) (by kernel_rfl)) (DecF.cons rfl dWs DecF.nil))))
theorem dInt : Dec Tryd.prog 3 tI (fun _ => 1) := Dec.int (by kernel_rfl) (by kernel_rfl)
def bkI (l : List Int) : Nat := sumL (fun _ => 1) l + 1
theorem dIs : Dec Tryd.prog 27 (tL tI) bkI := Dec.slice (e := 3) (by kernel_rfl) (by kernel_rfl) (by decide) dInt
def tTab : Ty Tab := ⟨2, tabG, ⟨[], []⟩⟩
def bkTab (t : Tab) : Nat := sumL bkWit t.wits + sumL bkI t.cols + 3
theorem dTab : Dec Tryd.prog 25 tTab bkTab :=
  Dec.map (fun x : List Wit × List (List Int) × Unit => ⟨x.1, x.2.1⟩) rfl (fun x j hj => match j, hj with | 0, _ => Le.refl _ | 1, _ => Le.refl _) (fun x => by simp only [bkTab]; omega)
    (Dec.struct (t := 25) (fs := #[⟨"Wits", 22, 0, false, "", "", 0⟩, ⟨"Cols", 23, 1, false, "", "", 24⟩]) (by kernel_rfl) (by kernel_rfl)
      (DecF.cons rfl (Dec.slice (e := 38) (t := 22) (by kernel_rfl) (by kernel_rfl) (by decide) dWit) (DecF.cons rfl (Dec.slice (e := 27) (t := 23) (by kernel_rfl) (by kernel_rfl) (by decide) dIs) DecF.nil)))
theorem argTab : Arg Tryd.prog 25 tbA bkTab := Arg.struct (T := tTab) (fs := #[⟨"Wits", 22, 0, false, "", "", 0⟩, ⟨"Cols", 23, 1, false, "", "", 24⟩]) (by kernel_rfl) dTab
/-! ### bounds -/
theorem fitT_of {t : Tab} {n : Nat} (h : bkTab t ≤ n) (hn : n ≤ 1048576) : FitT t := by
  unfold bkTab at h
  have h1 := sumL_len bkWit (fun w => by unfold bkWit; omega) t.wits
  have h2 := sumL_len bkI (fun w => by unfold bkI; omega) t.cols
  refine ⟨by omega, by omega, fun l hl => ?_, fun w hw => ?_, fun w hw => ?_⟩
  · have h3 : sumL (fun _ : Int => 1) l + 1 ≤ sumL bkI t.cols := sumL_mem bkI hl
    have h4 := sumL_len (fun _ : Int => 1) (fun _ => Nat.le_refl _) l
    omega
  · have h3 : w.name.size + w.head.size + sumL bkW w.words + 4 ≤ sumL bkWit t.wits := sumL_mem bkWit hw
    omega
  · have h3 : w.name.size + w.head.size + sumL bkW w.words + 4 ≤ sumL bkWit t.wits := sumL_mem bkWit hw
    obtain ⟨f1, f2, f3⟩ := fitW_of (s := w.head) (l := w.words) (n := 1048576) (by omega) (by omega)
    have h4 := bkW_sum w.words
    exact ⟨f1, by omega, f3⟩
end Go.Proofs.YtnadacaoehpdnaaDoor.V

