/-
The document's folding is the program's: FoldRunes, FoldTexts walked.
-/
import Derived.Test.YtfodjmemdkibpaaDoorXg
import Derived.Test.YtfodjmemdkibpaaDoorXc
namespace Go.Proofs.YtfodjmemdkibpaaDoor.V
open Go Go.Proofs Go.RowKit
set_option linter.unusedVariables false
set_option linter.unusedSimpArgs false
set_option maxRecDepth 100000
set_option maxHeartbeats 4000000
open Go Go.Proofs Go.Proofs.YtfodjmemdkibpaaDoor.V
theorem refL_eq (r o : Int) : backE ((refL r o).map (stepV o)) = foldR r o := by
  have hd : ∀ k, dropE k [r] = if kOf r = k then [] else [r] := fun k => by
    by_cases h : kOf r = k
    · rw [dropE_no h, if_pos h]; rfl
    · rw [dropE_yes h, if_neg h]; rfl
  have hn : ∀ k, dropE k [] = [] := fun k => rfl
  have hl0 : ligsE [] = [] := rfl
  have hl1 : ligsE [r] = ligE r := by simp [ligsE]
  unfold foldR dropV backE
  rw [catE_eq, runesV_eq]
  unfold refL
  simp only [hd]
  by_cases h16 : o / 16 % 2 = 1 <;> by_cases h2 : o / 2 % 2 = 1 <;> by_cases h4 : o / 4 % 2 = 1 <;> by_cases k4 : kOf r = 4 <;> by_cases k2 : kOf r = 2 <;> by_cases hL : isLig r = true <;> simp [h16, h2, h4, k4, k2, hL, hd, hn, hl0, hl1, ligE, encs, bl] <;> rfl
theorem rune28_fn' (r o : Int) : Fn Tryd.prog 28 [.int .i32 r, .int .i64 o] (runeL r o) := by
  have := rune28_fn r o
  rw [refL_eq] at this
  exact this
theorem text29_fn (s : ByteArray) (o : Int) (hs : s.size ≤ 134217728) : Fn Tryd.prog 29 [.str s, .int .i64 o] (textL s o) := by
  refine Fn.of Tryd.f29 _ Tryd.func29 rfl (by decide) (by show 2 ≤ _; decide) tbOk 53 rfl fun S w0 gl => ?_
  by_cases hbad : badO o
  · have hbo : o < 0 ∨ 31 < o := hbad
    unfold textL
    rw [if_pos hbad, if_pos hbad]
    refine Run.go ?_; (conv => whnf); repeat' (first | ((with_reducible refine Know.mk fun _ => ?_); conv => whnf) | ((with_reducible refine Need.mk ?_ ?_); (first | omega | (dsimp only; omega) | decide | exact bytes_le (by rfl) (by omega) | exact ⟨rfl, by omega, bytes_le (by rfl) (by omega), by omega⟩ | (refine ⟨?_, ?_⟩ <;> (rw [wrap64 (by omega) (by omega)]; omega))); conv => whnf) | ((with_reducible refine Both.mk ?_ ?_) <;> conv => whnf) | ((with_reducible refine Any.mk fun b hb => ?_); conv => whnf) | ((with_reducible refine AskB.dec (fun hb => ?_) (fun hb => ?_)) <;> first | (exfalso; omega) | (conv => whnf)) | ((with_reducible refine AskB.ndec (fun hb => ?_) (fun hb => ?_)) <;> first | (exfalso; omega) | (conv => whnf)) | ((with_reducible refine AskB.mk (fun hb => ?_) (fun hb => ?_)) <;> first | (exfalso; omega) | (conv => whnf)) | ((with_reducible refine Run.drawX rfl (by decide +kernel) ?_); conv => whnf) | ((with_reducible refine Run.drawT rfl (by decide +kernel) ?_); conv => whnf) | ((with_reducible refine Run.drawW rfl (by decide +kernel) ?_); conv => whnf) | fail)
    all_goals first
      | exact Run.leave (ts := [4,5]) (.inr ⟨_, rfl⟩) rfl Tryd.func29 rfl (resT ⟨Le.refl _, Le.refl _, trivial⟩)
      | (exfalso; omega)
  have hbo : ¬ (o < 0 ∨ 31 < o) := hbad
  unfold textL
  rw [if_neg hbad, if_neg hbad]
  refine Run.go ?_; (conv => whnf); repeat' (first | ((with_reducible refine Know.mk fun _ => ?_); conv => whnf) | ((with_reducible refine Need.mk ?_ ?_); (first | omega | (dsimp only; omega) | decide | exact bytes_le (by rfl) (by omega) | exact ⟨rfl, by omega, bytes_le (by rfl) (by omega), by omega⟩ | (refine ⟨?_, ?_⟩ <;> (rw [wrap64 (by omega) (by omega)]; omega))); conv => whnf) | ((with_reducible refine Both.mk ?_ ?_) <;> conv => whnf) | ((with_reducible refine Any.mk fun b hb => ?_); conv => whnf) | ((with_reducible refine AskB.dec (fun hb => ?_) (fun hb => ?_)) <;> first | (exfalso; omega) | (conv => whnf)) | ((with_reducible refine AskB.ndec (fun hb => ?_) (fun hb => ?_)) <;> first | (exfalso; omega) | (conv => whnf)) | ((with_reducible refine AskB.mk (fun hb => ?_) (fun hb => ?_)) <;> first | (exfalso; omega) | (conv => whnf)) | ((with_reducible refine Run.drawX rfl (by decide +kernel) ?_); conv => whnf) | ((with_reducible refine Run.drawT rfl (by decide +kernel) ?_); conv => whnf) | ((with_reducible refine Run.drawW rfl (by decide +kernel) ?_); conv => whnf) | fail)
  all_goals try (exfalso; omega)
  refine Run.callBX (cells36_fn s hs) rfl rfl ⟨Le.refl _, trivial⟩ rfl rfl rfl ?_
  have hcl := cells_len s 0
  have hT : ∀ j, (catC o ((cells s 0).take j)).size ≤ 2000000000 := fun j => by
    have h1 := catC_size o ((cells s 0).take j)
    have h2 : ((cells s 0).take j).length ≤ (cells s 0).length := by rw [List.length_take]; omega
    omega
  have hby := cell_byte s 0
  unfold textF
  generalize cells s 0 = L at hcl hT hby ⊢
  (conv => whnf); repeat' (first | ((with_reducible refine Know.mk fun _ => ?_); conv => whnf) | ((with_reducible refine Need.mk ?_ ?_); (first | omega | (dsimp only; omega) | decide | exact bytes_le (by rfl) (by omega) | exact ⟨rfl, by omega, bytes_le (by rfl) (by omega), by omega⟩ | (refine ⟨?_, ?_⟩ <;> (rw [wrap64 (by omega) (by omega)]; omega))); conv => whnf) | ((with_reducible refine Both.mk ?_ ?_) <;> conv => whnf) | ((with_reducible refine Any.mk fun b hb => ?_); conv => whnf) | ((with_reducible refine AskB.dec (fun hb => ?_) (fun hb => ?_)) <;> conv => whnf) | ((with_reducible refine AskB.ndec (fun hb => ?_) (fun hb => ?_)) <;> conv => whnf) | ((with_reducible refine AskB.mk (fun hb => ?_) (fun hb => ?_)) <;> conv => whnf) | ((with_reducible refine Run.drawX rfl (by decide +kernel) ?_); conv => whnf) | ((with_reducible refine Run.drawT rfl (by decide +kernel) ?_); conv => whnf) | ((with_reducible refine Run.drawW rfl (by decide +kernel) ?_); conv => whnf) | fail)
  refine Run.holdNil 6 1000 5 1 (bytesG .empty) rfl ?_
  refine Run.loop [1, 7] (fun (j : Nat) => [(6, .row 1000), (8, .int .i64 (j : Int))]) (fun j => [(1000, .row 5 1 (catC o (L.take j)).size (bytesG (catC o (L.take j))))]) (fun j => j ≤ L.length) (fun j => L.length - j) 0 (Nat.zero_le _) ⟨Le.refl _, Le.refl _, trivial⟩ ⟨MOle.refl _, trivial⟩ ?_
  intro j hj IH
  have hwj : IntKind.i64.wrap ((j : Int) + 1) = ((j + 1 : Nat) : Int) := wrap64 (by omega) (by omega)
  have hTj := hT j
  refine Run.go ?_; (conv => whnf); repeat' (first | ((with_reducible refine Know.mk fun _ => ?_); conv => whnf) | ((with_reducible refine Need.mk ?_ ?_); (first | omega | (dsimp only; omega) | decide | exact bytes_le (by rfl) (by omega) | exact ⟨rfl, by omega, bytes_le (by rfl) (by omega), by omega⟩ | (refine ⟨?_, ?_⟩ <;> (rw [wrap64 (by omega) (by omega)]; omega))); conv => whnf) | ((with_reducible refine Both.mk ?_ ?_) <;> conv => whnf) | ((with_reducible refine Any.mk fun b hb => ?_); conv => whnf) | ((with_reducible refine AskB.dec (fun hb => ?_) (fun hb => ?_)) <;> conv => whnf) | ((with_reducible refine AskB.ndec (fun hb => ?_) (fun hb => ?_)) <;> conv => whnf) | ((with_reducible refine AskB.mk (fun hb => ?_) (fun hb => ?_)) <;> conv => whnf) | ((with_reducible refine Run.drawX rfl (by decide +kernel) ?_); conv => whnf) | ((with_reducible refine Run.drawT rfl (by decide +kernel) ?_); conv => whnf) | ((with_reducible refine Run.drawW rfl (by decide +kernel) ?_); conv => whnf) | fail)
  case _ =>
    have hjl : j < L.length := by omega
    have hb2 : (L.getD j tCel.z).bad = true := hb
    have hcf : cellF o (L.getD j tCel.z) = ⟨#[UInt8.ofNat (L.getD j tCel.z).byte.toNat]⟩ := if_pos hb2
    refine Run.hold (z := 37) 6 1000 (by rfl) (by rfl) (by rfl) ?_
    refine Run.to _ _ ?_ ?_ (IH (j + 1) (by omega) (by omega))
    · exact ⟨Le.refl _, Le.refl _, Le.refl _, Le.int hwj, trivial⟩
    · refine ⟨?_, trivial⟩
      rw [catC_take _ _ _ hjl, hcf]
      refine bytesG_push 5 _ (UInt8.ofNat (L.getD j tCel.z).byte.toNat) _ ?_
      rw [hby _ (by rw [List.getD, List.getElem?_eq_getElem hjl]; exact List.getElem_mem hjl)]; rfl
  case _ =>
    have hjl : j < L.length := by omega
    have hb2 : (L.getD j tCel.z).bad = false := hb
    have hcf : cellF o (L.getD j tCel.z) = foldR (L.getD j tCel.z).r o := if_neg (by rw [hb2]; exact Bool.noConfusion)
    have hfs := foldR_size (L.getD j tCel.z).r o
    have hru := rune28_fn' (L.getD j tCel.z).r o
    unfold runeL at hru
    rw [if_neg hbad, if_neg hbad] at hru
    refine Run.callBX hru rfl rfl ⟨Le.refl _, Le.refl _, trivial⟩ rfl rfl rfl ?_
    (conv => whnf); repeat' (first | ((with_reducible refine Know.mk fun _ => ?_); conv => whnf) | ((with_reducible refine Need.mk ?_ ?_); (first | omega | (dsimp only; omega) | decide | exact bytes_le (by rfl) (by omega) | exact ⟨rfl, by omega, bytes_le (by rfl) (by omega), by omega⟩ | (refine ⟨?_, ?_⟩ <;> (rw [wrap64 (by omega) (by omega)]; omega))); conv => whnf) | ((with_reducible refine Both.mk ?_ ?_) <;> conv => whnf) | ((with_reducible refine Any.mk fun b hb => ?_); conv => whnf) | ((with_reducible refine AskB.dec (fun hb => ?_) (fun hb => ?_)) <;> conv => whnf) | ((with_reducible refine AskB.ndec (fun hb => ?_) (fun hb => ?_)) <;> conv => whnf) | ((with_reducible refine AskB.mk (fun hb => ?_) (fun hb => ?_)) <;> conv => whnf) | ((with_reducible refine Run.drawX rfl (by decide +kernel) ?_); conv => whnf) | ((with_reducible refine Run.drawT rfl (by decide +kernel) ?_); conv => whnf) | ((with_reducible refine Run.drawW rfl (by decide +kernel) ?_); conv => whnf) | fail)
    refine Run.hold (z := 50) 6 1000 (by rfl) (by rfl) (by rfl) ?_
    refine Run.to _ _ ?_ ?_ (IH (j + 1) (by omega) (by omega))
    · exact ⟨Le.refl _, Le.refl _, Le.refl _, Le.int hwj, trivial⟩
    · refine ⟨?_, trivial⟩
      rw [catC_take _ _ _ hjl, hcf]
      exact bytesG_join 5 _ _
  case _ =>
    obtain rfl : j = L.length := by omega
    rw [List.take_length]
    refine Run.rowStr (x := .tmp 51) (src := 64) (dst := 9) (e := 5) (q := 1000) (catC o L) rfl rfl rfl rfl rfl rfl rfl (fun _ _ => rfl) (by kernel_rfl) (by kernel_rfl) (by kernel_rfl) ?_
    refine Run.go ?_; (conv => whnf); repeat' (first | ((with_reducible refine Know.mk fun _ => ?_); conv => whnf) | ((with_reducible refine Need.mk ?_ ?_); (first | omega | (dsimp only; omega) | decide | exact bytes_le (by rfl) (by omega) | exact ⟨rfl, by omega, bytes_le (by rfl) (by omega), by omega⟩ | (refine ⟨?_, ?_⟩ <;> (rw [wrap64 (by omega) (by omega)]; omega))); conv => whnf) | ((with_reducible refine Both.mk ?_ ?_) <;> conv => whnf) | ((with_reducible refine Any.mk fun b hb => ?_); conv => whnf) | ((with_reducible refine AskB.dec (fun hb => ?_) (fun hb => ?_)) <;> conv => whnf) | ((with_reducible refine AskB.ndec (fun hb => ?_) (fun hb => ?_)) <;> conv => whnf) | ((with_reducible refine AskB.mk (fun hb => ?_) (fun hb => ?_)) <;> conv => whnf) | ((with_reducible refine Run.drawX rfl (by decide +kernel) ?_); conv => whnf) | ((with_reducible refine Run.drawT rfl (by decide +kernel) ?_); conv => whnf) | ((with_reducible refine Run.drawW rfl (by decide +kernel) ?_); conv => whnf) | fail)
    exact Run.leave (ts := [4,5]) (.inr ⟨_, rfl⟩) rfl Tryd.func29 rfl (resT ⟨Le.refl _, Le.refl _, trivial⟩)
theorem law11_fn (l : List Int) (o : Int) (hl : l.length ≤ 100000000) : Fn Tryd.prog 11 [tRn.L l, .int .i64 o] .tt := by
  refine Fn.of Tryd.f11 _ Tryd.func11 rfl (by decide) (by show 2 ≤ _; decide) tbOk 40 rfl fun S w0 gl => ?_
  refine Run.go ?_; (conv => whnf); repeat' (first | ((with_reducible refine Know.mk fun _ => ?_); conv => whnf) | ((with_reducible refine Need.mk ?_ ?_); (first | omega | (dsimp only; omega) | decide | exact bytes_le (by rfl) (by omega) | exact ⟨rfl, by omega, bytes_le (by rfl) (by omega), by omega⟩ | (refine ⟨?_, ?_⟩ <;> (rw [wrap64 (by omega) (by omega)]; omega))); conv => whnf) | ((with_reducible refine Both.mk ?_ ?_) <;> conv => whnf) | ((with_reducible refine Any.mk fun b hb => ?_); conv => whnf) | ((with_reducible refine AskB.dec (fun hb => ?_) (fun hb => ?_)) <;> conv => whnf) | ((with_reducible refine AskB.ndec (fun hb => ?_) (fun hb => ?_)) <;> conv => whnf) | ((with_reducible refine AskB.mk (fun hb => ?_) (fun hb => ?_)) <;> conv => whnf) | ((with_reducible refine Run.drawX rfl (by decide +kernel) ?_); conv => whnf) | ((with_reducible refine Run.drawT rfl (by decide +kernel) ?_); conv => whnf) | ((with_reducible refine Run.drawW rfl (by decide +kernel) ?_); conv => whnf) | fail)
  refine Run.callBX awake24_fn rfl rfl trivial rfl rfl rfl ?_
  (conv => whnf); repeat' (first | ((with_reducible refine Know.mk fun _ => ?_); conv => whnf) | ((with_reducible refine Need.mk ?_ ?_); (first | omega | (dsimp only; omega) | decide | exact bytes_le (by rfl) (by omega) | exact ⟨rfl, by omega, bytes_le (by rfl) (by omega), by omega⟩ | (refine ⟨?_, ?_⟩ <;> (rw [wrap64 (by omega) (by omega)]; omega))); conv => whnf) | ((with_reducible refine Both.mk ?_ ?_) <;> conv => whnf) | ((with_reducible refine Any.mk fun b hb => ?_); conv => whnf) | ((with_reducible refine AskB.dec (fun hb => ?_) (fun hb => ?_)) <;> conv => whnf) | ((with_reducible refine AskB.ndec (fun hb => ?_) (fun hb => ?_)) <;> conv => whnf) | ((with_reducible refine AskB.mk (fun hb => ?_) (fun hb => ?_)) <;> conv => whnf) | ((with_reducible refine Run.drawX rfl (by decide +kernel) ?_); conv => whnf) | ((with_reducible refine Run.drawT rfl (by decide +kernel) ?_); conv => whnf) | ((with_reducible refine Run.drawW rfl (by decide +kernel) ?_); conv => whnf) | fail)
  refine Run.loop [1, 13, 14] (fun (j : Nat) => [(15, .int .i64 (j : Int))]) (fun _ => []) (fun j => j ≤ l.length) (fun j => l.length - j) 0 (Nat.zero_le _) ⟨Le.refl _, trivial⟩ trivial ?_
  intro j hj IH
  have hwj : IntKind.i64.wrap ((j : Int) + 1) = ((j + 1 : Nat) : Int) := wrap64 (by omega) (by omega)
  refine Run.go ?_; (conv => whnf); repeat' (first | ((with_reducible refine Know.mk fun _ => ?_); conv => whnf) | ((with_reducible refine Need.mk ?_ ?_); (first | omega | (dsimp only; omega) | decide | exact bytes_le (by rfl) (by omega) | exact ⟨rfl, by omega, bytes_le (by rfl) (by omega), by omega⟩ | (refine ⟨?_, ?_⟩ <;> (rw [wrap64 (by omega) (by omega)]; omega))); conv => whnf) | ((with_reducible refine Both.mk ?_ ?_) <;> conv => whnf) | ((with_reducible refine Any.mk fun b hb => ?_); conv => whnf) | ((with_reducible refine AskB.dec (fun hb => ?_) (fun hb => ?_)) <;> conv => whnf) | ((with_reducible refine AskB.ndec (fun hb => ?_) (fun hb => ?_)) <;> conv => whnf) | ((with_reducible refine AskB.mk (fun hb => ?_) (fun hb => ?_)) <;> conv => whnf) | ((with_reducible refine Run.drawX rfl (by decide +kernel) ?_); conv => whnf) | ((with_reducible refine Run.drawT rfl (by decide +kernel) ?_); conv => whnf) | ((with_reducible refine Run.drawW rfl (by decide +kernel) ?_); conv => whnf) | fail)
  · have h1 := rune27_fn (l.getD j tRn.z) o
    have h2 := rune28_fn' (l.getD j tRn.z) o
    unfold runeL at h1 h2
    generalize (if badO o then ByteArray.empty else foldR (l.getD j tRn.z) o) = X at h1 h2
    generalize (if badO o then (2 : Int) else 0) = Y at h1 h2
    refine Run.callBX h1 rfl rfl ⟨Le.refl _, Le.refl _, trivial⟩ rfl rfl rfl ?_
    (conv => whnf); repeat' (first | ((with_reducible refine Know.mk fun _ => ?_); conv => whnf) | ((with_reducible refine Need.mk ?_ ?_); (first | omega | (dsimp only; omega) | decide | exact bytes_le (by rfl) (by omega) | exact ⟨rfl, by omega, bytes_le (by rfl) (by omega), by omega⟩ | (refine ⟨?_, ?_⟩ <;> (rw [wrap64 (by omega) (by omega)]; omega))); conv => whnf) | ((with_reducible refine Both.mk ?_ ?_) <;> conv => whnf) | ((with_reducible refine Any.mk fun b hb => ?_); conv => whnf) | ((with_reducible refine AskB.dec (fun hb => ?_) (fun hb => ?_)) <;> conv => whnf) | ((with_reducible refine AskB.ndec (fun hb => ?_) (fun hb => ?_)) <;> conv => whnf) | ((with_reducible refine AskB.mk (fun hb => ?_) (fun hb => ?_)) <;> conv => whnf) | ((with_reducible refine Run.drawX rfl (by decide +kernel) ?_); conv => whnf) | ((with_reducible refine Run.drawT rfl (by decide +kernel) ?_); conv => whnf) | ((with_reducible refine Run.drawW rfl (by decide +kernel) ?_); conv => whnf) | fail)
    refine Run.callBX h2 rfl rfl ⟨Le.refl _, Le.refl _, trivial⟩ rfl rfl rfl ?_
    (conv => whnf); repeat' (first | ((with_reducible refine Know.mk fun _ => ?_); conv => whnf) | ((with_reducible refine Need.mk ?_ ?_); (first | omega | (dsimp only; omega) | decide | exact bytes_le (by rfl) (by omega) | exact ⟨rfl, by omega, bytes_le (by rfl) (by omega), by omega⟩ | (refine ⟨?_, ?_⟩ <;> (rw [wrap64 (by omega) (by omega)]; omega))); conv => whnf) | ((with_reducible refine Both.mk ?_ ?_) <;> conv => whnf) | ((with_reducible refine Any.mk fun b hb => ?_); conv => whnf) | ((with_reducible refine AskB.dec (fun hb => ?_) (fun hb => ?_)) <;> conv => whnf) | ((with_reducible refine AskB.ndec (fun hb => ?_) (fun hb => ?_)) <;> conv => whnf) | ((with_reducible refine AskB.mk (fun hb => ?_) (fun hb => ?_)) <;> conv => whnf) | ((with_reducible refine Run.drawX rfl (by decide +kernel) ?_); conv => whnf) | ((with_reducible refine Run.drawT rfl (by decide +kernel) ?_); conv => whnf) | ((with_reducible refine Run.drawW rfl (by decide +kernel) ?_); conv => whnf) | fail)
    all_goals first
      | exact absurd rfl hb
      | (refine Run.to _ _ ?_ ?_ (IH (j + 1) (by omega) (by omega))
         · exact ⟨Le.refl _, Le.refl _, Le.refl _, Le.int hwj, trivial⟩
         · trivial)
  · exact Run.leave (ts := [4]) (.inr ⟨_, rfl⟩) rfl Tryd.func11 rfl (Le.refl _)
theorem law12_fn (a b : ByteArray) (o : Int) (ha : a.size ≤ 134217728) (hb : b.size ≤ 134217728) : Fn Tryd.prog 12 [.str a, .str b, .int .i64 o] .tt := by
  refine Fn.of Tryd.f12 _ Tryd.func12 rfl (by decide) (by show 3 ≤ _; decide) tbOk 78 rfl fun S w0 gl => ?_
  refine Run.go ?_; (conv => whnf); repeat' (first | ((with_reducible refine Know.mk fun _ => ?_); conv => whnf) | ((with_reducible refine Need.mk ?_ ?_); (first | omega | (dsimp only; omega) | decide | exact bytes_le (by rfl) (by omega) | exact ⟨rfl, by omega, bytes_le (by rfl) (by omega), by omega⟩ | (refine ⟨?_, ?_⟩ <;> (rw [wrap64 (by omega) (by omega)]; omega))); conv => whnf) | ((with_reducible refine Both.mk ?_ ?_) <;> conv => whnf) | ((with_reducible refine Any.mk fun b hb => ?_); conv => whnf) | ((with_reducible refine AskB.dec (fun hb => ?_) (fun hb => ?_)) <;> conv => whnf) | ((with_reducible refine AskB.ndec (fun hb => ?_) (fun hb => ?_)) <;> conv => whnf) | ((with_reducible refine AskB.mk (fun hb => ?_) (fun hb => ?_)) <;> conv => whnf) | ((with_reducible refine Run.drawX rfl (by decide +kernel) ?_); conv => whnf) | ((with_reducible refine Run.drawT rfl (by decide +kernel) ?_); conv => whnf) | ((with_reducible refine Run.drawW rfl (by decide +kernel) ?_); conv => whnf) | fail)
  refine Run.callBX awake24_fn rfl rfl trivial rfl rfl rfl ?_
  (conv => whnf); repeat' (first | ((with_reducible refine Know.mk fun _ => ?_); conv => whnf) | ((with_reducible refine Need.mk ?_ ?_); (first | omega | (dsimp only; omega) | decide | exact bytes_le (by rfl) (by omega) | exact ⟨rfl, by omega, bytes_le (by rfl) (by omega), by omega⟩ | (refine ⟨?_, ?_⟩ <;> (rw [wrap64 (by omega) (by omega)]; omega))); conv => whnf) | ((with_reducible refine Both.mk ?_ ?_) <;> conv => whnf) | ((with_reducible refine Any.mk fun b hb => ?_); conv => whnf) | ((with_reducible refine AskB.dec (fun hb => ?_) (fun hb => ?_)) <;> conv => whnf) | ((with_reducible refine AskB.ndec (fun hb => ?_) (fun hb => ?_)) <;> conv => whnf) | ((with_reducible refine AskB.mk (fun hb => ?_) (fun hb => ?_)) <;> conv => whnf) | ((with_reducible refine Run.drawX rfl (by decide +kernel) ?_); conv => whnf) | ((with_reducible refine Run.drawT rfl (by decide +kernel) ?_); conv => whnf) | ((with_reducible refine Run.drawW rfl (by decide +kernel) ?_); conv => whnf) | fail)
  have h1 := text26_fn a o ha
  have h2 := text29_fn a o ha
  have h3 := text29_fn b o hb
  have h4 := same30_fn a b o ha hb
  by_cases hbad : badO o
  · unfold textL at h1 h2 h3
    unfold sameL at h4
    simp only [if_pos hbad] at h1 h2 h3 h4
    refine Run.callBX h1 rfl rfl ⟨Le.refl _, Le.refl _, trivial⟩ rfl rfl rfl ?_
    (conv => whnf); repeat' (first | ((with_reducible refine Know.mk fun _ => ?_); conv => whnf) | ((with_reducible refine Need.mk ?_ ?_); (first | omega | (dsimp only; omega) | decide | exact bytes_le (by rfl) (by omega) | exact ⟨rfl, by omega, bytes_le (by rfl) (by omega), by omega⟩ | (refine ⟨?_, ?_⟩ <;> (rw [wrap64 (by omega) (by omega)]; omega))); conv => whnf) | ((with_reducible refine Both.mk ?_ ?_) <;> conv => whnf) | ((with_reducible refine Any.mk fun b hb => ?_); conv => whnf) | ((with_reducible refine AskB.dec (fun hb => ?_) (fun hb => ?_)) <;> conv => whnf) | ((with_reducible refine AskB.ndec (fun hb => ?_) (fun hb => ?_)) <;> conv => whnf) | ((with_reducible refine AskB.mk (fun hb => ?_) (fun hb => ?_)) <;> conv => whnf) | ((with_reducible refine Run.drawX rfl (by decide +kernel) ?_); conv => whnf) | ((with_reducible refine Run.drawT rfl (by decide +kernel) ?_); conv => whnf) | ((with_reducible refine Run.drawW rfl (by decide +kernel) ?_); conv => whnf) | fail)
    refine Run.callBX h2 rfl rfl ⟨Le.refl _, Le.refl _, trivial⟩ rfl rfl rfl ?_
    (conv => whnf); repeat' (first | ((with_reducible refine Know.mk fun _ => ?_); conv => whnf) | ((with_reducible refine Need.mk ?_ ?_); (first | omega | (dsimp only; omega) | decide | exact bytes_le (by rfl) (by omega) | exact ⟨rfl, by omega, bytes_le (by rfl) (by omega), by omega⟩ | (refine ⟨?_, ?_⟩ <;> (rw [wrap64 (by omega) (by omega)]; omega))); conv => whnf) | ((with_reducible refine Both.mk ?_ ?_) <;> conv => whnf) | ((with_reducible refine Any.mk fun b hb => ?_); conv => whnf) | ((with_reducible refine AskB.dec (fun hb => ?_) (fun hb => ?_)) <;> conv => whnf) | ((with_reducible refine AskB.ndec (fun hb => ?_) (fun hb => ?_)) <;> conv => whnf) | ((with_reducible refine AskB.mk (fun hb => ?_) (fun hb => ?_)) <;> conv => whnf) | ((with_reducible refine Run.drawX rfl (by decide +kernel) ?_); conv => whnf) | ((with_reducible refine Run.drawT rfl (by decide +kernel) ?_); conv => whnf) | ((with_reducible refine Run.drawW rfl (by decide +kernel) ?_); conv => whnf) | fail)
    refine Run.callBX h3 rfl rfl ⟨Le.refl _, Le.refl _, trivial⟩ rfl rfl rfl ?_
    (conv => whnf); repeat' (first | ((with_reducible refine Know.mk fun _ => ?_); conv => whnf) | ((with_reducible refine Need.mk ?_ ?_); (first | omega | (dsimp only; omega) | decide | exact bytes_le (by rfl) (by omega) | exact ⟨rfl, by omega, bytes_le (by rfl) (by omega), by omega⟩ | (refine ⟨?_, ?_⟩ <;> (rw [wrap64 (by omega) (by omega)]; omega))); conv => whnf) | ((with_reducible refine Both.mk ?_ ?_) <;> conv => whnf) | ((with_reducible refine Any.mk fun b hb => ?_); conv => whnf) | ((with_reducible refine AskB.dec (fun hb => ?_) (fun hb => ?_)) <;> conv => whnf) | ((with_reducible refine AskB.ndec (fun hb => ?_) (fun hb => ?_)) <;> conv => whnf) | ((with_reducible refine AskB.mk (fun hb => ?_) (fun hb => ?_)) <;> conv => whnf) | ((with_reducible refine Run.drawX rfl (by decide +kernel) ?_); conv => whnf) | ((with_reducible refine Run.drawT rfl (by decide +kernel) ?_); conv => whnf) | ((with_reducible refine Run.drawW rfl (by decide +kernel) ?_); conv => whnf) | fail)
    refine Run.callBX h4 rfl rfl ⟨Le.refl _, Le.refl _, Le.refl _, trivial⟩ rfl rfl rfl ?_
    (conv => whnf); repeat' (first | ((with_reducible refine Know.mk fun _ => ?_); conv => whnf) | ((with_reducible refine Need.mk ?_ ?_); (first | omega | (dsimp only; omega) | decide | exact bytes_le (by rfl) (by omega) | exact ⟨rfl, by omega, bytes_le (by rfl) (by omega), by omega⟩ | (refine ⟨?_, ?_⟩ <;> (rw [wrap64 (by omega) (by omega)]; omega))); conv => whnf) | ((with_reducible refine Both.mk ?_ ?_) <;> conv => whnf) | ((with_reducible refine Any.mk fun b hb => ?_); conv => whnf) | ((with_reducible refine AskB.dec (fun hb => ?_) (fun hb => ?_)) <;> conv => whnf) | ((with_reducible refine AskB.ndec (fun hb => ?_) (fun hb => ?_)) <;> conv => whnf) | ((with_reducible refine AskB.mk (fun hb => ?_) (fun hb => ?_)) <;> conv => whnf) | ((with_reducible refine Run.drawX rfl (by decide +kernel) ?_); conv => whnf) | ((with_reducible refine Run.drawT rfl (by decide +kernel) ?_); conv => whnf) | ((with_reducible refine Run.drawW rfl (by decide +kernel) ?_); conv => whnf) | fail)
    all_goals first
      | exact absurd rfl hb
      | (exfalso; omega)
      | exact Run.leave (ts := [6]) (.inr ⟨_, rfl⟩) rfl Tryd.func12 rfl (Le.refl _)
      | exact Run.leave (ts := [6]) (.inr ⟨_, rfl⟩) rfl Tryd.func12 rfl (Le.tt' (by simp))
  · unfold textL at h1 h2 h3
    unfold sameL at h4
    simp only [if_neg hbad] at h1 h2 h3 h4
    generalize textF a o = X at h1 h2 h4
    generalize textF b o = Y at h3 h4
    refine Run.callBX h1 rfl rfl ⟨Le.refl _, Le.refl _, trivial⟩ rfl rfl rfl ?_
    (conv => whnf); repeat' (first | ((with_reducible refine Know.mk fun _ => ?_); conv => whnf) | ((with_reducible refine Need.mk ?_ ?_); (first | omega | (dsimp only; omega) | decide | exact bytes_le (by rfl) (by omega) | exact ⟨rfl, by omega, bytes_le (by rfl) (by omega), by omega⟩ | (refine ⟨?_, ?_⟩ <;> (rw [wrap64 (by omega) (by omega)]; omega))); conv => whnf) | ((with_reducible refine Both.mk ?_ ?_) <;> conv => whnf) | ((with_reducible refine Any.mk fun b hb => ?_); conv => whnf) | ((with_reducible refine AskB.dec (fun hb => ?_) (fun hb => ?_)) <;> conv => whnf) | ((with_reducible refine AskB.ndec (fun hb => ?_) (fun hb => ?_)) <;> conv => whnf) | ((with_reducible refine AskB.mk (fun hb => ?_) (fun hb => ?_)) <;> conv => whnf) | ((with_reducible refine Run.drawX rfl (by decide +kernel) ?_); conv => whnf) | ((with_reducible refine Run.drawT rfl (by decide +kernel) ?_); conv => whnf) | ((with_reducible refine Run.drawW rfl (by decide +kernel) ?_); conv => whnf) | fail)
    refine Run.callBX h2 rfl rfl ⟨Le.refl _, Le.refl _, trivial⟩ rfl rfl rfl ?_
    (conv => whnf); repeat' (first | ((with_reducible refine Know.mk fun _ => ?_); conv => whnf) | ((with_reducible refine Need.mk ?_ ?_); (first | omega | (dsimp only; omega) | decide | exact bytes_le (by rfl) (by omega) | exact ⟨rfl, by omega, bytes_le (by rfl) (by omega), by omega⟩ | (refine ⟨?_, ?_⟩ <;> (rw [wrap64 (by omega) (by omega)]; omega))); conv => whnf) | ((with_reducible refine Both.mk ?_ ?_) <;> conv => whnf) | ((with_reducible refine Any.mk fun b hb => ?_); conv => whnf) | ((with_reducible refine AskB.dec (fun hb => ?_) (fun hb => ?_)) <;> conv => whnf) | ((with_reducible refine AskB.ndec (fun hb => ?_) (fun hb => ?_)) <;> conv => whnf) | ((with_reducible refine AskB.mk (fun hb => ?_) (fun hb => ?_)) <;> conv => whnf) | ((with_reducible refine Run.drawX rfl (by decide +kernel) ?_); conv => whnf) | ((with_reducible refine Run.drawT rfl (by decide +kernel) ?_); conv => whnf) | ((with_reducible refine Run.drawW rfl (by decide +kernel) ?_); conv => whnf) | fail)
    refine Run.callBX h3 rfl rfl ⟨Le.refl _, Le.refl _, trivial⟩ rfl rfl rfl ?_
    (conv => whnf); repeat' (first | ((with_reducible refine Know.mk fun _ => ?_); conv => whnf) | ((with_reducible refine Need.mk ?_ ?_); (first | omega | (dsimp only; omega) | decide | exact bytes_le (by rfl) (by omega) | exact ⟨rfl, by omega, bytes_le (by rfl) (by omega), by omega⟩ | (refine ⟨?_, ?_⟩ <;> (rw [wrap64 (by omega) (by omega)]; omega))); conv => whnf) | ((with_reducible refine Both.mk ?_ ?_) <;> conv => whnf) | ((with_reducible refine Any.mk fun b hb => ?_); conv => whnf) | ((with_reducible refine AskB.dec (fun hb => ?_) (fun hb => ?_)) <;> conv => whnf) | ((with_reducible refine AskB.ndec (fun hb => ?_) (fun hb => ?_)) <;> conv => whnf) | ((with_reducible refine AskB.mk (fun hb => ?_) (fun hb => ?_)) <;> conv => whnf) | ((with_reducible refine Run.drawX rfl (by decide +kernel) ?_); conv => whnf) | ((with_reducible refine Run.drawT rfl (by decide +kernel) ?_); conv => whnf) | ((with_reducible refine Run.drawW rfl (by decide +kernel) ?_); conv => whnf) | fail)
    refine Run.callBX h4 rfl rfl ⟨Le.refl _, Le.refl _, Le.refl _, trivial⟩ rfl rfl rfl ?_
    (conv => whnf); repeat' (first | ((with_reducible refine Know.mk fun _ => ?_); conv => whnf) | ((with_reducible refine Need.mk ?_ ?_); (first | omega | (dsimp only; omega) | decide | exact bytes_le (by rfl) (by omega) | exact ⟨rfl, by omega, bytes_le (by rfl) (by omega), by omega⟩ | (refine ⟨?_, ?_⟩ <;> (rw [wrap64 (by omega) (by omega)]; omega))); conv => whnf) | ((with_reducible refine Both.mk ?_ ?_) <;> conv => whnf) | ((with_reducible refine Any.mk fun b hb => ?_); conv => whnf) | ((with_reducible refine AskB.dec (fun hb => ?_) (fun hb => ?_)) <;> conv => whnf) | ((with_reducible refine AskB.ndec (fun hb => ?_) (fun hb => ?_)) <;> conv => whnf) | ((with_reducible refine AskB.mk (fun hb => ?_) (fun hb => ?_)) <;> conv => whnf) | ((with_reducible refine Run.drawX rfl (by decide +kernel) ?_); conv => whnf) | ((with_reducible refine Run.drawT rfl (by decide +kernel) ?_); conv => whnf) | ((with_reducible refine Run.drawW rfl (by decide +kernel) ?_); conv => whnf) | fail)
    all_goals first
      | exact absurd rfl hb
      | (exfalso; omega)
      | exact Run.leave (ts := [6]) (.inr ⟨_, rfl⟩) rfl Tryd.func12 rfl (Le.refl _)
      | exact Run.leave (ts := [6]) (.inr ⟨_, rfl⟩) rfl Tryd.func12 rfl (Le.tt' (by simp))
end Go.Proofs.YtfodjmemdkibpaaDoor.V
