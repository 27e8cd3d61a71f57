/-
The document's folding walked: the steps; a rune's bytes.
-/
import Derived.Test.YtfodjmemdkibpaaDoorRx
import Derived.Test.YtfodjmemdkibpaaDoorWf
import Derived.Test.YtfodjmemdkibpaaDoorWg
import Derived.Test.YtfodjmemdkibpaaDoorXb
namespace Go.Proofs.YtfodjmemdkibpaaDoor.V
open Go Go.Proofs Go.RowKit
set_option linter.unusedVariables false
set_option linter.unusedSimpArgs false
set_option maxRecDepth 100000
set_option maxHeartbeats 4000000
open Go Go.Proofs Go.Proofs.YtfodjmemdkibpaaDoor.V
theorem lat_rune : ∀ k : Fin 64, latR.getD k.val 0 ≠ 65533 := by decide +kernel
theorem lat_cells : ∀ (d k : Nat), 64 - k = d → k ≤ 64 → (cells latB (latP.getD k 0)).length = 64 - k ∧ ∀ i, i < 64 - k → ((cells latB (latP.getD k 0)).getD i tCel.z).r = (latR.getD (k + i) 0 : Nat)
  | 0, k, hd, hk => by
    obtain rfl : k = 64 := by omega
    rw [cells_out (by decide)]
    exact ⟨rfl, fun i hi => by omega⟩
  | d + 1, k, hd, hk => by
    obtain ⟨h1, h2, h3⟩ := lat_dec ⟨k, by omega⟩
    have hr := lat_rune ⟨k, by omega⟩
    simp only at h1 h2 h3 hr
    obtain ⟨i1, i2⟩ := lat_cells d (k + 1) (by omega) (by omega)
    rw [cells_in (show latP.getD k 0 < latB.size from h3), h1]
    simp only []
    rw [show latP.getD k 0 + (latP.getD (k + 1) 0 - latP.getD k 0) = latP.getD (k + 1) 0 by omega]
    refine ⟨by rw [List.length_cons, i1]; omega, fun i hi => ?_⟩
    cases i with
    | zero =>
      rw [List.getD_cons_zero]
      unfold cellAt
      rw [h1, if_neg (fun h => hr h.1)]; rfl
    | succ i =>
      rw [List.getD_cons_succ, i2 i (by omega)]
      congr 2; omega
theorem bare45_fn (r : Int) : Fn Tryd.prog 45 [.int .i32 r] (.int .i32 (bareV r)) := by
  refine Fn.of Tryd.f45 _ Tryd.func45 rfl (by decide) (by show 1 ≤ _; decide) tbOk 18 rfl fun S w0 gl => ?_
  obtain ⟨hl, hr⟩ := lat_cells 64 0 rfl (by omega)
  have hw : 192 ≤ r → r ≤ 255 → IntKind.i32.wrap (r - 192) = r - 192 := fun h1 h2 => wrap32 (by omega) (by omega)
  refine Run.go ?_; (conv => whnf); repeat' (first | ((with_reducible refine Know.mk fun _ => ?_); conv => whnf) | ((with_reducible refine Need.mk ?_ ?_); (first | omega | (dsimp only; omega) | decide | exact bytes_le (by rfl) (by omega) | exact ⟨rfl, by omega, bytes_le (by rfl) (by omega), by omega⟩ | (refine ⟨?_, ?_⟩ <;> (rw [wrap64 (by omega) (by omega)]; omega))); conv => whnf) | ((with_reducible refine Both.mk ?_ ?_) <;> conv => whnf) | ((with_reducible refine Any.mk fun b hb => ?_); conv => whnf) | ((with_reducible refine AskB.dec (fun hb => ?_) (fun hb => ?_)) <;> conv => whnf) | ((with_reducible refine AskB.ndec (fun hb => ?_) (fun hb => ?_)) <;> conv => whnf) | ((with_reducible refine AskB.mk (fun hb => ?_) (fun hb => ?_)) <;> conv => whnf) | ((with_reducible refine Run.drawX rfl (by decide +kernel) ?_); conv => whnf) | ((with_reducible refine Run.drawT rfl (by decide +kernel) ?_); conv => whnf) | ((with_reducible refine Run.drawW rfl (by decide +kernel) ?_); conv => whnf) | fail)
  · exact Run.leave (ts := [2]) (.inr ⟨_, rfl⟩) rfl Tryd.func45 rfl (Le.int (by unfold bareV; rw [if_pos (.inl hb)]))
  · exact Run.leave (ts := [2]) (.inr ⟨_, rfl⟩) rfl Tryd.func45 rfl (Le.int (by unfold bareV; rw [if_pos (.inr hb)]))
  rename_i hb1
  have hw := hw (by omega) (by omega)
  refine Run.callBX (cells36_fn latB (by decide)) rfl rfl ⟨Le.refl _, trivial⟩ rfl rfl rfl ?_
  have e0 : latP.getD 0 0 = 0 := rfl
  rw [e0] at hl hr
  generalize cells latB 0 = L at hl hr ⊢
  (conv => whnf); repeat' (first | ((with_reducible refine Know.mk fun _ => ?_); conv => whnf) | ((with_reducible refine Need.mk ?_ ?_); (first | omega | (dsimp only; omega) | decide | exact bytes_le (by rfl) (by omega) | exact ⟨rfl, by omega, bytes_le (by rfl) (by omega), by omega⟩ | (refine ⟨?_, ?_⟩ <;> (rw [wrap64 (by omega) (by omega)]; omega))); conv => whnf) | ((with_reducible refine Both.mk ?_ ?_) <;> conv => whnf) | ((with_reducible refine Any.mk fun b hb => ?_); conv => whnf) | ((with_reducible refine AskB.dec (fun hb => ?_) (fun hb => ?_)) <;> conv => whnf) | ((with_reducible refine AskB.ndec (fun hb => ?_) (fun hb => ?_)) <;> conv => whnf) | ((with_reducible refine AskB.mk (fun hb => ?_) (fun hb => ?_)) <;> conv => whnf) | ((with_reducible refine Run.drawX rfl (by decide +kernel) ?_); conv => whnf) | ((with_reducible refine Run.drawT rfl (by decide +kernel) ?_); conv => whnf) | ((with_reducible refine Run.drawW rfl (by decide +kernel) ?_); conv => whnf) | fail)
  refine Run.leave (ts := [2]) (.inr ⟨_, rfl⟩) rfl Tryd.func45 rfl (Le.int ?_)
  unfold bareV
  rw [if_neg (by omega), hw]
  have := hr (r - 192).toNat (by omega)
  rw [Nat.zero_add] at this
  exact this
theorem lig61_fn (r : Int) : Fn Tryd.prog 61 [.int .i32 r] (.str (if isLig r = true then ligB r else .empty)) := by
  have hno : ¬ (r = 198 ∨ r = 230 ∨ r = 338 ∨ r = 339 ∨ r = 223 ∨ r = 383 ∨ r = 306 ∨ r = 307 ∨ (64256 ≤ r ∧ r ≤ 64262)) → isLig r = false := fun h => decide_eq_false h
  refine Fn.of Tryd.f61 _ Tryd.func61 rfl (by decide) (by show 1 ≤ _; decide) tbOk 33 rfl fun S w0 gl => ?_
  refine Run.go ?_; (conv => whnf); repeat' (first | ((with_reducible refine Know.mk fun _ => ?_); conv => whnf) | ((with_reducible refine Need.mk ?_ ?_); (first | omega | (dsimp only; omega) | decide | exact bytes_le (by rfl) (by omega) | exact ⟨rfl, by omega, bytes_le (by rfl) (by omega), by omega⟩ | (refine ⟨?_, ?_⟩ <;> (rw [wrap64 (by omega) (by omega)]; omega))); conv => whnf) | ((with_reducible refine Both.mk ?_ ?_) <;> conv => whnf) | ((with_reducible refine Any.mk fun b hb => ?_); conv => whnf) | ((with_reducible refine AskB.dec (fun hb => ?_) (fun hb => ?_)) <;> first | (exfalso; omega) | (conv => whnf)) | ((with_reducible refine AskB.ndec (fun hb => ?_) (fun hb => ?_)) <;> first | (exfalso; omega) | (conv => whnf)) | ((with_reducible refine AskB.mk (fun hb => ?_) (fun hb => ?_)) <;> first | (exfalso; omega) | (conv => whnf)) | ((with_reducible refine Run.drawX rfl (by decide +kernel) ?_); conv => whnf) | ((with_reducible refine Run.drawT rfl (by decide +kernel) ?_); conv => whnf) | ((with_reducible refine Run.drawW rfl (by decide +kernel) ?_); conv => whnf) | fail)
  all_goals first
    | (subst hb; exact Run.leave (ts := [2]) (.inr ⟨_, rfl⟩) rfl Tryd.func61 rfl (Le.str (by decide +kernel)))
    | (refine Run.leave (ts := [2]) (.inr ⟨_, rfl⟩) rfl Tryd.func61 rfl (Le.str ?_)
       rw [hno (by omega)]; rfl)
theorem plain46_fn (r : Int) : Fn Tryd.prog 46 [.int .i32 r] (.int .i32 (letterV r)) := by
  refine Fn.of Tryd.f46 _ Tryd.func46 rfl (by decide) (by show 1 ≤ _; decide) tbOk 13 rfl fun S w0 gl => ?_
  refine Run.go ?_; (conv => whnf); repeat' (first | ((with_reducible refine Know.mk fun _ => ?_); conv => whnf) | ((with_reducible refine Need.mk ?_ ?_); (first | omega | (dsimp only; omega) | decide | exact bytes_le (by rfl) (by omega) | exact ⟨rfl, by omega, bytes_le (by rfl) (by omega), by omega⟩ | (refine ⟨?_, ?_⟩ <;> (rw [wrap64 (by omega) (by omega)]; omega))); conv => whnf) | ((with_reducible refine Both.mk ?_ ?_) <;> conv => whnf) | ((with_reducible refine Any.mk fun b hb => ?_); conv => whnf) | ((with_reducible refine AskB.dec (fun hb => ?_) (fun hb => ?_)) <;> conv => whnf) | ((with_reducible refine AskB.ndec (fun hb => ?_) (fun hb => ?_)) <;> conv => whnf) | ((with_reducible refine AskB.mk (fun hb => ?_) (fun hb => ?_)) <;> conv => whnf) | ((with_reducible refine Run.drawX rfl (by decide +kernel) ?_); conv => whnf) | ((with_reducible refine Run.drawT rfl (by decide +kernel) ?_); conv => whnf) | ((with_reducible refine Run.drawW rfl (by decide +kernel) ?_); conv => whnf) | fail)
  iterate 4 (· exact Run.leave (ts := [2]) (.inr ⟨_, rfl⟩) rfl Tryd.func46 rfl (Le.int (by subst hb; rfl)))
  · refine Run.leave (ts := [2]) (.inr ⟨_, rfl⟩) rfl Tryd.func46 rfl (Le.int ?_)
    unfold letterV
    rw [if_neg (by omega)]
theorem small44_fn (r : Int) : Fn Tryd.prog 44 [.int .i32 r] (.int .i32 (lowV r)) := by
  have h32 : ∀ x : Int, -1000000 ≤ x → x ≤ 1000000 → IntKind.i32.wrap x = x := fun x h1 h2 => wrap32 (by omega) (by omega)
  have htm : 0 ≤ r → Int.tmod r 2 = r % 2 := fun h => Int.tmod_eq_emod_of_nonneg h
  refine Fn.of Tryd.f44 _ Tryd.func44 rfl (by decide) (by show 1 ≤ _; decide) tbOk 107 rfl fun S w0 gl => ?_
  refine Run.go ?_; (conv => whnf); repeat' (first | ((with_reducible refine Know.mk fun _ => ?_); conv => whnf) | ((with_reducible refine Need.mk ?_ ?_); (first | omega | (dsimp only; omega) | decide | exact bytes_le (by rfl) (by omega) | exact ⟨rfl, by omega, bytes_le (by rfl) (by omega), by omega⟩ | (refine ⟨?_, ?_⟩ <;> (rw [wrap64 (by omega) (by omega)]; omega))); conv => whnf) | ((with_reducible refine Both.mk ?_ ?_) <;> conv => whnf) | ((with_reducible refine Any.mk fun b hb => ?_); conv => whnf) | ((with_reducible refine AskB.dec (fun hb => ?_) (fun hb => ?_)) <;> first | (exfalso; omega) | (conv => whnf)) | ((with_reducible refine AskB.ndec (fun hb => ?_) (fun hb => ?_)) <;> first | (exfalso; omega) | (conv => whnf)) | ((with_reducible refine AskB.mk (fun hb => ?_) (fun hb => ?_)) <;> first | (exfalso; omega) | (conv => whnf)) | ((with_reducible refine Run.drawX rfl (by decide +kernel) ?_); conv => whnf) | ((with_reducible refine Run.drawT rfl (by decide +kernel) ?_); conv => whnf) | ((with_reducible refine Run.drawW rfl (by decide +kernel) ?_); conv => whnf) | fail)
  all_goals refine Run.leave (ts := [2]) (.inr ⟨_, rfl⟩) rfl Tryd.func44 rfl (Le.int ?_)
  all_goals unfold lowV
  all_goals first
    | (rw [if_pos (by omega)]; exact h32 _ (by omega) (by omega))
    | (rw [if_neg (by omega), if_pos (by omega)]; exact h32 _ (by omega) (by omega))
    | (rw [if_neg (by omega), if_neg (by omega), if_neg (by omega), if_neg (by omega), if_neg (by omega), if_neg (by omega)])
    | (try rw [h32 _ (by omega) (by omega)]
       (repeat' split) <;> first | omega | (have ht := htm (by omega); omega))
/-- A text's bytes as a slice. -/
def bL (s : ByteArray) : AV := .sl s.size 1 (bytesG s)
theorem bt_bl (l : List Int) (h : ∀ x ∈ l, 0 ≤ x ∧ x < 256) (i : Nat) : bt (bl (l.map fun x => x.toNat.toUInt8)) i = l.getD i 0 := by
  unfold bt
  rw [bl_list]
  by_cases hi : i < l.length
  · rw [List.getD, List.getD, List.getElem?_map, List.getElem?_eq_getElem hi]
    have := h _ (List.getElem_mem hi)
    simp only [Option.map_some, Option.getD_some]
    rw [toU _ this.1 this.2]; omega
  · rw [List.getD, List.getD, List.getElem?_eq_none (by simpa using hi), List.getElem?_eq_none (by simpa using hi)]; rfl
theorem bytes_out {s : ByteArray} (l : List Int) (hs : s = bl (l.map fun x => x.toNat.toUInt8)) (h : ∀ x ∈ l, 0 ≤ x ∧ x < 256) {n : Nat} {g : Nat → Nat → AV} (hn : n = l.length) (hg : ∀ i, i < n → Le (g i 0) (.int .u8 (l.getD i 0))) : Le (.sl n 1 g) (bL s) := by
  subst hs; subst hn
  have hz : (bl (l.map fun x => x.toNat.toUInt8)).size = l.length := by simp [bl, ByteArray.size]
  unfold bL
  rw [hz]
  refine Le.sl (fun i j hi hj => ?_)
  obtain rfl : j = 0 := by omega
  have := hg i hi
  rw [← bt_bl l h i] at this
  exact this
theorem and63_i32 (r : Int) (h1 : 0 ≤ r) (h2 : r < 2147483648) : IntKind.i32.wrap ↑(BitVec.ofInt IntKind.i32.bits r &&& BitVec.ofInt IntKind.i32.bits 63).toNat = r % 64 := by
  obtain ⟨n, rfl⟩ : ∃ n : Nat, r = n := ⟨r.toNat, by omega⟩
  have e : (BitVec.ofInt IntKind.i32.bits (n : Int) &&& BitVec.ofInt IntKind.i32.bits 63).toNat = n % 64 := by
    rw [BitVec.toNat_and, ofInt_nat n (by omega), show (BitVec.ofInt IntKind.i32.bits 63).toNat = 2 ^ 6 - 1 from rfl, Nat.and_two_pow_sub_one_eq_mod]
  rw [e]
  rw [wrap32 (by omega) (by omega)]; omega
theorem u8_in (x : Int) (h0 : 0 ≤ x) (h1 : x < 256) : IntKind.u8.wrap x = x := IntWalk.u8_in x ⟨h0, by show x ≤ _; omega⟩
theorem or_u8_192 : ∀ n : Fin 64, IntKind.u8.wrap ↑(BitVec.ofInt IntKind.u8.bits 192 ||| BitVec.ofInt IntKind.u8.bits (n.val : Int)).toNat = 192 + (n.val : Int) := by decide +kernel
theorem or_u8_128 : ∀ n : Fin 64, IntKind.u8.wrap ↑(BitVec.ofInt IntKind.u8.bits 128 ||| BitVec.ofInt IntKind.u8.bits (n.val : Int)).toNat = 128 + (n.val : Int) := by decide +kernel
theorem or_u8_224 : ∀ n : Fin 16, IntKind.u8.wrap ↑(BitVec.ofInt IntKind.u8.bits 224 ||| BitVec.ofInt IntKind.u8.bits (n.val : Int)).toNat = 224 + (n.val : Int) := by decide +kernel
theorem or_u8_240 : ∀ n : Fin 8, IntKind.u8.wrap ↑(BitVec.ofInt IntKind.u8.bits 240 ||| BitVec.ofInt IntKind.u8.bits (n.val : Int)).toNat = 240 + (n.val : Int) := by decide +kernel
theorem ob192 (x : Int) (h0 : 0 ≤ x) (h1 : x < 64) : IntKind.u8.wrap ↑(BitVec.ofInt IntKind.u8.bits 192 ||| BitVec.ofInt IntKind.u8.bits (IntKind.u8.wrap x)).toNat = 192 + x := by
  rw [u8_in x h0 (by omega)]
  have := or_u8_192 ⟨x.toNat, by omega⟩
  simp only [Int.toNat_of_nonneg h0] at this; exact this
theorem ob128 (x : Int) (h0 : 0 ≤ x) (h1 : x < 64) : IntKind.u8.wrap ↑(BitVec.ofInt IntKind.u8.bits 128 ||| BitVec.ofInt IntKind.u8.bits (IntKind.u8.wrap x)).toNat = 128 + x := by
  rw [u8_in x h0 (by omega)]
  have := or_u8_128 ⟨x.toNat, by omega⟩
  simp only [Int.toNat_of_nonneg h0] at this; exact this
theorem ob224 (x : Int) (h0 : 0 ≤ x) (h1 : x < 16) : IntKind.u8.wrap ↑(BitVec.ofInt IntKind.u8.bits 224 ||| BitVec.ofInt IntKind.u8.bits (IntKind.u8.wrap x)).toNat = 224 + x := by
  rw [u8_in x h0 (by omega)]
  have := or_u8_224 ⟨x.toNat, by omega⟩
  simp only [Int.toNat_of_nonneg h0] at this; exact this
theorem ob240 (x : Int) (h0 : 0 ≤ x) (h1 : x < 8) : IntKind.u8.wrap ↑(BitVec.ofInt IntKind.u8.bits 240 ||| BitVec.ofInt IntKind.u8.bits (IntKind.u8.wrap x)).toNat = 240 + x := by
  rw [u8_in x h0 (by omega)]
  have := or_u8_240 ⟨x.toNat, by omega⟩
  simp only [Int.toNat_of_nonneg h0] at this; exact this
theorem fd6 (r : Int) : Int.fdiv r (2 ^ min (Int.toNat 6) IntKind.i32.bits) = r / 64 := by show Int.fdiv r 64 = _; rw [Int.fdiv_eq_ediv_of_nonneg _ (by decide)]
theorem fd12 (r : Int) : Int.fdiv r (2 ^ min (Int.toNat 12) IntKind.i32.bits) = r / 4096 := by show Int.fdiv r 4096 = _; rw [Int.fdiv_eq_ediv_of_nonneg _ (by decide)]
theorem fd18 (r : Int) : Int.fdiv r (2 ^ min (Int.toNat 18) IntKind.i32.bits) = r / 262144 := by show Int.fdiv r 262144 = _; rw [Int.fdiv_eq_ediv_of_nonneg _ (by decide)]
theorem encZ (r : Int) : Utf8.encode r = bl ((Lib.encodeRuneZ r).map fun x => x.toNat.toUInt8) := enc_eq r
theorem wr1 (r : Int) (h0 : 0 ≤ r) (h1 : r < 4096) : IntKind.u8.wrap ↑(BitVec.ofInt IntKind.u8.bits 192 ||| BitVec.ofInt IntKind.u8.bits (IntKind.u8.wrap (Int.fdiv r (2 ^ min (Int.toNat 6) IntKind.i32.bits)))).toNat = 192 + r / 64 := by
  rw [fd6]; exact ob192 _ (by omega) (by omega)
theorem wr2 (r : Int) (h0 : 0 ≤ r) (h1 : r < 1114112) : IntKind.u8.wrap ↑(BitVec.ofInt IntKind.u8.bits 128 ||| BitVec.ofInt IntKind.u8.bits (IntKind.u8.wrap (IntKind.i32.wrap ↑(BitVec.ofInt IntKind.i32.bits r &&& BitVec.ofInt IntKind.i32.bits 63).toNat))).toNat = 128 + r % 64 := by
  rw [and63_i32 r h0 (by omega)]; exact ob128 _ (by omega) (by omega)
theorem wr3 (r : Int) (h0 : 0 ≤ r) (h1 : r < 1114112) : IntKind.u8.wrap ↑(BitVec.ofInt IntKind.u8.bits 128 ||| BitVec.ofInt IntKind.u8.bits (IntKind.u8.wrap (IntKind.i32.wrap ↑(BitVec.ofInt IntKind.i32.bits (Int.fdiv r (2 ^ min (Int.toNat 6) IntKind.i32.bits)) &&& BitVec.ofInt IntKind.i32.bits 63).toNat))).toNat = 128 + r / 64 % 64 := by
  rw [fd6, and63_i32 _ (by omega) (by omega)]; exact ob128 _ (by omega) (by omega)
theorem wr4 (r : Int) (h0 : 0 ≤ r) (h1 : r < 65536) : IntKind.u8.wrap ↑(BitVec.ofInt IntKind.u8.bits 224 ||| BitVec.ofInt IntKind.u8.bits (IntKind.u8.wrap (Int.fdiv r (2 ^ min (Int.toNat 12) IntKind.i32.bits)))).toNat = 224 + r / 4096 := by
  rw [fd12]; exact ob224 _ (by omega) (by omega)
theorem wr5 (r : Int) (h0 : 0 ≤ r) (h1 : r < 1114112) : IntKind.u8.wrap ↑(BitVec.ofInt IntKind.u8.bits 128 ||| BitVec.ofInt IntKind.u8.bits (IntKind.u8.wrap (IntKind.i32.wrap ↑(BitVec.ofInt IntKind.i32.bits (Int.fdiv r (2 ^ min (Int.toNat 12) IntKind.i32.bits)) &&& BitVec.ofInt IntKind.i32.bits 63).toNat))).toNat = 128 + r / 4096 % 64 := by
  rw [fd12, and63_i32 _ (by omega) (by omega)]; exact ob128 _ (by omega) (by omega)
theorem wr6 (r : Int) (h0 : 0 ≤ r) (h1 : r < 1114112) : IntKind.u8.wrap ↑(BitVec.ofInt IntKind.u8.bits 240 ||| BitVec.ofInt IntKind.u8.bits (IntKind.u8.wrap (Int.fdiv r (2 ^ min (Int.toNat 18) IntKind.i32.bits)))).toNat = 240 + r / 262144 := by
  rw [fd18]; exact ob240 _ (by omega) (by omega)
theorem written62_fn (r : Int) : Fn Tryd.prog 62 [.int .i32 r] (bL (Utf8.encode r)) := by
  refine Fn.of Tryd.f62 _ Tryd.func62 rfl (by decide) (by show 1 ≤ _; decide) tbOk 71 rfl fun S w0 gl => ?_
  refine Run.go ?_; (conv => whnf); repeat' (first | ((with_reducible refine Know.mk fun _ => ?_); conv => whnf) | ((with_reducible refine Need.mk ?_ ?_); (first | omega | (dsimp only; omega) | decide | exact bytes_le (by rfl) (by omega) | exact ⟨rfl, by omega, bytes_le (by rfl) (by omega), by omega⟩ | (refine ⟨?_, ?_⟩ <;> (rw [wrap64 (by omega) (by omega)]; omega))); conv => whnf) | ((with_reducible refine Both.mk ?_ ?_) <;> conv => whnf) | ((with_reducible refine Any.mk fun b hb => ?_); conv => whnf) | ((with_reducible refine AskB.dec (fun hb => ?_) (fun hb => ?_)) <;> first | (exfalso; omega) | (conv => whnf)) | ((with_reducible refine AskB.ndec (fun hb => ?_) (fun hb => ?_)) <;> first | (exfalso; omega) | (conv => whnf)) | ((with_reducible refine AskB.mk (fun hb => ?_) (fun hb => ?_)) <;> first | (exfalso; omega) | (conv => whnf)) | ((with_reducible refine Run.drawX rfl (by decide +kernel) ?_); conv => whnf) | ((with_reducible refine Run.drawT rfl (by decide +kernel) ?_); conv => whnf) | ((with_reducible refine Run.drawW rfl (by decide +kernel) ?_); conv => whnf) | fail)
  all_goals refine Run.leave (ts := [2]) (.inr ⟨_, rfl⟩) rfl Tryd.func62 rfl (bytes_out (Lib.encodeRuneZ r) (encZ r) ?_ ?_ ?_)
  all_goals first
    | (rw [Lib.encodeRuneZ_bad (by omega)])
    | (rw [Lib.encodeRuneZ_one (by omega) (by omega)])
    | (rw [Lib.encodeRuneZ_two (by omega) (by omega)])
    | (rw [Lib.encodeRuneZ_three (by omega)])
    | (rw [Lib.encodeRuneZ_four (by omega) (by omega)])
  all_goals first
    | rfl
    | (intro x hx
       simp only [List.mem_cons, List.not_mem_nil, or_false] at hx
       rcases hx with rfl | rfl | rfl | rfl <;> omega)
    | (intro x hx
       simp only [List.mem_cons, List.not_mem_nil, or_false] at hx
       rcases hx with rfl | rfl | rfl <;> omega)
    | (intro x hx
       simp only [List.mem_cons, List.not_mem_nil, or_false] at hx
       rcases hx with rfl | rfl <;> omega)
    | (intro x hx
       simp only [List.mem_cons, List.not_mem_nil, or_false] at hx
       subst hx; omega)
    | skip
  all_goals
    intro i hi
    match i, hi with
    | 0, hi => first | exact Le.int (u8_in r (by omega) (by omega)) | exact Le.int (wr1 r (by omega) (by omega)) | exact Le.int (wr4 r (by omega) (by omega)) | exact Le.int (wr6 r (by omega) (by omega)) | exact Le.int (wr4 65533 (by omega) (by omega))
    | 1, hi => first | exact absurd hi (by decide) | exact Le.int (wr2 r (by omega) (by omega)) | exact Le.int (wr3 r (by omega) (by omega)) | exact Le.int (wr5 r (by omega) (by omega)) | exact Le.int (wr3 65533 (by omega) (by omega))
    | 2, hi => first | exact absurd hi (by decide) | exact Le.int (wr2 r (by omega) (by omega)) | exact Le.int (wr3 r (by omega) (by omega)) | exact Le.int (wr2 65533 (by omega) (by omega))
    | 3, hi => first | exact absurd hi (by decide) | exact Le.int (wr2 r (by omega) (by omega))
    | i + 4, hi => exact absurd hi (by show ¬ i + 4 < _; omega)
end Go.Proofs.YtfodjmemdkibpaaDoor.V
