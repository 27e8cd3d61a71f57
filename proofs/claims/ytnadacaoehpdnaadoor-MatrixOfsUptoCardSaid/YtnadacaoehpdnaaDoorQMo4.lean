/-
The texts BXe, BXf, BXg, BXh, BGa, BTb, BTc, BXq, BTd, BGb, BGc, BGd, BGe, BGf, BGh, BGi, BMa, BMc, BMd, BNa, BNb, BNl, of each what the law needs.
-/
import Derived.Test.YtnadacaoehpdnaaDoorQMo3
import Derived.Lib.MapLaws
namespace Go.Proofs.YtnadacaoehpdnaaDoor.V
set_option linter.unusedVariables false
set_option linter.unusedSimpArgs false
open Go Go.Proofs Go.RowKit
set_option maxRecDepth 100000
set_option maxHeartbeats 4000000
open Go Go.Proofs Go.Proofs.YtnadacaoehpdnaaDoor.V
theorem lat_rune : ∀ k : Fin 64, latR.getD k.val 0 ≠ 65533 := by decide +kernel
theorem lat_cells : ∀ (d k : Nat), 64 - k = d → k ≤ 64 → (cells latB (latP.getD k 0)).length = 64 - k ∧ ∀ i, i < 64 - k → ((cells latB (latP.getD k 0)).getD i tCel.z).r = (latR.getD (k + i) 0 : Nat)
  | 0, k, hd, hk => by
    obtain rfl : k = 64 := by omega
    rw [cells_out (by decide)]
    exact ⟨rfl, fun i hi => by omega⟩
  | d + 1, k, hd, hk => by
    obtain ⟨h1, h2, h3⟩ := lat_dec ⟨k, by omega⟩
    have hr := lat_rune ⟨k, by omega⟩
    simp only at h1 h2 h3 hr
    obtain ⟨i1, i2⟩ := lat_cells d (k + 1) (by omega) (by omega)
    rw [cells_in (show latP.getD k 0 < latB.size from h3), h1]
    simp only []
    rw [show latP.getD k 0 + (latP.getD (k + 1) 0 - latP.getD k 0) = latP.getD (k + 1) 0 by omega]
    refine ⟨by rw [List.length_cons, i1]; omega, fun i hi => ?_⟩
    cases i with
    | zero =>
      rw [List.getD_cons_zero]
      unfold cellAt
      rw [h1, if_neg (fun h => hr h.1)]; rfl
    | succ i =>
      rw [List.getD_cons_succ, i2 i (by omega)]
      congr 2; omega
theorem bare45_fn (r : Int) : Fn Tryd.prog 92 [.int .i32 r] (.int .i32 (bareV r)) := by
  refine Fn.of Tryd.f92 _ Tryd.func92 rfl (by decide) (by show 1 ≤ _; decide) tbOk 18 rfl fun S w0 gl => ?_
  obtain ⟨hl, hr⟩ := lat_cells 64 0 rfl (by omega)
  have hw : 192 ≤ r → r ≤ 255 → IntKind.i32.wrap (r - 192) = r - 192 := fun h1 h2 => wrap32 (by omega) (by omega)
  refine Run.go ?_; (conv => whnf); repeat' (first | ((with_reducible refine Know.mk fun _ => ?_); conv => whnf) | ((with_reducible refine Need.mk ?_ ?_); exact nd; conv => whnf) | ((with_reducible first | refine Both.mk ?_ ?_ | refine Any.mk fun b hb => ?_ | refine AskB.dec (fun hb => ?_) (fun hb => ?_) | refine AskB.ndec (fun hb => ?_) (fun hb => ?_) | refine AskB.mk (fun hb => ?_) (fun hb => ?_)) <;> conv => whnf) | ((with_reducible first | refine Run.drawX rfl (by decide +kernel) ?_ | refine Run.drawT rfl (by decide +kernel) ?_ | refine Run.drawW rfl (by decide +kernel) ?_); conv => whnf))
  · exact Run.leave (ts := [2]) (.inr ⟨_, rfl⟩) rfl Tryd.func92 rfl (Le.int (by unfold bareV; rw [if_pos (.inl hb)]))
  · exact Run.leave (ts := [2]) (.inr ⟨_, rfl⟩) rfl Tryd.func92 rfl (Le.int (by unfold bareV; rw [if_pos (.inr hb)]))
  rename_i hb1
  have hw := hw (by omega) (by omega)
  refine Run.callBX (cells36_fn latB (by decide)) rfl rfl ⟨Le.refl _, trivial⟩ rfl rfl rfl ?_
  have e0 : latP.getD 0 0 = 0 := rfl
  rw [e0] at hl hr
  generalize cells latB 0 = L at hl hr ⊢
  (conv => whnf); repeat' (first | ((with_reducible refine Know.mk fun _ => ?_); conv => whnf) | ((with_reducible refine Need.mk ?_ ?_); exact nd; conv => whnf) | ((with_reducible first | refine Both.mk ?_ ?_ | refine Any.mk fun b hb => ?_ | refine AskB.dec (fun hb => ?_) (fun hb => ?_) | refine AskB.ndec (fun hb => ?_) (fun hb => ?_) | refine AskB.mk (fun hb => ?_) (fun hb => ?_)) <;> conv => whnf) | ((with_reducible first | refine Run.drawX rfl (by decide +kernel) ?_ | refine Run.drawT rfl (by decide +kernel) ?_ | refine Run.drawW rfl (by decide +kernel) ?_); conv => whnf))
  refine Run.leave (ts := [2]) (.inr ⟨_, rfl⟩) rfl Tryd.func92 rfl (Le.int ?_)
  unfold bareV
  rw [if_neg (by omega), hw]
  have := hr (r - 192).toNat (by omega)
  rw [Nat.zero_add] at this
  exact this
theorem lig61_fn (r : Int) : Fn Tryd.prog 106 [.int .i32 r] (.str (if isLig r = true then ligB r else .empty)) := by
  have hno : ¬ (r = 198 ∨ r = 230 ∨ r = 338 ∨ r = 339 ∨ r = 223 ∨ r = 383 ∨ r = 306 ∨ r = 307 ∨ (64256 ≤ r ∧ r ≤ 64262)) → isLig r = false := fun h => decide_eq_false h
  refine Fn.of Tryd.f106 _ Tryd.func106 rfl (by decide) (by show 1 ≤ _; decide) tbOk 33 rfl fun S w0 gl => ?_
  refine Run.go ?_; (conv => whnf); repeat' (first | ((with_reducible refine Know.mk fun _ => ?_); conv => whnf) | ((with_reducible refine Need.mk ?_ ?_); exact nd; conv => whnf) | ((with_reducible refine Both.mk ?_ ?_) <;> conv => whnf) | ((with_reducible refine Any.mk fun b hb => ?_); conv => whnf) | ((with_reducible first | refine AskB.dec (fun hb => ?_) (fun hb => ?_) | refine AskB.ndec (fun hb => ?_) (fun hb => ?_) | refine AskB.mk (fun hb => ?_) (fun hb => ?_)) <;> first | (exfalso; omega) | (conv => whnf)) | ((with_reducible first | refine Run.drawX rfl (by decide +kernel) ?_ | refine Run.drawT rfl (by decide +kernel) ?_ | refine Run.drawW rfl (by decide +kernel) ?_); conv => whnf))
  all_goals first
    | (subst hb; exact Run.leave (ts := [2]) (.inr ⟨_, rfl⟩) rfl Tryd.func106 rfl (Le.str (by decide +kernel)))
    | (refine Run.leave (ts := [2]) (.inr ⟨_, rfl⟩) rfl Tryd.func106 rfl (Le.str ?_)
       rw [hno (by omega)]; rfl)
theorem plain46_fn (r : Int) : Fn Tryd.prog 93 [.int .i32 r] (.int .i32 (letterV r)) := by
  refine Fn.of Tryd.f93 _ Tryd.func93 rfl (by decide) (by show 1 ≤ _; decide) tbOk 13 rfl fun S w0 gl => ?_
  refine Run.go ?_; (conv => whnf); repeat' (first | ((with_reducible refine Know.mk fun _ => ?_); conv => whnf) | ((with_reducible refine Need.mk ?_ ?_); exact nd; conv => whnf) | ((with_reducible first | refine Both.mk ?_ ?_ | refine Any.mk fun b hb => ?_ | refine AskB.dec (fun hb => ?_) (fun hb => ?_) | refine AskB.ndec (fun hb => ?_) (fun hb => ?_) | refine AskB.mk (fun hb => ?_) (fun hb => ?_)) <;> conv => whnf) | ((with_reducible first | refine Run.drawX rfl (by decide +kernel) ?_ | refine Run.drawT rfl (by decide +kernel) ?_ | refine Run.drawW rfl (by decide +kernel) ?_); conv => whnf))
  iterate 4 (· exact Run.leave (ts := [2]) (.inr ⟨_, rfl⟩) rfl Tryd.func93 rfl (Le.int (by subst hb; rfl)))
  · refine Run.leave (ts := [2]) (.inr ⟨_, rfl⟩) rfl Tryd.func93 rfl (Le.int ?_)
    unfold letterV
    rw [if_neg (by omega)]
theorem small44_fn (r : Int) : Fn Tryd.prog 91 [.int .i32 r] (.int .i32 (lowV r)) := by
  have h32 : ∀ x : Int, -1000000 ≤ x → x ≤ 1000000 → IntKind.i32.wrap x = x := fun x h1 h2 => wrap32 (by omega) (by omega)
  have htm : 0 ≤ r → Int.tmod r 2 = r % 2 := fun h => Int.tmod_eq_emod_of_nonneg h
  refine Fn.of Tryd.f91 _ Tryd.func91 rfl (by decide) (by show 1 ≤ _; decide) tbOk 107 rfl fun S w0 gl => ?_
  refine Run.go ?_; (conv => whnf); repeat' (first | ((with_reducible refine Know.mk fun _ => ?_); conv => whnf) | ((with_reducible refine Need.mk ?_ ?_); exact nd; conv => whnf) | ((with_reducible refine Both.mk ?_ ?_) <;> conv => whnf) | ((with_reducible refine Any.mk fun b hb => ?_); conv => whnf) | ((with_reducible first | refine AskB.dec (fun hb => ?_) (fun hb => ?_) | refine AskB.ndec (fun hb => ?_) (fun hb => ?_) | refine AskB.mk (fun hb => ?_) (fun hb => ?_)) <;> first | (exfalso; omega) | (conv => whnf)) | ((with_reducible first | refine Run.drawX rfl (by decide +kernel) ?_ | refine Run.drawT rfl (by decide +kernel) ?_ | refine Run.drawW rfl (by decide +kernel) ?_); conv => whnf))
  all_goals refine Run.leave (ts := [2]) (.inr ⟨_, rfl⟩) rfl Tryd.func91 rfl (Le.int ?_)
  all_goals unfold lowV
  all_goals first
    | (rw [if_pos (by omega)]; exact h32 _ (by omega) (by omega))
    | (rw [if_neg (by omega), if_pos (by omega)]; exact h32 _ (by omega) (by omega))
    | (rw [if_neg (by omega), if_neg (by omega), if_neg (by omega), if_neg (by omega), if_neg (by omega), if_neg (by omega)])
    | (try rw [h32 _ (by omega) (by omega)]
       (repeat' split) <;> first | omega | (have ht := htm (by omega); omega))
/-- A text's bytes as a slice. -/
def bL (s : ByteArray) : AV := .sl s.size 1 (bytesG s)
theorem bt_bl (l : List Int) (h : ∀ x ∈ l, 0 ≤ x ∧ x < 256) (i : Nat) : bt (bl (l.map fun x => x.toNat.toUInt8)) i = l.getD i 0 := by
  unfold bt
  rw [bl_list]
  by_cases hi : i < l.length
  · rw [List.getD, List.getD, List.getElem?_map, List.getElem?_eq_getElem hi]
    have := h _ (List.getElem_mem hi)
    simp only [Option.map_some, Option.getD_some]
    rw [toU _ this.1 this.2]; omega
  · rw [List.getD, List.getD, List.getElem?_eq_none (by simpa using hi), List.getElem?_eq_none (by simpa using hi)]; rfl
theorem bytes_out {s : ByteArray} (l : List Int) (hs : s = bl (l.map fun x => x.toNat.toUInt8)) (h : ∀ x ∈ l, 0 ≤ x ∧ x < 256) {n : Nat} {g : Nat → Nat → AV} (hn : n = l.length) (hg : ∀ i, i < n → Le (g i 0) (.int .u8 (l.getD i 0))) : Le (.sl n 1 g) (bL s) := by
  subst hs; subst hn
  have hz : (bl (l.map fun x => x.toNat.toUInt8)).size = l.length := by simp [bl, ByteArray.size]
  unfold bL
  rw [hz]
  refine Le.sl (fun i j hi hj => ?_)
  obtain rfl : j = 0 := by omega
  have := hg i hi
  rw [← bt_bl l h i] at this
  exact this
theorem and63_i32 (r : Int) (h1 : 0 ≤ r) (h2 : r < 2147483648) : IntKind.i32.wrap ↑(BitVec.ofInt IntKind.i32.bits r &&& BitVec.ofInt IntKind.i32.bits 63).toNat = r % 64 := by
  obtain ⟨n, rfl⟩ : ∃ n : Nat, r = n := ⟨r.toNat, by omega⟩
  have e : (BitVec.ofInt IntKind.i32.bits (n : Int) &&& BitVec.ofInt IntKind.i32.bits 63).toNat = n % 64 := by
    rw [BitVec.toNat_and, ofInt_nat n (by omega), show (BitVec.ofInt IntKind.i32.bits 63).toNat = 2 ^ 6 - 1 from rfl, Nat.and_two_pow_sub_one_eq_mod]
  rw [e]
  rw [wrap32 (by omega) (by omega)]; omega
theorem u8_in (x : Int) (h0 : 0 ≤ x) (h1 : x < 256) : IntKind.u8.wrap x = x := IntWalk.u8_in x ⟨h0, by show x ≤ _; omega⟩
theorem or_u8_192 : ∀ n : Fin 64, IntKind.u8.wrap ↑(BitVec.ofInt IntKind.u8.bits 192 ||| BitVec.ofInt IntKind.u8.bits (n.val : Int)).toNat = 192 + (n.val : Int) := by decide +kernel
theorem or_u8_128 : ∀ n : Fin 64, IntKind.u8.wrap ↑(BitVec.ofInt IntKind.u8.bits 128 ||| BitVec.ofInt IntKind.u8.bits (n.val : Int)).toNat = 128 + (n.val : Int) := by decide +kernel
theorem or_u8_224 : ∀ n : Fin 16, IntKind.u8.wrap ↑(BitVec.ofInt IntKind.u8.bits 224 ||| BitVec.ofInt IntKind.u8.bits (n.val : Int)).toNat = 224 + (n.val : Int) := by decide +kernel
theorem or_u8_240 : ∀ n : Fin 8, IntKind.u8.wrap ↑(BitVec.ofInt IntKind.u8.bits 240 ||| BitVec.ofInt IntKind.u8.bits (n.val : Int)).toNat = 240 + (n.val : Int) := by decide +kernel
theorem ob192 (x : Int) (h0 : 0 ≤ x) (h1 : x < 64) : IntKind.u8.wrap ↑(BitVec.ofInt IntKind.u8.bits 192 ||| BitVec.ofInt IntKind.u8.bits (IntKind.u8.wrap x)).toNat = 192 + x := by
  rw [u8_in x h0 (by omega)]
  have := or_u8_192 ⟨x.toNat, by omega⟩
  simp only [Int.toNat_of_nonneg h0] at this; exact this
theorem ob128 (x : Int) (h0 : 0 ≤ x) (h1 : x < 64) : IntKind.u8.wrap ↑(BitVec.ofInt IntKind.u8.bits 128 ||| BitVec.ofInt IntKind.u8.bits (IntKind.u8.wrap x)).toNat = 128 + x := by
  rw [u8_in x h0 (by omega)]
  have := or_u8_128 ⟨x.toNat, by omega⟩
  simp only [Int.toNat_of_nonneg h0] at this; exact this
theorem ob224 (x : Int) (h0 : 0 ≤ x) (h1 : x < 16) : IntKind.u8.wrap ↑(BitVec.ofInt IntKind.u8.bits 224 ||| BitVec.ofInt IntKind.u8.bits (IntKind.u8.wrap x)).toNat = 224 + x := by
  rw [u8_in x h0 (by omega)]
  have := or_u8_224 ⟨x.toNat, by omega⟩
  simp only [Int.toNat_of_nonneg h0] at this; exact this
theorem ob240 (x : Int) (h0 : 0 ≤ x) (h1 : x < 8) : IntKind.u8.wrap ↑(BitVec.ofInt IntKind.u8.bits 240 ||| BitVec.ofInt IntKind.u8.bits (IntKind.u8.wrap x)).toNat = 240 + x := by
  rw [u8_in x h0 (by omega)]
  have := or_u8_240 ⟨x.toNat, by omega⟩
  simp only [Int.toNat_of_nonneg h0] at this; exact this
theorem fd6 (r : Int) : Int.fdiv r (2 ^ min (Int.toNat 6) IntKind.i32.bits) = r / 64 := by show Int.fdiv r 64 = _; rw [Int.fdiv_eq_ediv_of_nonneg _ (by decide)]
theorem fd12 (r : Int) : Int.fdiv r (2 ^ min (Int.toNat 12) IntKind.i32.bits) = r / 4096 := by show Int.fdiv r 4096 = _; rw [Int.fdiv_eq_ediv_of_nonneg _ (by decide)]
theorem fd18 (r : Int) : Int.fdiv r (2 ^ min (Int.toNat 18) IntKind.i32.bits) = r / 262144 := by show Int.fdiv r 262144 = _; rw [Int.fdiv_eq_ediv_of_nonneg _ (by decide)]
theorem encZ (r : Int) : Utf8.encode r = bl ((Lib.encodeRuneZ r).map fun x => x.toNat.toUInt8) := enc_eq r
theorem wr1 (r : Int) (h0 : 0 ≤ r) (h1 : r < 4096) : IntKind.u8.wrap ↑(BitVec.ofInt IntKind.u8.bits 192 ||| BitVec.ofInt IntKind.u8.bits (IntKind.u8.wrap (Int.fdiv r (2 ^ min (Int.toNat 6) IntKind.i32.bits)))).toNat = 192 + r / 64 := by
  rw [fd6]; exact ob192 _ (by omega) (by omega)
theorem wr2 (r : Int) (h0 : 0 ≤ r) (h1 : r < 1114112) : IntKind.u8.wrap ↑(BitVec.ofInt IntKind.u8.bits 128 ||| BitVec.ofInt IntKind.u8.bits (IntKind.u8.wrap (IntKind.i32.wrap ↑(BitVec.ofInt IntKind.i32.bits r &&& BitVec.ofInt IntKind.i32.bits 63).toNat))).toNat = 128 + r % 64 := by
  rw [and63_i32 r h0 (by omega)]; exact ob128 _ (by omega) (by omega)
theorem wr3 (r : Int) (h0 : 0 ≤ r) (h1 : r < 1114112) : IntKind.u8.wrap ↑(BitVec.ofInt IntKind.u8.bits 128 ||| BitVec.ofInt IntKind.u8.bits (IntKind.u8.wrap (IntKind.i32.wrap ↑(BitVec.ofInt IntKind.i32.bits (Int.fdiv r (2 ^ min (Int.toNat 6) IntKind.i32.bits)) &&& BitVec.ofInt IntKind.i32.bits 63).toNat))).toNat = 128 + r / 64 % 64 := by
  rw [fd6, and63_i32 _ (by omega) (by omega)]; exact ob128 _ (by omega) (by omega)
theorem wr4 (r : Int) (h0 : 0 ≤ r) (h1 : r < 65536) : IntKind.u8.wrap ↑(BitVec.ofInt IntKind.u8.bits 224 ||| BitVec.ofInt IntKind.u8.bits (IntKind.u8.wrap (Int.fdiv r (2 ^ min (Int.toNat 12) IntKind.i32.bits)))).toNat = 224 + r / 4096 := by
  rw [fd12]; exact ob224 _ (by omega) (by omega)
theorem wr5 (r : Int) (h0 : 0 ≤ r) (h1 : r < 1114112) : IntKind.u8.wrap ↑(BitVec.ofInt IntKind.u8.bits 128 ||| BitVec.ofInt IntKind.u8.bits (IntKind.u8.wrap (IntKind.i32.wrap ↑(BitVec.ofInt IntKind.i32.bits (Int.fdiv r (2 ^ min (Int.toNat 12) IntKind.i32.bits)) &&& BitVec.ofInt IntKind.i32.bits 63).toNat))).toNat = 128 + r / 4096 % 64 := by
  rw [fd12, and63_i32 _ (by omega) (by omega)]; exact ob128 _ (by omega) (by omega)
theorem wr6 (r : Int) (h0 : 0 ≤ r) (h1 : r < 1114112) : IntKind.u8.wrap ↑(BitVec.ofInt IntKind.u8.bits 240 ||| BitVec.ofInt IntKind.u8.bits (IntKind.u8.wrap (Int.fdiv r (2 ^ min (Int.toNat 18) IntKind.i32.bits)))).toNat = 240 + r / 262144 := by
  rw [fd18]; exact ob240 _ (by omega) (by omega)
theorem written62_fn (r : Int) : Fn Tryd.prog 107 [.int .i32 r] (bL (Utf8.encode r)) := by
  refine Fn.of Tryd.f107 _ Tryd.func107 rfl (by decide) (by show 1 ≤ _; decide) tbOk 71 rfl fun S w0 gl => ?_
  refine Run.go ?_; (conv => whnf); repeat' (first | ((with_reducible refine Know.mk fun _ => ?_); conv => whnf) | ((with_reducible refine Need.mk ?_ ?_); exact nd; conv => whnf) | ((with_reducible refine Both.mk ?_ ?_) <;> conv => whnf) | ((with_reducible refine Any.mk fun b hb => ?_); conv => whnf) | ((with_reducible first | refine AskB.dec (fun hb => ?_) (fun hb => ?_) | refine AskB.ndec (fun hb => ?_) (fun hb => ?_) | refine AskB.mk (fun hb => ?_) (fun hb => ?_)) <;> first | (exfalso; omega) | (conv => whnf)) | ((with_reducible first | refine Run.drawX rfl (by decide +kernel) ?_ | refine Run.drawT rfl (by decide +kernel) ?_ | refine Run.drawW rfl (by decide +kernel) ?_); conv => whnf))
  all_goals refine Run.leave (ts := [2]) (.inr ⟨_, rfl⟩) rfl Tryd.func107 rfl (bytes_out (Lib.encodeRuneZ r) (encZ r) ?_ ?_ ?_)
  all_goals first
    | (rw [Lib.encodeRuneZ_bad (by omega)])
    | (rw [Lib.encodeRuneZ_one (by omega) (by omega)])
    | (rw [Lib.encodeRuneZ_two (by omega) (by omega)])
    | (rw [Lib.encodeRuneZ_three (by omega)])
    | (rw [Lib.encodeRuneZ_four (by omega) (by omega)])
  all_goals first
    | rfl
    | (intro x hx
       simp only [List.mem_cons, List.not_mem_nil, or_false] at hx
       rcases hx with rfl | rfl | rfl | rfl <;> omega)
    | (intro x hx
       simp only [List.mem_cons, List.not_mem_nil, or_false] at hx
       rcases hx with rfl | rfl | rfl <;> omega)
    | (intro x hx
       simp only [List.mem_cons, List.not_mem_nil, or_false] at hx
       rcases hx with rfl | rfl <;> omega)
    | (intro x hx
       simp only [List.mem_cons, List.not_mem_nil, or_false] at hx
       subst hx; omega)
    | skip
  all_goals
    intro i hi
    match i, hi with
    | 0, hi => first | exact Le.int (u8_in r (by omega) (by omega)) | exact Le.int (wr1 r (by omega) (by omega)) | exact Le.int (wr4 r (by omega) (by omega)) | exact Le.int (wr6 r (by omega) (by omega)) | exact Le.int (wr4 65533 (by omega) (by omega))
    | 1, hi => first | exact absurd hi (by decide) | exact Le.int (wr2 r (by omega) (by omega)) | exact Le.int (wr3 r (by omega) (by omega)) | exact Le.int (wr5 r (by omega) (by omega)) | exact Le.int (wr3 65533 (by omega) (by omega))
    | 2, hi => first | exact absurd hi (by decide) | exact Le.int (wr2 r (by omega) (by omega)) | exact Le.int (wr3 r (by omega) (by omega)) | exact Le.int (wr2 65533 (by omega) (by omega))
    | 3, hi => first | exact absurd hi (by decide) | exact Le.int (wr2 r (by omega) (by omega))
    | i + 4, hi => exact absurd hi (by show ¬ i + 4 < _; omega)
end Go.Proofs.YtnadacaoehpdnaaDoor.V

namespace Go.Proofs.YtnadacaoehpdnaaDoor.V
set_option linter.unusedVariables false
set_option linter.unusedSimpArgs false
open Go Go.Proofs Go.RowKit
set_option maxRecDepth 100000
set_option maxHeartbeats 4000000
open Go Go.Proofs Go.Proofs.YtnadacaoehpdnaaDoor.V
def dropE (k : Int) (l : List Int) : List Int := l.filter (fun r => !decide (kOf r = k))
theorem dropE_no {k x : Int} {l : List Int} (h : kOf x = k) : dropE k (x :: l) = dropE k l := by unfold dropE; rw [List.filter_cons_of_neg (by simp [h])]
theorem dropE_yes {k x : Int} {l : List Int} (h : ¬ kOf x = k) : dropE k (x :: l) = x :: dropE k l := by unfold dropE; rw [List.filter_cons_of_pos (by simp [h])]
theorem drop42_fn (l : List Int) (k : Int) (hl : l.length ≤ 1000000) : FnF Tryd.prog 89 [tRn.L l, .int .i64 k] (.row 0) [tRn.R 21 (dropE k l)] := by
  refine FnF.of Tryd.f89 _ Tryd.func89 rfl (by decide) (by show 2 ≤ _; decide) tbOk 28 rfl fun S w0 gl => ?_
  refine Run.go ?_; (conv => whnf); repeat' (first | ((with_reducible refine Know.mk fun _ => ?_); conv => whnf) | ((with_reducible refine Need.mk ?_ ?_); exact nd; conv => whnf) | ((with_reducible first | refine Both.mk ?_ ?_ | refine Any.mk fun b hb => ?_ | refine AskB.dec (fun hb => ?_) (fun hb => ?_) | refine AskB.ndec (fun hb => ?_) (fun hb => ?_) | refine AskB.mk (fun hb => ?_) (fun hb => ?_)) <;> conv => whnf) | ((with_reducible first | refine Run.drawX rfl (by decide +kernel) ?_ | refine Run.drawT rfl (by decide +kernel) ?_ | refine Run.drawW rfl (by decide +kernel) ?_); conv => whnf))
  refine Run.holdNil 5 1000 21 1 (fun _ _ => .u) rfl ?_
  refine Run.loop [0, 1] (fun (a : Nat × List Int) => [(5, .row 1000), (6, .int .i64 (a.1 : Int))]) (fun a => [(1000, tRn.R 21 a.2)]) (fun a => a.1 ≤ l.length ∧ a.2.length ≤ a.1 ∧ a.2 ++ dropE k (l.drop a.1) = dropE k l) (fun a => l.length - a.1) (0, []) ⟨Nat.zero_le _, Nat.zero_le _, rfl⟩ ⟨Le.refl _, Le.refl _, trivial⟩ ⟨⟨rfl, rfl, rfl, fun i j hi => absurd hi (Nat.not_lt_zero _)⟩, trivial⟩ ?_
  intro ⟨j, m⟩ ⟨hj, hm, hc⟩ IH
  simp only at hj hm hc
  have hwj : IntKind.i64.wrap ((j : Int) + 1) = ((j + 1 : Nat) : Int) := wrap64 (by omega) (by omega)
  show Run _ _ (lst (_ ++ [(5, .row 1000), (6, .int .i64 (j : Int))])) (lstH [(1000, tRn.R 21 m)])
  refine Run.go ?_; (conv => whnf); repeat' (first | ((with_reducible refine Know.mk fun _ => ?_); conv => whnf) | ((with_reducible refine Need.mk ?_ ?_); exact nd; conv => whnf) | ((with_reducible first | refine Both.mk ?_ ?_ | refine Any.mk fun b hb => ?_ | refine AskB.dec (fun hb => ?_) (fun hb => ?_) | refine AskB.ndec (fun hb => ?_) (fun hb => ?_) | refine AskB.mk (fun hb => ?_) (fun hb => ?_)) <;> conv => whnf) | ((with_reducible first | refine Run.drawX rfl (by decide +kernel) ?_ | refine Run.drawT rfl (by decide +kernel) ?_ | refine Run.drawW rfl (by decide +kernel) ?_); conv => whnf))
  · have hjl : j < l.length := by omega
    rw [drop_at l j tRn.z hjl] at hc
    refine Run.callBX (of60_fn (l.getD j tRn.z)) rfl rfl ⟨Le.refl _, trivial⟩ rfl rfl rfl ?_
    (conv => whnf); repeat' (first | ((with_reducible refine Know.mk fun _ => ?_); conv => whnf) | ((with_reducible refine Need.mk ?_ ?_); exact nd; conv => whnf) | ((with_reducible first | refine Both.mk ?_ ?_ | refine Any.mk fun b hb => ?_ | refine AskB.dec (fun hb => ?_) (fun hb => ?_) | refine AskB.ndec (fun hb => ?_) (fun hb => ?_) | refine AskB.mk (fun hb => ?_) (fun hb => ?_)) <;> conv => whnf) | ((with_reducible first | refine Run.drawX rfl (by decide +kernel) ?_ | refine Run.drawT rfl (by decide +kernel) ?_ | refine Run.drawW rfl (by decide +kernel) ?_); conv => whnf))
    · have hk : kOf (l.getD j tRn.z) = k := hb
      refine Run.to _ _ ?_ ?_ (IH (j + 1, m) (by simp only []; omega) ⟨by simp only []; omega, by simp only []; omega, ?_⟩)
      · exact ⟨Le.refl _, Le.refl _, Le.refl _, Le.int hwj, trivial⟩
      · exact ⟨MOle.refl _, trivial⟩
      · rw [← hc, dropE_no hk]
    · have hk : ¬ kOf (l.getD j tRn.z) = k := hb
      refine Run.hold (z := 26) 5 1000 (by rfl) (by rfl) (by rfl) ?_
      refine Run.to _ _ ?_ ?_ (IH (j + 1, m ++ [l.getD j tRn.z]) (by simp only []; omega) ⟨by simp only []; omega, by simp only [List.length_append, List.length_singleton]; omega, ?_⟩)
      · exact ⟨Le.refl _, Le.refl _, Le.refl _, Le.int hwj, trivial⟩
      · exact ⟨tRn.push 21 m (l.getD j tRn.z) _ (one0 (Le.refl _)), trivial⟩
      · rw [← hc, dropE_yes hk]; simp
  · obtain rfl : j = l.length := by omega
    have e : m = dropE k l := by rw [← hc, List.drop_length]; simp [dropE]
    refine Run.leaveF (ts := [4]) [1000] (.inr ⟨_, rfl⟩) rfl Tryd.func89 rfl (by decide) ⟨?_, trivial⟩ rfl (Le.refl _)
    rw [← e]; exact MOle.refl _
def ligE (x : Int) : List Int := if isLig x = true then bytesI (ligB x) else [x]
def ligsE (l : List Int) : List Int := l.flatMap ligE
theorem ligB_ne : ∀ r, isLig r = true → ligB r ≠ .empty := by
  intro r h
  unfold isLig at h
  have h := of_decide_eq_true h
  unfold ligB
  repeat' split
  all_goals first | (exact fun e => absurd (congrArg ByteArray.size e) (by decide)) | skip
  · rename_i h9
    obtain ⟨k, hk⟩ : ∃ k : Fin 7, k.val = (r - 64256).toNat := ⟨⟨(r - 64256).toNat, by omega⟩, rfl⟩
    rw [← hk]
    clear hk h h9
    revert k; decide +kernel
  · omega
theorem bytesI_at (s : ByteArray) (j : Nat) (h : j < s.size) : (bytesI s).getD j 0 = bt s j := by
  unfold bytesI bt
  have h2 : j < s.data.toList.length := by simpa using h
  rw [List.getD, List.getD, List.getElem?_map, List.getElem?_eq_getElem h2]; rfl
theorem bytesI_len (s : ByteArray) : (bytesI s).length = s.size := by simp [bytesI]
theorem ligE_len (x : Int) : (ligE x).length ≤ 3 := by
  unfold ligE
  split
  · rw [bytesI_len]; exact ligB_size x
  · simp
theorem ligs43_fn (l : List Int) (hl : l.length ≤ 1000000) : FnF Tryd.prog 90 [tRn.L l] (.row 0) [tRn.R 21 (ligsE l)] := by
  refine FnF.of Tryd.f90 _ Tryd.func90 rfl (by decide) (by show 1 ≤ _; decide) tbOk 41 rfl fun S w0 gl => ?_
  refine Run.go ?_; (conv => whnf); repeat' (first | ((with_reducible refine Know.mk fun _ => ?_); conv => whnf) | ((with_reducible refine Need.mk ?_ ?_); exact nd; conv => whnf) | ((with_reducible first | refine Both.mk ?_ ?_ | refine Any.mk fun b hb => ?_ | refine AskB.dec (fun hb => ?_) (fun hb => ?_) | refine AskB.ndec (fun hb => ?_) (fun hb => ?_) | refine AskB.mk (fun hb => ?_) (fun hb => ?_)) <;> conv => whnf) | ((with_reducible first | refine Run.drawX rfl (by decide +kernel) ?_ | refine Run.drawT rfl (by decide +kernel) ?_ | refine Run.drawW rfl (by decide +kernel) ?_); conv => whnf))
  refine Run.holdNil 3 1000 21 1 (fun _ _ => .u) rfl ?_
  refine Run.loop [0] (fun (a : Nat × List Int) => [(3, .row 1000), (4, .int .i64 (a.1 : Int))]) (fun a => [(1000, tRn.R 21 a.2)]) (fun a => a.1 ≤ l.length ∧ a.2.length ≤ 3 * a.1 ∧ a.2 ++ ligsE (l.drop a.1) = ligsE l) (fun a => l.length - a.1) (0, []) ⟨Nat.zero_le _, Nat.zero_le _, rfl⟩ ⟨Le.refl _, Le.refl _, trivial⟩ ⟨⟨rfl, rfl, rfl, fun i j hi => absurd hi (Nat.not_lt_zero _)⟩, trivial⟩ ?_
  intro ⟨j, m⟩ ⟨hj, hm, hc⟩ IH
  simp only at hj hm hc
  have hwj : IntKind.i64.wrap ((j : Int) + 1) = ((j + 1 : Nat) : Int) := wrap64 (by omega) (by omega)
  show Run _ _ (lst (_ ++ [(3, .row 1000), (4, .int .i64 (j : Int))])) (lstH [(1000, tRn.R 21 m)])
  refine Run.go ?_; (conv => whnf); repeat' (first | ((with_reducible refine Know.mk fun _ => ?_); conv => whnf) | ((with_reducible refine Need.mk ?_ ?_); exact nd; conv => whnf) | ((with_reducible first | refine Both.mk ?_ ?_ | refine Any.mk fun b hb => ?_ | refine AskB.dec (fun hb => ?_) (fun hb => ?_) | refine AskB.ndec (fun hb => ?_) (fun hb => ?_) | refine AskB.mk (fun hb => ?_) (fun hb => ?_)) <;> conv => whnf) | ((with_reducible first | refine Run.drawX rfl (by decide +kernel) ?_ | refine Run.drawT rfl (by decide +kernel) ?_ | refine Run.drawW rfl (by decide +kernel) ?_); conv => whnf))
  · have hjl : j < l.length := by omega
    have hc' : m ++ (ligE (l.getD j tRn.z) ++ ligsE (l.drop (j + 1))) = ligsE l := by
      rw [← hc, drop_at l j tRn.z hjl]; rfl
    have hll := ligE_len (l.getD j tRn.z)
    have hsz := ligB_size (l.getD j tRn.z)
    refine Run.callBX (lig61_fn (l.getD j tRn.z)) rfl rfl ⟨Le.refl _, trivial⟩ rfl rfl rfl ?_
    generalize hx : l.getD j tRn.z = x at hc' hll hsz ⊢
    by_cases hL : isLig x = true
    · have hne := ligB_ne x hL
      have hE : ligE x = bytesI (ligB x) := by unfold ligE; rw [if_pos hL]
      rw [hE] at hc' hll
      rw [if_pos hL]
      generalize ligB x = s at hne hc' hll hsz ⊢
      rw [bytesI_len] at hll
      (conv => whnf); repeat' (first | ((with_reducible refine Know.mk fun _ => ?_); conv => whnf) | ((with_reducible refine Need.mk ?_ ?_); exact nd; conv => whnf) | ((with_reducible first | refine Both.mk ?_ ?_ | refine Any.mk fun b hb => ?_ | refine AskB.dec (fun hb => ?_) (fun hb => ?_) | refine AskB.ndec (fun hb => ?_) (fun hb => ?_) | refine AskB.mk (fun hb => ?_) (fun hb => ?_)) <;> conv => whnf) | ((with_reducible first | refine Run.drawX rfl (by decide +kernel) ?_ | refine Run.drawT rfl (by decide +kernel) ?_ | refine Run.drawW rfl (by decide +kernel) ?_); conv => whnf))
      · exact absurd hb hne
      · refine Run.loop [0, 4, 5] (fun (i : Nat) => [(3, .row 1000), (6, .int .i64 (i : Int))]) (fun i => [(1000, tRn.R 21 (m ++ (bytesI s).take i))]) (fun i => i ≤ s.size) (fun i => s.size - i) 0 (Nat.zero_le _) ⟨Le.refl _, Le.refl _, trivial⟩ ⟨?_, trivial⟩ ?_
        · rw [List.take_zero, List.append_nil]; exact MOle.refl _
        intro i hi IHi
        have hwi : IntKind.i64.wrap ((i : Int) + 1) = ((i + 1 : Nat) : Int) := wrap64 (by omega) (by omega)
        have hbl := bt_lt s i
        have hbi := bytesI_len s
        have hml : (m ++ (bytesI s).take i).length ≤ 9000000 := by rw [List.length_append, List.length_take]; omega
        refine Run.go ?_; (conv => whnf); repeat' (first | ((with_reducible refine Know.mk fun _ => ?_); conv => whnf) | ((with_reducible refine Need.mk ?_ ?_); exact nd; conv => whnf) | ((with_reducible first | refine Both.mk ?_ ?_ | refine Any.mk fun b hb => ?_ | refine AskB.dec (fun hb => ?_) (fun hb => ?_) | refine AskB.ndec (fun hb => ?_) (fun hb => ?_) | refine AskB.mk (fun hb => ?_) (fun hb => ?_)) <;> conv => whnf) | ((with_reducible first | refine Run.drawX rfl (by decide +kernel) ?_ | refine Run.drawT rfl (by decide +kernel) ?_ | refine Run.drawW rfl (by decide +kernel) ?_); conv => whnf))
        · have his : i < s.size := by omega
          refine Run.hold (z := 39) 3 1000 (by rfl) (by rfl) (by rfl) ?_
          refine Run.to _ _ ?_ ?_ (IHi (i + 1) (by omega) (by omega))
          · exact ⟨Le.refl _, Le.refl _, Le.refl _, Le.refl _, Le.int hwi, trivial⟩
          · refine ⟨?_, trivial⟩
            have e : m ++ (bytesI s).take (i + 1) = (m ++ (bytesI s).take i) ++ [bt s i] := by
              rw [List.take_succ_eq_append_getElem (by omega), ← bytesI_at s i his, List.getD, List.getElem?_eq_getElem (by omega)]; simp
            rw [e]
            exact tRn.push 21 _ (bt s i) _ (one0 (Le.int (wrap32 (show -2147483648 ≤ bt s i by omega) (show bt s i ≤ 2147483647 by omega))))
        · obtain rfl : i = s.size := by omega
          have ht : (bytesI s).take s.size = bytesI s := List.take_of_length_le (by omega)
          rw [ht]
          refine Run.to _ _ ?_ ?_ (IH (j + 1, m ++ bytesI s) (by simp only []; omega) ⟨by simp only []; omega, by simp only [List.length_append]; omega, ?_⟩)
          · exact ⟨Le.refl _, Le.refl _, Le.int hwj, trivial⟩
          · exact ⟨MOle.refl _, trivial⟩
          · rw [← hc']; simp
    · have hE : ligE x = [x] := by unfold ligE; rw [if_neg hL]
      rw [hE] at hc'
      rw [if_neg hL]
      (conv => whnf); repeat' (first | ((with_reducible refine Know.mk fun _ => ?_); conv => whnf) | ((with_reducible refine Need.mk ?_ ?_); exact nd; conv => whnf) | ((with_reducible first | refine Both.mk ?_ ?_ | refine Any.mk fun b hb => ?_ | refine AskB.dec (fun hb => ?_) (fun hb => ?_) | refine AskB.ndec (fun hb => ?_) (fun hb => ?_) | refine AskB.mk (fun hb => ?_) (fun hb => ?_)) <;> conv => whnf) | ((with_reducible first | refine Run.drawX rfl (by decide +kernel) ?_ | refine Run.drawT rfl (by decide +kernel) ?_ | refine Run.drawW rfl (by decide +kernel) ?_); conv => whnf))
      case _ =>
        refine Run.hold (z := 26) 3 1000 (by rfl) (by rfl) (by rfl) ?_
        refine Run.go ?_; (conv => whnf); repeat' (first | ((with_reducible refine Know.mk fun _ => ?_); conv => whnf) | ((with_reducible refine Need.mk ?_ ?_); exact nd; conv => whnf) | ((with_reducible first | refine Both.mk ?_ ?_ | refine Any.mk fun b hb => ?_ | refine AskB.dec (fun hb => ?_) (fun hb => ?_) | refine AskB.ndec (fun hb => ?_) (fun hb => ?_) | refine AskB.mk (fun hb => ?_) (fun hb => ?_)) <;> conv => whnf) | ((with_reducible first | refine Run.drawX rfl (by decide +kernel) ?_ | refine Run.drawT rfl (by decide +kernel) ?_ | refine Run.drawW rfl (by decide +kernel) ?_); conv => whnf))
        · exact absurd hb (by decide)
        · refine Run.to _ _ ?_ ?_ (IH (j + 1, m ++ [x]) (by simp only []; omega) ⟨by simp only []; omega, by simp only [List.length_append, List.length_singleton]; omega, ?_⟩)
          · exact ⟨Le.refl _, Le.refl _, Le.int hwj, trivial⟩
          · refine ⟨?_, trivial⟩
            rw [← hx]
            exact tRn.push 21 m (l.getD j tRn.z) _ (one0 (Le.refl _))
          · rw [← hc']; simp
      all_goals exact absurd rfl hb
  · obtain rfl : j = l.length := by omega
    have e : m = ligsE l := by rw [← hc, List.drop_length]; simp [ligsE]
    refine Run.leaveF (ts := [2]) [1000] (.inr ⟨_, rfl⟩) rfl Tryd.func90 rfl (by decide) ⟨?_, trivial⟩ rfl (Le.refl _)
    rw [← e]; exact MOle.refl _
end Go.Proofs.YtnadacaoehpdnaaDoor.V

namespace Go.Proofs.YtnadacaoehpdnaaDoor.V
set_option linter.unusedVariables false
set_option linter.unusedSimpArgs false
open Go Go.Proofs Go.RowKit
set_option maxRecDepth 100000
set_option maxHeartbeats 4000000
open Go Go.Proofs Go.Proofs.YtnadacaoehpdnaaDoor.V
def backE (l : List Int) : ByteArray := bl (encs l)
theorem backE_size : ∀ l : List Int, (backE l).size ≤ 4 * l.length
  | [] => by decide
  | x :: l => by
    have h := backE_size l
    have h2 := encode_small x
    have e : backE (x :: l) = Utf8.encode x ++ backE l := by unfold backE; rw [encs_cons, bl_app, enc_eq]
    rw [e, ByteArray.size_append, List.length_cons]; omega
theorem backE_take (l : List Int) (j : Nat) (h : j < l.length) : backE (l.take (j + 1)) = backE (l.take j) ++ Utf8.encode (l.getD j tRn.z) := by
  unfold backE
  rw [List.take_succ_eq_append_getElem h, encs_app, bl_app, List.getD, List.getElem?_eq_getElem h, enc_eq]
  simp [encs]
theorem back47_fn (l : List Int) (hl : l.length ≤ 10000000) : Fn Tryd.prog 94 [tRn.L l] (.str (backE l)) := by
  refine Fn.of Tryd.f94 _ Tryd.func94 rfl (by decide) (by show 1 ≤ _; decide) tbOk 20 rfl fun S w0 gl => ?_
  refine Run.go ?_; (conv => whnf); repeat' (first | ((with_reducible refine Know.mk fun _ => ?_); conv => whnf) | ((with_reducible refine Need.mk ?_ ?_); exact nd; conv => whnf) | ((with_reducible first | refine Both.mk ?_ ?_ | refine Any.mk fun b hb => ?_ | refine AskB.dec (fun hb => ?_) (fun hb => ?_) | refine AskB.ndec (fun hb => ?_) (fun hb => ?_) | refine AskB.mk (fun hb => ?_) (fun hb => ?_)) <;> conv => whnf) | ((with_reducible first | refine Run.drawX rfl (by decide +kernel) ?_ | refine Run.drawT rfl (by decide +kernel) ?_ | refine Run.drawW rfl (by decide +kernel) ?_); conv => whnf))
  refine Run.holdNil 3 1000 5 1 (bytesG .empty) rfl ?_
  refine Run.loop [0] (fun (j : Nat) => [(3, .row 1000), (4, .int .i64 (j : Int))]) (fun j => [(1000, .row 5 1 (backE (l.take j)).size (bytesG (backE (l.take j))))]) (fun j => j ≤ l.length) (fun j => l.length - j) 0 (Nat.zero_le _) ⟨Le.refl _, Le.refl _, trivial⟩ ⟨MOle.refl _, trivial⟩ ?_
  intro j hj IH
  have hwj : IntKind.i64.wrap ((j : Int) + 1) = ((j + 1 : Nat) : Int) := wrap64 (by omega) (by omega)
  have hT : (backE (l.take j)).size ≤ 40000000 := by
    have h1 := backE_size (l.take j)
    rw [List.length_take] at h1; omega
  refine Run.go ?_; (conv => whnf); repeat' (first | ((with_reducible refine Know.mk fun _ => ?_); conv => whnf) | ((with_reducible refine Need.mk ?_ ?_); exact nd; conv => whnf) | ((with_reducible first | refine Both.mk ?_ ?_ | refine Any.mk fun b hb => ?_ | refine AskB.dec (fun hb => ?_) (fun hb => ?_) | refine AskB.ndec (fun hb => ?_) (fun hb => ?_) | refine AskB.mk (fun hb => ?_) (fun hb => ?_)) <;> conv => whnf) | ((with_reducible first | refine Run.drawX rfl (by decide +kernel) ?_ | refine Run.drawT rfl (by decide +kernel) ?_ | refine Run.drawW rfl (by decide +kernel) ?_); conv => whnf))
  · have hjl : j < l.length := by omega
    have he := encode_small (l.getD j tRn.z)
    refine Run.callBX (written62_fn (l.getD j tRn.z)) rfl rfl ⟨Le.refl _, trivial⟩ rfl rfl rfl ?_
    (conv => whnf); repeat' (first | ((with_reducible refine Know.mk fun _ => ?_); conv => whnf) | ((with_reducible refine Need.mk ?_ ?_); exact nd; conv => whnf) | ((with_reducible first | refine Both.mk ?_ ?_ | refine Any.mk fun b hb => ?_ | refine AskB.dec (fun hb => ?_) (fun hb => ?_) | refine AskB.ndec (fun hb => ?_) (fun hb => ?_) | refine AskB.mk (fun hb => ?_) (fun hb => ?_)) <;> conv => whnf) | ((with_reducible first | refine Run.drawX rfl (by decide +kernel) ?_ | refine Run.drawT rfl (by decide +kernel) ?_ | refine Run.drawW rfl (by decide +kernel) ?_); conv => whnf))
    refine Run.hold (z := 17) 3 1000 (by rfl) (by rfl) (by rfl) ?_
    refine Run.to _ _ ?_ ?_ (IH (j + 1) (by omega) (by omega))
    · exact ⟨Le.refl _, Le.refl _, Le.int hwj, trivial⟩
    · refine ⟨?_, trivial⟩
      rw [backE_take l j hjl]
      exact bytesG_join 5 (backE (l.take j)) (Utf8.encode (l.getD j tRn.z))
  · obtain rfl : j = l.length := by omega
    rw [List.take_length]
    refine Run.rowStr (x := .tmp 18) (src := 93) (dst := 9) (e := 5) (q := 1000) (backE l) rfl rfl rfl rfl rfl rfl rfl (fun _ _ => rfl) (by kernel_rfl) (by kernel_rfl) (by kernel_rfl) ?_
    refine Run.go ?_; (conv => whnf); repeat' (first | ((with_reducible refine Know.mk fun _ => ?_); conv => whnf) | ((with_reducible refine Need.mk ?_ ?_); exact nd; conv => whnf) | ((with_reducible first | refine Both.mk ?_ ?_ | refine Any.mk fun b hb => ?_ | refine AskB.dec (fun hb => ?_) (fun hb => ?_) | refine AskB.ndec (fun hb => ?_) (fun hb => ?_) | refine AskB.mk (fun hb => ?_) (fun hb => ?_)) <;> conv => whnf) | ((with_reducible first | refine Run.drawX rfl (by decide +kernel) ?_ | refine Run.drawT rfl (by decide +kernel) ?_ | refine Run.drawW rfl (by decide +kernel) ?_); conv => whnf))
    exact Run.leave (ts := [2]) (.inr ⟨_, rfl⟩) rfl Tryd.func94 rfl (Le.refl _)
/-- What the document makes of a rune: step by step. -/
def refL (r o : Int) : List Int :=
  let l0 := [r]
  let l1 := if o / 16 % 2 = 1 then dropE 4 l0 else l0
  let l2 := if o / 2 % 2 = 1 then dropE 2 l1 else l1
  if o / 4 % 2 = 1 then ligsE l2 else l2
theorem dropE_len (k : Int) (l : List Int) : (dropE k l).length ≤ l.length := List.length_filter_le _ _
theorem ligsE_len : ∀ l : List Int, (ligsE l).length ≤ 3 * l.length
  | [] => by simp [ligsE]
  | x :: l => by
    have h := ligsE_len l
    have h2 := ligE_len x
    have e : ligsE (x :: l) = ligE x ++ ligsE l := rfl
    rw [e, List.length_append, List.length_cons]; omega
theorem refQ : ∀ o : Fin 32, Int.tmod (IntKind.i64.wrap (Int.tdiv (o.val : Int) 16)) 2 = (o.val : Int) / 16 % 2 ∧ Int.tmod (IntKind.i64.wrap (Int.tdiv (o.val : Int) 2)) 2 = (o.val : Int) / 2 % 2 ∧ Int.tmod (IntKind.i64.wrap (Int.tdiv (o.val : Int) 4)) 2 = (o.val : Int) / 4 % 2 ∧
    Int.tmod (IntKind.i64.wrap (Int.tdiv (o.val : Int) 8)) 2 = (o.val : Int) / 8 % 2 ∧ Int.tmod (o.val : Int) 2 = (o.val : Int) % 2 := by decide +kernel
/-- A step, or none. -/
def ifV (c : Prop) [Decidable c] (f : Int → Int) (x : Int) : Int := if c then f x else x
theorem getD_setL {α : Type} (l : List α) (i : Nat) (x z : α) (h : i < l.length) : (l.set i x).getD i z = x := by
  rw [List.getD, List.getElem?_set_self h]; rfl
theorem stepV_if (o x : Int) : stepV o x = ifV (o / 8 % 2 = 1) letterV (ifV (o / 2 % 2 = 1) bareV (ifV (o % 2 = 1) lowV x)) := by
  rw [stepV_eq]
  unfold stepB ifV
  by_cases h1 : o % 2 = 1 <;> by_cases h2 : o / 2 % 2 = 1 <;> by_cases h3 : o / 8 % 2 = 1 <;> simp [h1, h2, h3]
theorem rune28_fn (r o : Int) : Fn Tryd.prog 70 [.int .i32 r, .int .i64 o] (tupL [.str (if badO o then .empty else backE ((refL r o).map (stepV o))), .int .i64 (if badO o then 2 else 0)]) := by
  refine Fn.of Tryd.f70 _ Tryd.func70 rfl (by decide) (by show 2 ≤ _; decide) tbOk 77 rfl fun S w0 gl => ?_
  by_cases hbad : badO o
  · rw [if_pos hbad, if_pos hbad]
    have hbo : o < 0 ∨ 31 < o := hbad
    refine Run.go ?_; (conv => whnf); repeat' (first | ((with_reducible refine Know.mk fun _ => ?_); conv => whnf) | ((with_reducible refine Need.mk ?_ ?_); exact nd; conv => whnf) | ((with_reducible refine Both.mk ?_ ?_) <;> conv => whnf) | ((with_reducible refine Any.mk fun b hb => ?_); conv => whnf) | ((with_reducible first | refine AskB.dec (fun hb => ?_) (fun hb => ?_) | refine AskB.ndec (fun hb => ?_) (fun hb => ?_) | refine AskB.mk (fun hb => ?_) (fun hb => ?_)) <;> first | (exfalso; omega) | (conv => whnf)) | ((with_reducible first | refine Run.drawX rfl (by decide +kernel) ?_ | refine Run.drawT rfl (by decide +kernel) ?_ | refine Run.drawW rfl (by decide +kernel) ?_); conv => whnf))
    all_goals first
      | exact Run.leave (ts := [4,5]) (.inr ⟨_, rfl⟩) rfl Tryd.func70 rfl (resT ⟨Le.refl _, Le.refl _, trivial⟩)
      | (exfalso; omega)
  rw [if_neg hbad, if_neg hbad]
  have hbo : ¬ (o < 0 ∨ 31 < o) := hbad
  obtain ⟨kk, rfl⟩ : ∃ k : Fin 32, (k.val : Int) = o := ⟨⟨o.toNat, by omega⟩, by simp only []; omega⟩
  obtain ⟨q16, q2, q4, q8, q1⟩ := refQ kk
  have hrl : ∀ l1 l2 l3, l1 = (if (kk.val : Int) / 16 % 2 = 1 then dropE 4 [r] else [r]) → l2 = (if (kk.val : Int) / 2 % 2 = 1 then dropE 2 l1 else l1) → l3 = (if (kk.val : Int) / 4 % 2 = 1 then ligsE l2 else l2) → refL r kk.val = l3 := fun l1 l2 l3 h1 h2 h3 => by rw [h3, h2, h1]; rfl
  have hd1 := dropE_len 4 [r]
  have hd2 := dropE_len 2 [r]
  have hd3 := dropE_len 2 (dropE 4 [r])
  have e1 : ([r] : List Int).length = 1 := rfl
  have hn : (refL r kk.val).length ≤ 3 := by
    unfold refL
    simp only []
    split
    · refine Nat.le_trans (ligsE_len _) ?_
      repeat' split
      all_goals omega
    · repeat' split
      all_goals omega
  apply Run.cutAt (A := fun CC kk' => ∀ l, refL r kk.val = l → Run CC kk' (lst [(1, .int .i64 kk.val), (6, .row 1000), (7, .int .i64 0)]) (lstH [(1000, tRn.R 21 l)]))
  · intro HA
    have one1 : ∀ (g : Nat → Nat → AV), g 0 0 = .int .i32 r → Le (.sl 1 1 g) (tRn.L [r]) := fun g h => Le.sl (fun i j hi hj => by
      obtain rfl : i = 0 := by omega
      obtain rfl : j = 0 := by omega
      rw [h]; exact Le.refl _)
    by_cases b16 : (kk.val : Int) / 16 % 2 = 1 <;> by_cases b2 : (kk.val : Int) / 2 % 2 = 1 <;> by_cases b4 : (kk.val : Int) / 4 % 2 = 1
    all_goals
      refine Run.go ?_; (conv => whnf); repeat' (first | ((with_reducible refine Know.mk fun _ => ?_); conv => whnf) | ((with_reducible refine Need.mk ?_ ?_); exact nd; conv => whnf) | ((with_reducible refine Both.mk ?_ ?_) <;> conv => whnf) | ((with_reducible refine Any.mk fun b hb => ?_); conv => whnf) | ((with_reducible first | refine AskB.dec (fun hb => ?_) (fun hb => ?_) | refine AskB.ndec (fun hb => ?_) (fun hb => ?_) | refine AskB.mk (fun hb => ?_) (fun hb => ?_)) <;> first | (exfalso; omega) | (conv => whnf)) | ((with_reducible first | refine Run.drawX rfl (by decide +kernel) ?_ | refine Run.drawT rfl (by decide +kernel) ?_ | refine Run.drawW rfl (by decide +kernel) ?_); conv => whnf))
      all_goals try (exfalso; omega)
    · refine Run.callFA 1000 (drop42_fn [r] 4 (by omega)) rfl rfl ⟨one1 _ rfl, Le.refl _, trivial⟩ rfl rfl rfl (flat_cons (Ty.R_flat (fun _ _ _ => rfl)) flat_nil) ?_
      (conv => whnf); repeat' (first | ((with_reducible refine Know.mk fun _ => ?_); conv => whnf) | ((with_reducible refine Need.mk ?_ ?_); exact nd; conv => whnf) | ((with_reducible refine Both.mk ?_ ?_) <;> conv => whnf) | ((with_reducible refine Any.mk fun b hb => ?_); conv => whnf) | ((with_reducible first | refine AskB.dec (fun hb => ?_) (fun hb => ?_) | refine AskB.ndec (fun hb => ?_) (fun hb => ?_) | refine AskB.mk (fun hb => ?_) (fun hb => ?_)) <;> first | (exfalso; omega) | (conv => whnf)) | ((with_reducible first | refine Run.drawX rfl (by decide +kernel) ?_ | refine Run.drawT rfl (by decide +kernel) ?_ | refine Run.drawW rfl (by decide +kernel) ?_); conv => whnf))
      all_goals try (exfalso; omega)
      refine Run.callFA 1000 (drop42_fn _ 2 (by omega)) rfl rfl ⟨Le.refl _, Le.refl _, trivial⟩ rfl rfl rfl (flat_cons (Ty.R_flat (fun _ _ _ => rfl)) flat_nil) ?_
      (conv => whnf); repeat' (first | ((with_reducible refine Know.mk fun _ => ?_); conv => whnf) | ((with_reducible refine Need.mk ?_ ?_); exact nd; conv => whnf) | ((with_reducible refine Both.mk ?_ ?_) <;> conv => whnf) | ((with_reducible refine Any.mk fun b hb => ?_); conv => whnf) | ((with_reducible first | refine AskB.dec (fun hb => ?_) (fun hb => ?_) | refine AskB.ndec (fun hb => ?_) (fun hb => ?_) | refine AskB.mk (fun hb => ?_) (fun hb => ?_)) <;> first | (exfalso; omega) | (conv => whnf)) | ((with_reducible first | refine Run.drawX rfl (by decide +kernel) ?_ | refine Run.drawT rfl (by decide +kernel) ?_ | refine Run.drawW rfl (by decide +kernel) ?_); conv => whnf))
      all_goals try (exfalso; omega)
      refine Run.callFA 1000 (ligs43_fn _ (by omega)) rfl rfl ⟨Le.refl _, trivial⟩ rfl rfl rfl (flat_cons (Ty.R_flat (fun _ _ _ => rfl)) flat_nil) ?_
      (conv => whnf); repeat' (first | ((with_reducible refine Know.mk fun _ => ?_); conv => whnf) | ((with_reducible refine Need.mk ?_ ?_); exact nd; conv => whnf) | ((with_reducible refine Both.mk ?_ ?_) <;> conv => whnf) | ((with_reducible refine Any.mk fun b hb => ?_); conv => whnf) | ((with_reducible first | refine AskB.dec (fun hb => ?_) (fun hb => ?_) | refine AskB.ndec (fun hb => ?_) (fun hb => ?_) | refine AskB.mk (fun hb => ?_) (fun hb => ?_)) <;> first | (exfalso; omega) | (conv => whnf)) | ((with_reducible first | refine Run.drawX rfl (by decide +kernel) ?_ | refine Run.drawT rfl (by decide +kernel) ?_ | refine Run.drawW rfl (by decide +kernel) ?_); conv => whnf))
      all_goals try (exfalso; omega)
      refine Run.to _ _ ?_ ?_ (HA _ (hrl _ _ _ (if_pos b16).symm (if_pos b2).symm (if_pos b4).symm))
      · exact ⟨Le.refl _, Le.refl _, Le.refl _, trivial⟩
      · exact ⟨MOle.refl _, trivial⟩
    · refine Run.callFA 1000 (drop42_fn [r] 4 (by omega)) rfl rfl ⟨one1 _ rfl, Le.refl _, trivial⟩ rfl rfl rfl (flat_cons (Ty.R_flat (fun _ _ _ => rfl)) flat_nil) ?_
      (conv => whnf); repeat' (first | ((with_reducible refine Know.mk fun _ => ?_); conv => whnf) | ((with_reducible refine Need.mk ?_ ?_); exact nd; conv => whnf) | ((with_reducible refine Both.mk ?_ ?_) <;> conv => whnf) | ((with_reducible refine Any.mk fun b hb => ?_); conv => whnf) | ((with_reducible first | refine AskB.dec (fun hb => ?_) (fun hb => ?_) | refine AskB.ndec (fun hb => ?_) (fun hb => ?_) | refine AskB.mk (fun hb => ?_) (fun hb => ?_)) <;> first | (exfalso; omega) | (conv => whnf)) | ((with_reducible first | refine Run.drawX rfl (by decide +kernel) ?_ | refine Run.drawT rfl (by decide +kernel) ?_ | refine Run.drawW rfl (by decide +kernel) ?_); conv => whnf))
      all_goals try (exfalso; omega)
      refine Run.callFA 1000 (drop42_fn _ 2 (by omega)) rfl rfl ⟨Le.refl _, Le.refl _, trivial⟩ rfl rfl rfl (flat_cons (Ty.R_flat (fun _ _ _ => rfl)) flat_nil) ?_
      (conv => whnf); repeat' (first | ((with_reducible refine Know.mk fun _ => ?_); conv => whnf) | ((with_reducible refine Need.mk ?_ ?_); exact nd; conv => whnf) | ((with_reducible refine Both.mk ?_ ?_) <;> conv => whnf) | ((with_reducible refine Any.mk fun b hb => ?_); conv => whnf) | ((with_reducible first | refine AskB.dec (fun hb => ?_) (fun hb => ?_) | refine AskB.ndec (fun hb => ?_) (fun hb => ?_) | refine AskB.mk (fun hb => ?_) (fun hb => ?_)) <;> first | (exfalso; omega) | (conv => whnf)) | ((with_reducible first | refine Run.drawX rfl (by decide +kernel) ?_ | refine Run.drawT rfl (by decide +kernel) ?_ | refine Run.drawW rfl (by decide +kernel) ?_); conv => whnf))
      all_goals try (exfalso; omega)
      refine Run.to _ _ ?_ ?_ (HA _ (hrl _ _ _ (if_pos b16).symm (if_pos b2).symm (if_neg b4).symm))
      · exact ⟨Le.refl _, Le.refl _, Le.refl _, trivial⟩
      · exact ⟨MOle.refl _, trivial⟩
    · refine Run.callFA 1000 (drop42_fn [r] 4 (by omega)) rfl rfl ⟨one1 _ rfl, Le.refl _, trivial⟩ rfl rfl rfl (flat_cons (Ty.R_flat (fun _ _ _ => rfl)) flat_nil) ?_
      (conv => whnf); repeat' (first | ((with_reducible refine Know.mk fun _ => ?_); conv => whnf) | ((with_reducible refine Need.mk ?_ ?_); exact nd; conv => whnf) | ((with_reducible refine Both.mk ?_ ?_) <;> conv => whnf) | ((with_reducible refine Any.mk fun b hb => ?_); conv => whnf) | ((with_reducible first | refine AskB.dec (fun hb => ?_) (fun hb => ?_) | refine AskB.ndec (fun hb => ?_) (fun hb => ?_) | refine AskB.mk (fun hb => ?_) (fun hb => ?_)) <;> first | (exfalso; omega) | (conv => whnf)) | ((with_reducible first | refine Run.drawX rfl (by decide +kernel) ?_ | refine Run.drawT rfl (by decide +kernel) ?_ | refine Run.drawW rfl (by decide +kernel) ?_); conv => whnf))
      all_goals try (exfalso; omega)
      refine Run.callFA 1000 (ligs43_fn _ (by omega)) rfl rfl ⟨Le.refl _, trivial⟩ rfl rfl rfl (flat_cons (Ty.R_flat (fun _ _ _ => rfl)) flat_nil) ?_
      (conv => whnf); repeat' (first | ((with_reducible refine Know.mk fun _ => ?_); conv => whnf) | ((with_reducible refine Need.mk ?_ ?_); exact nd; conv => whnf) | ((with_reducible refine Both.mk ?_ ?_) <;> conv => whnf) | ((with_reducible refine Any.mk fun b hb => ?_); conv => whnf) | ((with_reducible first | refine AskB.dec (fun hb => ?_) (fun hb => ?_) | refine AskB.ndec (fun hb => ?_) (fun hb => ?_) | refine AskB.mk (fun hb => ?_) (fun hb => ?_)) <;> first | (exfalso; omega) | (conv => whnf)) | ((with_reducible first | refine Run.drawX rfl (by decide +kernel) ?_ | refine Run.drawT rfl (by decide +kernel) ?_ | refine Run.drawW rfl (by decide +kernel) ?_); conv => whnf))
      all_goals try (exfalso; omega)
      refine Run.to _ _ ?_ ?_ (HA _ (hrl _ _ _ (if_pos b16).symm (if_neg b2).symm (if_pos b4).symm))
      · exact ⟨Le.refl _, Le.refl _, Le.refl _, trivial⟩
      · exact ⟨MOle.refl _, trivial⟩
    · refine Run.callFA 1000 (drop42_fn [r] 4 (by omega)) rfl rfl ⟨one1 _ rfl, Le.refl _, trivial⟩ rfl rfl rfl (flat_cons (Ty.R_flat (fun _ _ _ => rfl)) flat_nil) ?_
      (conv => whnf); repeat' (first | ((with_reducible refine Know.mk fun _ => ?_); conv => whnf) | ((with_reducible refine Need.mk ?_ ?_); exact nd; conv => whnf) | ((with_reducible refine Both.mk ?_ ?_) <;> conv => whnf) | ((with_reducible refine Any.mk fun b hb => ?_); conv => whnf) | ((with_reducible first | refine AskB.dec (fun hb => ?_) (fun hb => ?_) | refine AskB.ndec (fun hb => ?_) (fun hb => ?_) | refine AskB.mk (fun hb => ?_) (fun hb => ?_)) <;> first | (exfalso; omega) | (conv => whnf)) | ((with_reducible first | refine Run.drawX rfl (by decide +kernel) ?_ | refine Run.drawT rfl (by decide +kernel) ?_ | refine Run.drawW rfl (by decide +kernel) ?_); conv => whnf))
      all_goals try (exfalso; omega)
      refine Run.to _ _ ?_ ?_ (HA _ (hrl _ _ _ (if_pos b16).symm (if_neg b2).symm (if_neg b4).symm))
      · exact ⟨Le.refl _, Le.refl _, Le.refl _, trivial⟩
      · exact ⟨MOle.refl _, trivial⟩
    · refine Run.callFA 1000 (drop42_fn [r] 2 (by omega)) rfl rfl ⟨one1 _ rfl, Le.refl _, trivial⟩ rfl rfl rfl (flat_cons (Ty.R_flat (fun _ _ _ => rfl)) flat_nil) ?_
      (conv => whnf); repeat' (first | ((with_reducible refine Know.mk fun _ => ?_); conv => whnf) | ((with_reducible refine Need.mk ?_ ?_); exact nd; conv => whnf) | ((with_reducible refine Both.mk ?_ ?_) <;> conv => whnf) | ((with_reducible refine Any.mk fun b hb => ?_); conv => whnf) | ((with_reducible first | refine AskB.dec (fun hb => ?_) (fun hb => ?_) | refine AskB.ndec (fun hb => ?_) (fun hb => ?_) | refine AskB.mk (fun hb => ?_) (fun hb => ?_)) <;> first | (exfalso; omega) | (conv => whnf)) | ((with_reducible first | refine Run.drawX rfl (by decide +kernel) ?_ | refine Run.drawT rfl (by decide +kernel) ?_ | refine Run.drawW rfl (by decide +kernel) ?_); conv => whnf))
      all_goals try (exfalso; omega)
      refine Run.callFA 1000 (ligs43_fn _ (by omega)) rfl rfl ⟨Le.refl _, trivial⟩ rfl rfl rfl (flat_cons (Ty.R_flat (fun _ _ _ => rfl)) flat_nil) ?_
      (conv => whnf); repeat' (first | ((with_reducible refine Know.mk fun _ => ?_); conv => whnf) | ((with_reducible refine Need.mk ?_ ?_); exact nd; conv => whnf) | ((with_reducible refine Both.mk ?_ ?_) <;> conv => whnf) | ((with_reducible refine Any.mk fun b hb => ?_); conv => whnf) | ((with_reducible first | refine AskB.dec (fun hb => ?_) (fun hb => ?_) | refine AskB.ndec (fun hb => ?_) (fun hb => ?_) | refine AskB.mk (fun hb => ?_) (fun hb => ?_)) <;> first | (exfalso; omega) | (conv => whnf)) | ((with_reducible first | refine Run.drawX rfl (by decide +kernel) ?_ | refine Run.drawT rfl (by decide +kernel) ?_ | refine Run.drawW rfl (by decide +kernel) ?_); conv => whnf))
      all_goals try (exfalso; omega)
      refine Run.to _ _ ?_ ?_ (HA _ (hrl _ _ _ (if_neg b16).symm (if_pos b2).symm (if_pos b4).symm))
      · exact ⟨Le.refl _, Le.refl _, Le.refl _, trivial⟩
      · exact ⟨MOle.refl _, trivial⟩
    · refine Run.callFA 1000 (drop42_fn [r] 2 (by omega)) rfl rfl ⟨one1 _ rfl, Le.refl _, trivial⟩ rfl rfl rfl (flat_cons (Ty.R_flat (fun _ _ _ => rfl)) flat_nil) ?_
      (conv => whnf); repeat' (first | ((with_reducible refine Know.mk fun _ => ?_); conv => whnf) | ((with_reducible refine Need.mk ?_ ?_); exact nd; conv => whnf) | ((with_reducible refine Both.mk ?_ ?_) <;> conv => whnf) | ((with_reducible refine Any.mk fun b hb => ?_); conv => whnf) | ((with_reducible first | refine AskB.dec (fun hb => ?_) (fun hb => ?_) | refine AskB.ndec (fun hb => ?_) (fun hb => ?_) | refine AskB.mk (fun hb => ?_) (fun hb => ?_)) <;> first | (exfalso; omega) | (conv => whnf)) | ((with_reducible first | refine Run.drawX rfl (by decide +kernel) ?_ | refine Run.drawT rfl (by decide +kernel) ?_ | refine Run.drawW rfl (by decide +kernel) ?_); conv => whnf))
      all_goals try (exfalso; omega)
      refine Run.to _ _ ?_ ?_ (HA _ (hrl _ _ _ (if_neg b16).symm (if_pos b2).symm (if_neg b4).symm))
      · exact ⟨Le.refl _, Le.refl _, Le.refl _, trivial⟩
      · exact ⟨MOle.refl _, trivial⟩
    · refine Run.callFA 1000 (ligs43_fn [r] (by omega)) rfl rfl ⟨one1 _ rfl, trivial⟩ rfl rfl rfl (flat_cons (Ty.R_flat (fun _ _ _ => rfl)) flat_nil) ?_
      (conv => whnf); repeat' (first | ((with_reducible refine Know.mk fun _ => ?_); conv => whnf) | ((with_reducible refine Need.mk ?_ ?_); exact nd; conv => whnf) | ((with_reducible refine Both.mk ?_ ?_) <;> conv => whnf) | ((with_reducible refine Any.mk fun b hb => ?_); conv => whnf) | ((with_reducible first | refine AskB.dec (fun hb => ?_) (fun hb => ?_) | refine AskB.ndec (fun hb => ?_) (fun hb => ?_) | refine AskB.mk (fun hb => ?_) (fun hb => ?_)) <;> first | (exfalso; omega) | (conv => whnf)) | ((with_reducible first | refine Run.drawX rfl (by decide +kernel) ?_ | refine Run.drawT rfl (by decide +kernel) ?_ | refine Run.drawW rfl (by decide +kernel) ?_); conv => whnf))
      all_goals try (exfalso; omega)
      refine Run.to _ _ ?_ ?_ (HA _ (hrl _ _ _ (if_neg b16).symm (if_neg b2).symm (if_pos b4).symm))
      · exact ⟨Le.refl _, Le.refl _, Le.refl _, trivial⟩
      · exact ⟨MOle.refl _, trivial⟩
    · refine Run.hold (z := 15) 6 1000 (by rfl) (by rfl) (by rfl) ?_
      refine Run.to _ _ ?_ ?_ (HA [r] (hrl _ _ _ (if_neg b16).symm (if_neg b2).symm (if_neg b4).symm))
      · exact ⟨Le.refl _, Le.refl _, Le.refl _, trivial⟩
      refine ⟨⟨rfl, rfl, rfl, fun i j hi hj => ?_⟩, trivial⟩
      obtain rfl : i = 0 := by have : i < 1 := hi; omega
      obtain rfl : j = 0 := by have : j < 1 := hj; omega
      exact Le.refl _
  intro l hrfl
  rw [hrfl] at hn ⊢
  refine Run.loop [1, 6] (fun (j : Nat) => [(7, .int .i64 (j : Int))]) (fun j => [(1000, tRn.R 21 (mapTo (stepV kk.val) l j))]) (fun j => j ≤ l.length) (fun j => l.length - j) 0 (Nat.zero_le _) ⟨Le.refl _, trivial⟩ ⟨by rw [mapTo_zero]; exact MOle.refl _, trivial⟩ ?_
  intro j hj IH
  have hwj : IntKind.i64.wrap ((j : Int) + 1) = ((j + 1 : Nat) : Int) := wrap64 (by omega) (by omega)
  have hml := mapTo_len (stepV kk.val) l j
  have hst : j < l.length → (mapTo (stepV kk.val) l j).set j (stepV kk.val ((mapTo (stepV kk.val) l j).getD j tRn.z)) = mapTo (stepV kk.val) l (j + 1) := fun h => by
    rw [mapTo_at _ _ _ _ h, mapTo_set _ _ _ _ h]
  generalize hL : mapTo (stepV kk.val) l j = L at hml hst ⊢
  refine Run.goS true 0 ?_; (conv => whnf); repeat' (first | ((with_reducible refine Know.mk fun _ => ?_); conv => whnf) | ((with_reducible refine Need.mk ?_ ?_); exact nd; conv => whnf) | ((with_reducible first | refine Both.mk ?_ ?_ | refine Any.mk fun b hb => ?_ | refine AskB.dec (fun hb => ?_) (fun hb => ?_) | refine AskB.ndec (fun hb => ?_) (fun hb => ?_) | refine AskB.mk (fun hb => ?_) (fun hb => ?_)) <;> conv => whnf) | ((with_reducible first | refine Run.drawX rfl (by decide +kernel) ?_ | refine Run.drawT rfl (by decide +kernel) ?_ | refine Run.drawW rfl (by decide +kernel) ?_); conv => whnf))
  refine Run.cond2 rfl (fun hb => ?_) (fun hb => ?_)
  · have hjl : j < L.length := by have := of_decide_eq_true hb; omega
    refine Run.goS true 0 ?_; (conv => whnf); repeat' (first | ((with_reducible refine Know.mk fun _ => ?_); conv => whnf) | ((with_reducible refine Need.mk ?_ ?_); exact nd; conv => whnf) | ((with_reducible first | refine Both.mk ?_ ?_ | refine Any.mk fun b hb => ?_ | refine AskB.dec (fun hb => ?_) (fun hb => ?_) | refine AskB.ndec (fun hb => ?_) (fun hb => ?_) | refine AskB.mk (fun hb => ?_) (fun hb => ?_)) <;> conv => whnf) | ((with_reducible first | refine Run.drawX rfl (by decide +kernel) ?_ | refine Run.drawT rfl (by decide +kernel) ?_ | refine Run.drawW rfl (by decide +kernel) ?_); conv => whnf))
    refine Run.ifk [1, 6, 7] (fun (_ : Unit) => []) (fun _ => [(1000, tRn.R 21 (L.set j (ifV ((kk.val : Int) % 2 = 1) lowV (L.getD j tRn.z))))]) (fun _ => True) rfl ⟨fun next => ⟨fun hb => ?_, fun hb => ?_⟩, fun _ _ => ?_⟩
    · have hb := of_decide_eq_true hb
      refine Run.goS false 6 ?_; (conv => whnf); repeat' (first | ((with_reducible refine Know.mk fun _ => ?_); conv => whnf) | ((with_reducible refine Need.mk ?_ ?_); exact nd; conv => whnf) | ((with_reducible first | refine Both.mk ?_ ?_ | refine Any.mk fun b hb => ?_ | refine AskB.dec (fun hb => ?_) (fun hb => ?_) | refine AskB.ndec (fun hb => ?_) (fun hb => ?_) | refine AskB.mk (fun hb => ?_) (fun hb => ?_)) <;> conv => whnf) | ((with_reducible first | refine Run.drawX rfl (by decide +kernel) ?_ | refine Run.drawT rfl (by decide +kernel) ?_ | refine Run.drawW rfl (by decide +kernel) ?_); conv => whnf))
      refine Run.callB (small44_fn (L.getD j tRn.z)) rfl rfl ⟨?_, trivial⟩ rfl rfl rfl ?_
      · exact Le.int rfl
      refine Run.goS false 6 ?_; (conv => whnf); repeat' (first | ((with_reducible refine Know.mk fun _ => ?_); conv => whnf) | ((with_reducible refine Need.mk ?_ ?_); exact nd; conv => whnf) | ((with_reducible first | refine Both.mk ?_ ?_ | refine Any.mk fun b hb => ?_ | refine AskB.dec (fun hb => ?_) (fun hb => ?_) | refine AskB.ndec (fun hb => ?_) (fun hb => ?_) | refine AskB.mk (fun hb => ?_) (fun hb => ?_)) <;> conv => whnf) | ((with_reducible first | refine Run.drawX rfl (by decide +kernel) ?_ | refine Run.drawT rfl (by decide +kernel) ?_ | refine Run.drawW rfl (by decide +kernel) ?_); conv => whnf))
      refine Run.to _ _ ?_ ?_ (next () trivial)
      · exact ⟨Le.refl _, Le.refl _, Le.refl _, trivial⟩
      · refine ⟨?_, trivial⟩
        rw [show ifV ((kk.val : Int) % 2 = 1) lowV (L.getD j tRn.z) = lowV (L.getD j tRn.z) from if_pos (by omega)]
        exact tRn.set 21 L j _ hjl _ rfl (Le.one (Le.refl _))
    · have hb := of_decide_eq_false hb
      refine Run.goS false 6 ?_; (conv => whnf); repeat' (first | ((with_reducible refine Know.mk fun _ => ?_); conv => whnf) | ((with_reducible refine Need.mk ?_ ?_); exact nd; conv => whnf) | ((with_reducible first | refine Both.mk ?_ ?_ | refine Any.mk fun b hb => ?_ | refine AskB.dec (fun hb => ?_) (fun hb => ?_) | refine AskB.ndec (fun hb => ?_) (fun hb => ?_) | refine AskB.mk (fun hb => ?_) (fun hb => ?_)) <;> conv => whnf) | ((with_reducible first | refine Run.drawX rfl (by decide +kernel) ?_ | refine Run.drawT rfl (by decide +kernel) ?_ | refine Run.drawW rfl (by decide +kernel) ?_); conv => whnf))
      refine Run.to _ _ ?_ ?_ (next () trivial)
      · exact ⟨Le.refl _, Le.refl _, Le.refl _, trivial⟩
      · refine ⟨?_, trivial⟩
        rw [show ifV ((kk.val : Int) % 2 = 1) lowV (L.getD j tRn.z) = L.getD j tRn.z from if_neg (by omega), set_same]
        exact MOle.refl _
    generalize hx1 : ifV ((kk.val : Int) % 2 = 1) lowV (L.getD j tRn.z) = x1
    have hl1 : (L.set j x1).length = l.length := by rw [List.length_set]; exact hml
    have hg1 : (L.set j x1).getD (j : Int).toNat tRn.z = x1 := getD_setL L j x1 _ hjl
    have hst2 : ∀ y, (L.set j x1).set j y = L.set j y := fun y => List.set_set ..
    generalize hM1 : L.set j x1 = M1 at hl1 hg1 hst2
    refine Run.goS true 0 ?_; (conv => whnf); repeat' (first | ((with_reducible refine Know.mk fun _ => ?_); conv => whnf) | ((with_reducible refine Need.mk ?_ ?_); exact nd; conv => whnf) | ((with_reducible first | refine Both.mk ?_ ?_ | refine Any.mk fun b hb => ?_ | refine AskB.dec (fun hb => ?_) (fun hb => ?_) | refine AskB.ndec (fun hb => ?_) (fun hb => ?_) | refine AskB.mk (fun hb => ?_) (fun hb => ?_)) <;> conv => whnf) | ((with_reducible first | refine Run.drawX rfl (by decide +kernel) ?_ | refine Run.drawT rfl (by decide +kernel) ?_ | refine Run.drawW rfl (by decide +kernel) ?_); conv => whnf))
    refine Run.ifk [1, 6, 7] (fun (_ : Unit) => []) (fun _ => [(1000, tRn.R 21 (L.set j (ifV ((kk.val : Int) / 2 % 2 = 1) bareV x1)))]) (fun _ => True) rfl ⟨fun next => ⟨fun hb => ?_, fun hb => ?_⟩, fun _ _ => ?_⟩
    · have hb := of_decide_eq_true hb
      refine Run.goS false 6 ?_; (conv => whnf); repeat' (first | ((with_reducible refine Know.mk fun _ => ?_); conv => whnf) | ((with_reducible refine Need.mk ?_ ?_); exact nd; conv => whnf) | ((with_reducible first | refine Both.mk ?_ ?_ | refine Any.mk fun b hb => ?_ | refine AskB.dec (fun hb => ?_) (fun hb => ?_) | refine AskB.ndec (fun hb => ?_) (fun hb => ?_) | refine AskB.mk (fun hb => ?_) (fun hb => ?_)) <;> conv => whnf) | ((with_reducible first | refine Run.drawX rfl (by decide +kernel) ?_ | refine Run.drawT rfl (by decide +kernel) ?_ | refine Run.drawW rfl (by decide +kernel) ?_); conv => whnf))
      refine Run.callB (bare45_fn (x1)) rfl rfl ⟨?_, trivial⟩ rfl rfl rfl ?_
      · exact Le.int hg1
      refine Run.goS false 6 ?_; (conv => whnf); repeat' (first | ((with_reducible refine Know.mk fun _ => ?_); conv => whnf) | ((with_reducible refine Need.mk ?_ ?_); exact nd; conv => whnf) | ((with_reducible first | refine Both.mk ?_ ?_ | refine Any.mk fun b hb => ?_ | refine AskB.dec (fun hb => ?_) (fun hb => ?_) | refine AskB.ndec (fun hb => ?_) (fun hb => ?_) | refine AskB.mk (fun hb => ?_) (fun hb => ?_)) <;> conv => whnf) | ((with_reducible first | refine Run.drawX rfl (by decide +kernel) ?_ | refine Run.drawT rfl (by decide +kernel) ?_ | refine Run.drawW rfl (by decide +kernel) ?_); conv => whnf))
      refine Run.to _ _ ?_ ?_ (next () trivial)
      · exact ⟨Le.refl _, Le.refl _, Le.refl _, trivial⟩
      · refine ⟨?_, trivial⟩
        rw [show ifV ((kk.val : Int) / 2 % 2 = 1) bareV x1 = bareV x1 from if_pos (by omega), ← hst2]
        exact tRn.set 21 M1 j _ (by omega) _ rfl (Le.one (Le.refl _))
    · have hb := of_decide_eq_false hb
      refine Run.goS false 6 ?_; (conv => whnf); repeat' (first | ((with_reducible refine Know.mk fun _ => ?_); conv => whnf) | ((with_reducible refine Need.mk ?_ ?_); exact nd; conv => whnf) | ((with_reducible first | refine Both.mk ?_ ?_ | refine Any.mk fun b hb => ?_ | refine AskB.dec (fun hb => ?_) (fun hb => ?_) | refine AskB.ndec (fun hb => ?_) (fun hb => ?_) | refine AskB.mk (fun hb => ?_) (fun hb => ?_)) <;> conv => whnf) | ((with_reducible first | refine Run.drawX rfl (by decide +kernel) ?_ | refine Run.drawT rfl (by decide +kernel) ?_ | refine Run.drawW rfl (by decide +kernel) ?_); conv => whnf))
      refine Run.to _ _ ?_ ?_ (next () trivial)
      · exact ⟨Le.refl _, Le.refl _, Le.refl _, trivial⟩
      · refine ⟨?_, trivial⟩
        rw [show ifV ((kk.val : Int) / 2 % 2 = 1) bareV x1 = x1 from if_neg (by omega), hM1]
        exact MOle.refl _
    generalize hx2 : ifV ((kk.val : Int) / 2 % 2 = 1) bareV x1 = x2
    have hl2 : (L.set j x2).length = l.length := by rw [List.length_set]; exact hml
    have hg2 : (L.set j x2).getD (j : Int).toNat tRn.z = x2 := getD_setL L j x2 _ hjl
    have hst3 : ∀ y, (L.set j x2).set j y = L.set j y := fun y => List.set_set ..
    generalize hM2 : L.set j x2 = M2 at hl2 hg2 hst3
    refine Run.goS true 0 ?_; (conv => whnf); repeat' (first | ((with_reducible refine Know.mk fun _ => ?_); conv => whnf) | ((with_reducible refine Need.mk ?_ ?_); exact nd; conv => whnf) | ((with_reducible first | refine Both.mk ?_ ?_ | refine Any.mk fun b hb => ?_ | refine AskB.dec (fun hb => ?_) (fun hb => ?_) | refine AskB.ndec (fun hb => ?_) (fun hb => ?_) | refine AskB.mk (fun hb => ?_) (fun hb => ?_)) <;> conv => whnf) | ((with_reducible first | refine Run.drawX rfl (by decide +kernel) ?_ | refine Run.drawT rfl (by decide +kernel) ?_ | refine Run.drawW rfl (by decide +kernel) ?_); conv => whnf))
    refine Run.ifk [1, 6, 7] (fun (_ : Unit) => []) (fun _ => [(1000, tRn.R 21 (L.set j (ifV ((kk.val : Int) / 8 % 2 = 1) letterV x2)))]) (fun _ => True) rfl ⟨fun next => ⟨fun hb => ?_, fun hb => ?_⟩, fun _ _ => ?_⟩
    · have hb := of_decide_eq_true hb
      refine Run.goS false 5 ?_; (conv => whnf); repeat' (first | ((with_reducible refine Know.mk fun _ => ?_); conv => whnf) | ((with_reducible refine Need.mk ?_ ?_); exact nd; conv => whnf) | ((with_reducible first | refine Both.mk ?_ ?_ | refine Any.mk fun b hb => ?_ | refine AskB.dec (fun hb => ?_) (fun hb => ?_) | refine AskB.ndec (fun hb => ?_) (fun hb => ?_) | refine AskB.mk (fun hb => ?_) (fun hb => ?_)) <;> conv => whnf) | ((with_reducible first | refine Run.drawX rfl (by decide +kernel) ?_ | refine Run.drawT rfl (by decide +kernel) ?_ | refine Run.drawW rfl (by decide +kernel) ?_); conv => whnf))
      refine Run.callB (plain46_fn (x2)) rfl rfl ⟨?_, trivial⟩ rfl rfl rfl ?_
      · exact Le.int hg2
      refine Run.goS false 5 ?_; (conv => whnf); repeat' (first | ((with_reducible refine Know.mk fun _ => ?_); conv => whnf) | ((with_reducible refine Need.mk ?_ ?_); exact nd; conv => whnf) | ((with_reducible first | refine Both.mk ?_ ?_ | refine Any.mk fun b hb => ?_ | refine AskB.dec (fun hb => ?_) (fun hb => ?_) | refine AskB.ndec (fun hb => ?_) (fun hb => ?_) | refine AskB.mk (fun hb => ?_) (fun hb => ?_)) <;> conv => whnf) | ((with_reducible first | refine Run.drawX rfl (by decide +kernel) ?_ | refine Run.drawT rfl (by decide +kernel) ?_ | refine Run.drawW rfl (by decide +kernel) ?_); conv => whnf))
      refine Run.to _ _ ?_ ?_ (next () trivial)
      · exact ⟨Le.refl _, Le.refl _, Le.refl _, trivial⟩
      · refine ⟨?_, trivial⟩
        rw [show ifV ((kk.val : Int) / 8 % 2 = 1) letterV x2 = letterV x2 from if_pos (by omega), ← hst3]
        exact tRn.set 21 M2 j _ (by omega) _ rfl (Le.one (Le.refl _))
    · have hb := of_decide_eq_false hb
      refine Run.goS false 5 ?_; (conv => whnf); repeat' (first | ((with_reducible refine Know.mk fun _ => ?_); conv => whnf) | ((with_reducible refine Need.mk ?_ ?_); exact nd; conv => whnf) | ((with_reducible first | refine Both.mk ?_ ?_ | refine Any.mk fun b hb => ?_ | refine AskB.dec (fun hb => ?_) (fun hb => ?_) | refine AskB.ndec (fun hb => ?_) (fun hb => ?_) | refine AskB.mk (fun hb => ?_) (fun hb => ?_)) <;> conv => whnf) | ((with_reducible first | refine Run.drawX rfl (by decide +kernel) ?_ | refine Run.drawT rfl (by decide +kernel) ?_ | refine Run.drawW rfl (by decide +kernel) ?_); conv => whnf))
      refine Run.to _ _ ?_ ?_ (next () trivial)
      · exact ⟨Le.refl _, Le.refl _, Le.refl _, trivial⟩
      · refine ⟨?_, trivial⟩
        rw [show ifV ((kk.val : Int) / 8 % 2 = 1) letterV x2 = x2 from if_neg (by omega), hM2]
        exact MOle.refl _
    refine Run.go ?_; (conv => whnf); repeat' (first | ((with_reducible refine Know.mk fun _ => ?_); conv => whnf) | ((with_reducible refine Need.mk ?_ ?_); exact nd; conv => whnf) | ((with_reducible first | refine Both.mk ?_ ?_ | refine Any.mk fun b hb => ?_ | refine AskB.dec (fun hb => ?_) (fun hb => ?_) | refine AskB.ndec (fun hb => ?_) (fun hb => ?_) | refine AskB.mk (fun hb => ?_) (fun hb => ?_)) <;> conv => whnf) | ((with_reducible first | refine Run.drawX rfl (by decide +kernel) ?_ | refine Run.drawT rfl (by decide +kernel) ?_ | refine Run.drawW rfl (by decide +kernel) ?_); conv => whnf))
    refine Run.to _ _ ?_ ?_ (IH (j + 1) (by omega) (by omega))
    · exact ⟨Le.refl _, Le.refl _, Le.int hwj, trivial⟩
    · refine ⟨?_, trivial⟩
      have hst4 := hst (by omega)
      rw [stepV_if, hx1, hx2] at hst4
      rw [← hst4]
      exact MOle.refl _
  · have hb := of_decide_eq_false hb
    obtain rfl : j = l.length := by omega
    refine Run.go ?_; (conv => whnf); repeat' (first | ((with_reducible refine Know.mk fun _ => ?_); conv => whnf) | ((with_reducible refine Need.mk ?_ ?_); exact nd; conv => whnf) | ((with_reducible first | refine Both.mk ?_ ?_ | refine Any.mk fun b hb => ?_ | refine AskB.dec (fun hb => ?_) (fun hb => ?_) | refine AskB.ndec (fun hb => ?_) (fun hb => ?_) | refine AskB.mk (fun hb => ?_) (fun hb => ?_)) <;> conv => whnf) | ((with_reducible first | refine Run.drawX rfl (by decide +kernel) ?_ | refine Run.drawT rfl (by decide +kernel) ?_ | refine Run.drawW rfl (by decide +kernel) ?_); conv => whnf))
    rw [mapTo_all] at hL
    have hLn : L.length ≤ 10000000 := by omega
    refine Run.callAX (back47_fn L hLn) rfl rfl ⟨Le.refl _, trivial⟩ rfl rfl rfl ?_
    (conv => whnf); repeat' (first | ((with_reducible refine Know.mk fun _ => ?_); conv => whnf) | ((with_reducible refine Need.mk ?_ ?_); exact nd; conv => whnf) | ((with_reducible first | refine Both.mk ?_ ?_ | refine Any.mk fun b hb => ?_ | refine AskB.dec (fun hb => ?_) (fun hb => ?_) | refine AskB.ndec (fun hb => ?_) (fun hb => ?_) | refine AskB.mk (fun hb => ?_) (fun hb => ?_)) <;> conv => whnf) | ((with_reducible first | refine Run.drawX rfl (by decide +kernel) ?_ | refine Run.drawT rfl (by decide +kernel) ?_ | refine Run.drawW rfl (by decide +kernel) ?_); conv => whnf))
    rw [hL]
    exact Run.leave (ts := [4,5]) (.inr ⟨_, rfl⟩) rfl Tryd.func70 rfl (resT ⟨Le.refl _, Le.refl _, trivial⟩)
end Go.Proofs.YtnadacaoehpdnaaDoor.V

namespace Go.Proofs.YtnadacaoehpdnaaDoor.V
set_option linter.unusedVariables false
set_option linter.unusedSimpArgs false
open Go Go.Proofs Go.RowKit
set_option maxRecDepth 100000
set_option maxHeartbeats 4000000
open Go Go.Proofs Go.Proofs.YtnadacaoehpdnaaDoor.V
theorem refL_eq (r o : Int) : backE ((refL r o).map (stepV o)) = foldR r o := by
  have hd : ∀ k, dropE k [r] = if kOf r = k then [] else [r] := fun k => by
    by_cases h : kOf r = k
    · rw [dropE_no h, if_pos h]; rfl
    · rw [dropE_yes h, if_neg h]; rfl
  have hn : ∀ k, dropE k [] = [] := fun k => rfl
  have hl0 : ligsE [] = [] := rfl
  have hl1 : ligsE [r] = ligE r := by simp [ligsE]
  unfold foldR dropV backE
  rw [catE_eq, runesV_eq]
  unfold refL
  simp only [hd]
  by_cases h16 : o / 16 % 2 = 1 <;> by_cases h2 : o / 2 % 2 = 1 <;> by_cases h4 : o / 4 % 2 = 1 <;> by_cases k4 : kOf r = 4 <;> by_cases k2 : kOf r = 2 <;> by_cases hL : isLig r = true <;> simp [h16, h2, h4, k4, k2, hL, hd, hn, hl0, hl1, ligE, encs, bl] <;> rfl
theorem rune28_fn' (r o : Int) : Fn Tryd.prog 70 [.int .i32 r, .int .i64 o] (runeL r o) := by
  have := rune28_fn r o
  rw [refL_eq] at this
  exact this
theorem text29_fn (s : ByteArray) (o : Int) (hs : s.size ≤ 134217728) : Fn Tryd.prog 54 [.str s, .int .i64 o] (textL s o) := by
  refine Fn.of Tryd.f54 _ Tryd.func54 rfl (by decide) (by show 2 ≤ _; decide) tbOk 53 rfl fun S w0 gl => ?_
  by_cases hbad : badO o
  · have hbo : o < 0 ∨ 31 < o := hbad
    unfold textL
    rw [if_pos hbad, if_pos hbad]
    refine Run.go ?_; (conv => whnf); repeat' (first | ((with_reducible refine Know.mk fun _ => ?_); conv => whnf) | ((with_reducible refine Need.mk ?_ ?_); exact nd; conv => whnf) | ((with_reducible refine Both.mk ?_ ?_) <;> conv => whnf) | ((with_reducible refine Any.mk fun b hb => ?_); conv => whnf) | ((with_reducible first | refine AskB.dec (fun hb => ?_) (fun hb => ?_) | refine AskB.ndec (fun hb => ?_) (fun hb => ?_) | refine AskB.mk (fun hb => ?_) (fun hb => ?_)) <;> first | (exfalso; omega) | (conv => whnf)) | ((with_reducible first | refine Run.drawX rfl (by decide +kernel) ?_ | refine Run.drawT rfl (by decide +kernel) ?_ | refine Run.drawW rfl (by decide +kernel) ?_); conv => whnf))
    all_goals first
      | exact Run.leave (ts := [4,5]) (.inr ⟨_, rfl⟩) rfl Tryd.func54 rfl (resT ⟨Le.refl _, Le.refl _, trivial⟩)
      | (exfalso; omega)
  have hbo : ¬ (o < 0 ∨ 31 < o) := hbad
  unfold textL
  rw [if_neg hbad, if_neg hbad]
  refine Run.go ?_; (conv => whnf); repeat' (first | ((with_reducible refine Know.mk fun _ => ?_); conv => whnf) | ((with_reducible refine Need.mk ?_ ?_); exact nd; conv => whnf) | ((with_reducible refine Both.mk ?_ ?_) <;> conv => whnf) | ((with_reducible refine Any.mk fun b hb => ?_); conv => whnf) | ((with_reducible first | refine AskB.dec (fun hb => ?_) (fun hb => ?_) | refine AskB.ndec (fun hb => ?_) (fun hb => ?_) | refine AskB.mk (fun hb => ?_) (fun hb => ?_)) <;> first | (exfalso; omega) | (conv => whnf)) | ((with_reducible first | refine Run.drawX rfl (by decide +kernel) ?_ | refine Run.drawT rfl (by decide +kernel) ?_ | refine Run.drawW rfl (by decide +kernel) ?_); conv => whnf))
  all_goals try (exfalso; omega)
  refine Run.callBX (cells36_fn s hs) rfl rfl ⟨Le.refl _, trivial⟩ rfl rfl rfl ?_
  have hcl := cells_len s 0
  have hT : ∀ j, (catC o ((cells s 0).take j)).size ≤ 2000000000 := fun j => by
    have h1 := catC_size o ((cells s 0).take j)
    have h2 : ((cells s 0).take j).length ≤ (cells s 0).length := by rw [List.length_take]; omega
    omega
  have hby := cell_byte s 0
  unfold textF
  generalize cells s 0 = L at hcl hT hby ⊢
  (conv => whnf); repeat' (first | ((with_reducible refine Know.mk fun _ => ?_); conv => whnf) | ((with_reducible refine Need.mk ?_ ?_); exact nd; conv => whnf) | ((with_reducible first | refine Both.mk ?_ ?_ | refine Any.mk fun b hb => ?_ | refine AskB.dec (fun hb => ?_) (fun hb => ?_) | refine AskB.ndec (fun hb => ?_) (fun hb => ?_) | refine AskB.mk (fun hb => ?_) (fun hb => ?_)) <;> conv => whnf) | ((with_reducible first | refine Run.drawX rfl (by decide +kernel) ?_ | refine Run.drawT rfl (by decide +kernel) ?_ | refine Run.drawW rfl (by decide +kernel) ?_); conv => whnf))
  refine Run.holdNil 6 1000 5 1 (bytesG .empty) rfl ?_
  refine Run.loop [1, 7] (fun (j : Nat) => [(6, .row 1000), (8, .int .i64 (j : Int))]) (fun j => [(1000, .row 5 1 (catC o (L.take j)).size (bytesG (catC o (L.take j))))]) (fun j => j ≤ L.length) (fun j => L.length - j) 0 (Nat.zero_le _) ⟨Le.refl _, Le.refl _, trivial⟩ ⟨MOle.refl _, trivial⟩ ?_
  intro j hj IH
  have hwj : IntKind.i64.wrap ((j : Int) + 1) = ((j + 1 : Nat) : Int) := wrap64 (by omega) (by omega)
  have hTj := hT j
  refine Run.go ?_; (conv => whnf); repeat' (first | ((with_reducible refine Know.mk fun _ => ?_); conv => whnf) | ((with_reducible refine Need.mk ?_ ?_); exact nd; conv => whnf) | ((with_reducible first | refine Both.mk ?_ ?_ | refine Any.mk fun b hb => ?_ | refine AskB.dec (fun hb => ?_) (fun hb => ?_) | refine AskB.ndec (fun hb => ?_) (fun hb => ?_) | refine AskB.mk (fun hb => ?_) (fun hb => ?_)) <;> conv => whnf) | ((with_reducible first | refine Run.drawX rfl (by decide +kernel) ?_ | refine Run.drawT rfl (by decide +kernel) ?_ | refine Run.drawW rfl (by decide +kernel) ?_); conv => whnf))
  case _ =>
    have hjl : j < L.length := by omega
    have hb2 : (L.getD j tCel.z).bad = true := hb
    have hcf : cellF o (L.getD j tCel.z) = ⟨#[UInt8.ofNat (L.getD j tCel.z).byte.toNat]⟩ := if_pos hb2
    refine Run.hold (z := 37) 6 1000 (by rfl) (by rfl) (by rfl) ?_
    refine Run.to _ _ ?_ ?_ (IH (j + 1) (by omega) (by omega))
    · exact ⟨Le.refl _, Le.refl _, Le.refl _, Le.int hwj, trivial⟩
    · refine ⟨?_, trivial⟩
      rw [catC_take _ _ _ hjl, hcf]
      refine bytesG_push 5 _ (UInt8.ofNat (L.getD j tCel.z).byte.toNat) _ ?_
      rw [hby _ (by rw [List.getD, List.getElem?_eq_getElem hjl]; exact List.getElem_mem hjl)]; rfl
  case _ =>
    have hjl : j < L.length := by omega
    have hb2 : (L.getD j tCel.z).bad = false := hb
    have hcf : cellF o (L.getD j tCel.z) = foldR (L.getD j tCel.z).r o := if_neg (by rw [hb2]; exact Bool.noConfusion)
    have hfs := foldR_size (L.getD j tCel.z).r o
    have hru := rune28_fn' (L.getD j tCel.z).r o
    unfold runeL at hru
    rw [if_neg hbad, if_neg hbad] at hru
    refine Run.callBX hru rfl rfl ⟨Le.refl _, Le.refl _, trivial⟩ rfl rfl rfl ?_
    (conv => whnf); repeat' (first | ((with_reducible refine Know.mk fun _ => ?_); conv => whnf) | ((with_reducible refine Need.mk ?_ ?_); exact nd; conv => whnf) | ((with_reducible first | refine Both.mk ?_ ?_ | refine Any.mk fun b hb => ?_ | refine AskB.dec (fun hb => ?_) (fun hb => ?_) | refine AskB.ndec (fun hb => ?_) (fun hb => ?_) | refine AskB.mk (fun hb => ?_) (fun hb => ?_)) <;> conv => whnf) | ((with_reducible first | refine Run.drawX rfl (by decide +kernel) ?_ | refine Run.drawT rfl (by decide +kernel) ?_ | refine Run.drawW rfl (by decide +kernel) ?_); conv => whnf))
    refine Run.hold (z := 50) 6 1000 (by rfl) (by rfl) (by rfl) ?_
    refine Run.to _ _ ?_ ?_ (IH (j + 1) (by omega) (by omega))
    · exact ⟨Le.refl _, Le.refl _, Le.refl _, Le.int hwj, trivial⟩
    · refine ⟨?_, trivial⟩
      rw [catC_take _ _ _ hjl, hcf]
      exact bytesG_join 5 _ _
  case _ =>
    obtain rfl : j = L.length := by omega
    rw [List.take_length]
    refine Run.rowStr (x := .tmp 51) (src := 93) (dst := 9) (e := 5) (q := 1000) (catC o L) rfl rfl rfl rfl rfl rfl rfl (fun _ _ => rfl) (by kernel_rfl) (by kernel_rfl) (by kernel_rfl) ?_
    refine Run.go ?_; (conv => whnf); repeat' (first | ((with_reducible refine Know.mk fun _ => ?_); conv => whnf) | ((with_reducible refine Need.mk ?_ ?_); exact nd; conv => whnf) | ((with_reducible first | refine Both.mk ?_ ?_ | refine Any.mk fun b hb => ?_ | refine AskB.dec (fun hb => ?_) (fun hb => ?_) | refine AskB.ndec (fun hb => ?_) (fun hb => ?_) | refine AskB.mk (fun hb => ?_) (fun hb => ?_)) <;> conv => whnf) | ((with_reducible first | refine Run.drawX rfl (by decide +kernel) ?_ | refine Run.drawT rfl (by decide +kernel) ?_ | refine Run.drawW rfl (by decide +kernel) ?_); conv => whnf))
    exact Run.leave (ts := [4,5]) (.inr ⟨_, rfl⟩) rfl Tryd.func54 rfl (resT ⟨Le.refl _, Le.refl _, trivial⟩)
end Go.Proofs.YtnadacaoehpdnaaDoor.V

namespace Go.Proofs.YtnadacaoehpdnaaDoor.V
set_option linter.unusedVariables false
set_option linter.unusedSimpArgs false
open Go Go.Proofs Go.RowKit
theorem getD_app1 {α : Type} {l : List α} {x z : α} {i : Nat} (h : i < l.length) : (l ++ [x]).getD i z = l.getD i z := by
  rw [List.getD, List.getD, List.getElem?_append_left h]
theorem getD_app2 {α : Type} {l : List α} {x z : α} : (l ++ [x]).getD l.length z = x := by simp [List.getD]
structure Rd where
  none : Bool
  text : ByteArray
  wits : List Int
deriving DecidableEq
def rd0 : Rd := ⟨false, .empty, []⟩
def tRd : Ty Rd := ⟨3, fun r j => match j with | 0 => .bool r.none | 1 => .str r.text | _ => tI.L r.wits, rd0⟩
def rdG (l : List Rd) : Nat → Nat → AV := fun i j => match j with | 0 => .bool (l.getD i rd0).none | _ => .str (l.getD i rd0).text
def rdN (l : List Rd) : Nat → Nat := fun i => (l.getD i rd0).wits.length
def rdW (l : List Rd) : Nat → Nat → Nat → AV := fun i => tI.G (l.getD i rd0).wits
/-- Readings as nested rows. -/
def rdM (l : List Rd) : MO := .mat 47 3 l.length (rdG l) 2 3 1 (rdN l) (rdW l) none
/-- Is it the reading of these witnesses? -/
def sameR (o : Int) (nn : Bool) (key : ByteArray) (r : Rd) : Bool := r.none == nn && decide (textF r.text o = key)
def ensR (l : List Rd) (k : Nat) (nn : Bool) (text : ByteArray) : List Rd := if k = l.length then l ++ [⟨nn, text, []⟩] else l
def pushW (l : List Rd) (k : Nat) (i : Int) : List Rd := l.set k ⟨(l.getD k rd0).none, (l.getD k rd0).text, (l.getD k rd0).wits ++ [i]⟩
def addR (o : Int) (l : List Rd) (i : Int) (nn : Bool) (text key : ByteArray) : List Rd := pushW (ensR l (l.findIdx (sameR o nn key)) nn text) (l.findIdx (sameR o nn key)) i
/-- A cell's text. -/
def textAt (t : Tab) (c i : Nat) : ByteArray := if atC t c i < 0 then .empty else ((witAt t i).words.getD (atC t c i).toNat tWrd.z).text
def keyAt (t : Tab) (c : Nat) (o : Int) (i : Nat) : ByteArray := if atC t c i < 0 then .empty else textF (textAt t c i) o
/-- The readings of the first witnesses. -/
def readE (t : Tab) (c : Nat) (o : Int) : Nat → List Rd
  | 0 => []
  | i + 1 => addR o (readE t c o i) i (decide (atC t c i < 0)) (textAt t c i) (keyAt t c o i)
theorem ens_len (l : List Rd) (k : Nat) (nn : Bool) (text : ByteArray) (h : k ≤ l.length) : k < (ensR l k nn text).length ∧ (ensR l k nn text).length ≤ l.length + 1 := by
  unfold ensR
  split
  · rw [List.length_append, List.length_singleton]; omega
  · omega
theorem push_len (l : List Rd) (k : Nat) (i : Int) : (pushW l k i).length = l.length := by simp [pushW]
theorem add_len (o : Int) (l : List Rd) (i : Int) (nn : Bool) (text key : ByteArray) : (addR o l i nn text key).length ≤ l.length + 1 := by
  unfold addR
  rw [push_len]
  exact (ens_len l _ nn text List.findIdx_le_length).2
theorem read_len (t : Tab) (c : Nat) (o : Int) : ∀ n, (readE t c o n).length ≤ n
  | 0 => Nat.le_refl _
  | n + 1 => Nat.le_trans (add_len _ _ _ _ _ _) (Nat.succ_le_succ (read_len t c o n))
/-- No reading has more witnesses than there are. -/
theorem wits_le (t : Tab) (c : Nat) (o : Int) : ∀ n, ∀ r ∈ readE t c o n, r.wits.length ≤ n
  | 0, r, h => by cases h
  | n + 1, r, h => by
    have ih := wits_le t c o n
    have key : ∀ (l : List Rd) k i (r : Rd), (∀ x ∈ l, x.wits.length ≤ n) → r ∈ pushW l k i → r.wits.length ≤ n + 1 := by
      intro l k i r hl hr
      unfold pushW at hr
      rcases List.mem_or_eq_of_mem_set hr with h1 | h1
      · have := hl r h1; omega
      · subst h1
        simp only [List.length_append, List.length_singleton]
        have : (l.getD k rd0).wits.length ≤ n := by
          by_cases hk : k < l.length
          · exact hl _ (getD_mem' k hk)
          · rw [List.getD, List.getElem?_eq_none (by omega)]; exact Nat.zero_le _
        omega
    refine key _ _ _ r (fun x hx => ?_) h
    unfold ensR at hx
    split at hx
    · rcases List.mem_append.mp hx with h1 | h1
      · exact ih x h1
      · rw [List.mem_singleton] at h1; subst h1; exact Nat.zero_le _
    · exact ih x hx
theorem fidx_hit {α : Type} {p : α → Bool} {z : α} : ∀ {l : List α} {k : Nat}, k ≤ l.findIdx p → k < l.length → p (l.getD k z) = true → l.findIdx p = k
  | [], k, _, h, _ => absurd h (Nat.not_lt_zero _)
  | x :: l, 0, _, _, h => by rw [List.findIdx_cons]; rw [List.getD_cons_zero] at h; rw [h]; rfl
  | x :: l, k + 1, hk, hl, h => by
    rw [List.findIdx_cons] at hk ⊢
    cases hx : p x with
    | true => rw [hx] at hk; exact absurd hk (by simp)
    | false =>
      rw [hx] at hk
      simp only [cond_false] at hk ⊢
      rw [fidx_hit (p := p) (l := l) (k := k) (z := z) (by omega) (by simpa using hl) (by rw [List.getD_cons_succ] at h; exact h)]
theorem fidx_miss {α : Type} {p : α → Bool} {z : α} : ∀ {l : List α} {k : Nat}, k ≤ l.findIdx p → k < l.length → p (l.getD k z) = false → k + 1 ≤ l.findIdx p
  | [], k, _, h, _ => absurd h (Nat.not_lt_zero _)
  | x :: l, 0, _, _, h => by rw [List.findIdx_cons]; rw [List.getD_cons_zero] at h; rw [h]; simp
  | x :: l, k + 1, hk, hl, h => by
    rw [List.findIdx_cons] at hk ⊢
    cases hx : p x with
    | true => rw [hx] at hk; exact absurd hk (by simp)
    | false =>
      rw [hx] at hk
      simp only [cond_false] at hk ⊢
      have := fidx_miss (p := p) (l := l) (z := z) (k := k) (by omega) (by simpa using hl) (by rw [List.getD_cons_succ] at h; exact h)
      omega
/-! ### readings as nested rows -/
theorem rdM_nil (g : Nat → Nat → AV) (gg : Nat → Nat → Nat → AV) (len : Nat → Nat) : MOle (.mat 47 3 0 g 2 3 1 len gg none) (rdM []) :=
  MOle.mat' rfl (fun i j hi => absurd hi (Nat.not_lt_zero _)) (fun i hi => absurd hi (Nat.not_lt_zero _))
theorem rdM_app (l : List Rd) (nn : Bool) (text : ByteArray) (g : Nat → Nat → AV) (h0 : Le (g 0 0) (.bool nn)) (h1 : Le (g 0 1) (.str text)) :
    MOle (.mat 47 3 (l.length + 1) (joinRow l.length (rdG l) g) 2 3 1 (fun i => if i < l.length then rdN l i else 0) (fun i => if i < l.length then rdW l i else fun _ _ => .u) none) (rdM (l ++ [⟨nn, text, []⟩])) := by
  have ha : ∀ i, i < l.length → (l ++ [(⟨nn, text, []⟩ : Rd)]).getD i rd0 = l.getD i rd0 := fun i hi => getD_app1 hi
  have hz : (l ++ [(⟨nn, text, []⟩ : Rd)]).getD l.length rd0 = ⟨nn, text, []⟩ := getD_app2
  refine MOle.mat' (by simp) (fun i j hi hj hne => ?_) (fun i hi _ => ?_)
  · unfold joinRow rdG
    by_cases hil : i < l.length
    · rw [if_pos hil, ha i hil]; exact Le.refl _
    · obtain rfl : i = l.length := by omega
      rw [if_neg hil, hz, Nat.sub_self]
      match j, hj, hne with
      | 0, _, _ => exact h0
      | 1, _, _ => exact h1
      | 2, _, h => exact absurd rfl h
  · unfold rdN rdW
    by_cases hil : i < l.length
    · rw [if_pos hil, if_pos hil, ha i hil]
      exact ⟨rfl, fun _ _ _ _ => Le.refl _⟩
    · obtain rfl : i = l.length := by omega
      rw [if_neg hil, if_neg hil, hz]
      exact ⟨rfl, fun a b ha' => absurd ha' (Nat.not_lt_zero _)⟩
theorem rdM_push (l : List Rd) (k : Nat) (i : Int) (hk : k < l.length) (g : Nat → Nat → AV) (hg : g 0 0 = .int .i64 i) :
    MOle (.mat 47 3 l.length (rdG l) 2 3 1 (updIn (rdN l) k (rdN l k + 1)) (updIn (rdW l) k (joinRow (rdN l k) (rdW l k) g)) none) (rdM (pushW l k i)) := by
  have ho : ∀ j, j ≠ k → (pushW l k i).getD j rd0 = l.getD j rd0 := fun j hj => by unfold pushW; simp [List.getD, List.getElem?_set_ne (Ne.symm hj)]
  have hs : (pushW l k i).getD k rd0 = ⟨(l.getD k rd0).none, (l.getD k rd0).text, (l.getD k rd0).wits ++ [i]⟩ := by unfold pushW; rw [List.getD, List.getElem?_set_self hk]; rfl
  refine MOle.mat' (push_len l k i).symm (fun j c hj hc hne => ?_) (fun j hj _ => ?_)
  · unfold rdG
    by_cases e : j = k
    · subst e; rw [hs]; exact Le.refl _
    · rw [ho j e]; exact Le.refl _
  · unfold updIn
    by_cases e : j = k
    · subst e
      rw [if_pos rfl, if_pos rfl]
      unfold rdN rdW
      rw [hs]
      refine ⟨by simp, fun a b ha hb => ?_⟩
      obtain rfl : b = 0 := by omega
      unfold joinRow Ty.G
      by_cases hal : a < (l.getD j rd0).wits.length
      · rw [if_pos hal]
        rw [getD_app1 hal]; exact Le.refl _
      · rw [if_neg hal]
        obtain rfl : a = (l.getD j rd0).wits.length := by omega
        rw [getD_app2, Nat.sub_self, hg]; exact Le.refl _
    · rw [if_neg e, if_neg e]
      unfold rdN rdW
      rw [ho j e]
      exact ⟨rfl, fun _ _ _ _ => Le.refl _⟩
/-- Readings handed back. -/
theorem rdM_out (l : List Rd) : Le (.sl l.length 3 (fun i j => cond (Nat.beq j 2) (.sl (rdN l i) 1 (rdW l i)) (rdG l i j))) (tRd.L l) :=
  Le.sl (fun i j hi hj => by
    match j, hj with
    | 0, _ => exact Le.refl _
    | 1, _ => exact Le.refl _
    | 2, _ => exact Le.refl _)
end Go.Proofs.YtnadacaoehpdnaaDoor.V

namespace Go.Proofs.YtnadacaoehpdnaaDoor.V
set_option linter.unusedVariables false
set_option linter.unusedSimpArgs false
open Go Go.Proofs Go.RowKit
set_option maxRecDepth 100000
set_option maxHeartbeats 4000000
/-- A small rune is its byte. -/
theorem dec_small (s : ByteArray) (p : Nat) (h : (Utf8.decode s p).1 < 128) : bt s p = ((Utf8.decode s p).1 : Nat) ∧ (Utf8.decode s p).2 = 1 := by
  have hb := bt_lt s p
  rw [dec_at] at h ⊢
  have k0 := bt_lt s (p + 1)
  rcases Lib.decodeN_shape (s.size - p) (bt s p).toNat (bt s (p + 1)).toNat (bt s (p + 2)).toNat (bt s (p + 3)).toNat with ⟨c, e⟩ | ⟨c1, c2, c3, cv, e⟩ | ⟨c1, c2, c3, c4, cv, cs, e⟩ | ⟨c1, c2, c3, c4, c5, cv, cw, e⟩ | e
  all_goals (rw [e] at h ⊢; simp only at h ⊢)
  · exact ⟨by omega, trivial⟩
  all_goals (exfalso; omega)
theorem named_fn (s : ByteArray) : Fn Tryd.prog 42 [.str s] (.bool (decide (NameOk s))) := by
  refine Fn.of Tryd.f42 _ Tryd.func42 rfl (by decide) (by show 1 ≤ _; decide) tbOk 40 rfl fun S w0 gl => ?_
  have hno : ¬ NameOk s → decide (NameOk s) = false := fun h => decide_eq_false h
  have hz : s.size = 0 ↔ s = ⟨#[]⟩ := ⟨fun h => by
    apply ByteArray.ext
    exact Array.eq_empty_of_size_eq_zero h, fun h => by rw [h]; rfl⟩
  refine Run.go ?_; (conv => whnf); repeat' (first | ((with_reducible refine Know.mk fun _ => ?_); conv => whnf) | ((with_reducible refine Need.mk ?_ ?_); exact nd; conv => whnf) | ((with_reducible first | refine Both.mk ?_ ?_ | refine Any.mk fun b hb => ?_ | refine AskB.dec (fun hb => ?_) (fun hb => ?_) | refine AskB.ndec (fun hb => ?_) (fun hb => ?_) | refine AskB.mk (fun hb => ?_) (fun hb => ?_)) <;> conv => whnf) | ((with_reducible first | refine Run.drawX rfl (by decide +kernel) ?_ | refine Run.drawT rfl (by decide +kernel) ?_ | refine Run.drawW rfl (by decide +kernel) ?_); conv => whnf))
  · exact Run.leave (ts := [2]) (.inr ⟨_, rfl⟩) rfl Tryd.func42 rfl (Le.ff.trans (Le.bool (hno (fun h => by have := h.1; have := hz.mpr hb; omega)).symm))
  · exact Run.leave (ts := [2]) (.inr ⟨_, rfl⟩) rfl Tryd.func42 rfl (Le.ff.trans (Le.bool (hno (fun h => by have := h.2.1; omega)).symm))
  rename_i hne _
  have hs8 : s.size ≤ 8 := by omega
  have hs1 : 1 ≤ s.size := by
    have := mt hz.mp hne
    omega
  refine Run.loop [0, 13] (fun (p : Nat) => []) (fun p => [(13, .iter s p)]) (fun p => p ≤ s.size ∧ ∀ i, i < p → alnum (bt s i)) (fun p => s.size - p) 0 ⟨Nat.zero_le _, fun i hi => absurd hi (Nat.not_lt_zero _)⟩ trivial ⟨MOle.refl _, trivial⟩ ?_
  intro p ⟨hp, ha⟩ IH
  have hsm := dec_small s p
  show Run _ _ (lst (_ ++ [])) (lstH [(13, .iter s p)])
  refine Run.go ?_; (conv => whnf); repeat' (first | ((with_reducible refine Know.mk fun _ => ?_); conv => whnf) | ((with_reducible refine Need.mk ?_ ?_); exact nd; conv => whnf) | ((with_reducible refine Both.mk ?_ ?_) <;> conv => whnf) | ((with_reducible refine Any.mk fun b hb => ?_); conv => whnf) | ((with_reducible first | refine AskB.dec (fun hb => ?_) (fun hb => ?_) | refine AskB.ndec (fun hb => ?_) (fun hb => ?_) | refine AskB.mk (fun hb => ?_) (fun hb => ?_)) <;> first | (exfalso; omega) | (conv => whnf)) | ((with_reducible first | refine Run.drawX rfl (by decide +kernel) ?_ | refine Run.drawT rfl (by decide +kernel) ?_ | refine Run.drawW rfl (by decide +kernel) ?_); conv => whnf))
  all_goals try (
    have hps : p < s.size := by omega
    have hr : (Utf8.decode s p).1 < 128 := by omega
    obtain ⟨h1, h2⟩ := hsm hr
    have hal : alnum (bt s p) := by unfold alnum; omega
    refine Run.to _ _ ?_ ?_ (IH (p + 1) (by omega) ⟨by omega, fun i hi => ?_⟩)
    · exact ⟨Le.refl _, Le.refl _, trivial⟩
    · rw [h2]; exact ⟨MOle.refl _, trivial⟩
    · by_cases e : i = p
      · subst e; exact hal
      · exact ha i (by omega))
  all_goals try (
    have hps : p < s.size := by omega
    refine Run.leave (ts := [2]) (.inr ⟨_, rfl⟩) rfl Tryd.func42 rfl (Le.ff.trans (Le.bool (hno (fun h => ?_)).symm))
    have hal := h.2.2 p hps
    have h128 : bt s p < 128 := by unfold alnum at hal; omega
    have hd := dec_ascii h128
    have hbl := bt_lt s p
    have h1 : (((Utf8.decode s p).1 : Nat) : Int) = bt s p := by rw [hd]; simp only []; omega
    unfold alnum at hal
    omega)
  all_goals (
    refine Run.leave (ts := [2]) (.inr ⟨_, rfl⟩) rfl Tryd.func42 rfl (Le.tt.trans (Le.bool (decide_eq_true ⟨hs1, hs8, fun i hi => ha i (by omega)⟩).symm)))
theorem name_fn (s : ByteArray) : Fn Tryd.prog 52 [.str s] (.bool (decide (NameOk s))) := by
  refine Fn.of Tryd.f52 _ Tryd.func52 rfl (by decide) (by show 1 ≤ _; decide) tbOk 45 rfl fun S w0 gl => ?_
  have hno : ¬ NameOk s → decide (NameOk s) = false := fun h => decide_eq_false h
  refine Run.go ?_; (conv => whnf); repeat' (first | ((with_reducible refine Know.mk fun _ => ?_); conv => whnf) | ((with_reducible refine Need.mk ?_ ?_); exact nd; conv => whnf) | ((with_reducible first | refine Both.mk ?_ ?_ | refine Any.mk fun b hb => ?_ | refine AskB.dec (fun hb => ?_) (fun hb => ?_) | refine AskB.ndec (fun hb => ?_) (fun hb => ?_) | refine AskB.mk (fun hb => ?_) (fun hb => ?_)) <;> conv => whnf) | ((with_reducible first | refine Run.drawX rfl (by decide +kernel) ?_ | refine Run.drawT rfl (by decide +kernel) ?_ | refine Run.drawW rfl (by decide +kernel) ?_); conv => whnf))
  · exact Run.leave (ts := [2]) (.inr ⟨_, rfl⟩) rfl Tryd.func52 rfl (Le.ff.trans (Le.bool (hno (fun h => by have := h.1; omega)).symm))
  · exact Run.leave (ts := [2]) (.inr ⟨_, rfl⟩) rfl Tryd.func52 rfl (Le.ff.trans (Le.bool (hno (fun h => by have := h.2.1; omega)).symm))
  have hs8 : s.size ≤ 8 := by omega
  have hs1 : 1 ≤ s.size := by omega
  refine Run.loop [0] (fun (p : Nat) => [(3, .int .i64 (p : Int))]) (fun p => []) (fun p => p ≤ s.size ∧ ∀ i, i < p → alnum (bt s i)) (fun p => s.size - p) 0 ⟨Nat.zero_le _, fun i hi => absurd hi (Nat.not_lt_zero _)⟩ ⟨Le.refl _, trivial⟩ trivial ?_
  intro p ⟨hp, ha⟩ IH
  have hwp : IntKind.i64.wrap ((p : Int) + 1) = ((p + 1 : Nat) : Int) := wrap64 (by omega) (by omega)
  refine Run.go ?_; (conv => whnf); repeat' (first | ((with_reducible refine Know.mk fun _ => ?_); conv => whnf) | ((with_reducible refine Need.mk ?_ ?_); exact nd; conv => whnf) | ((with_reducible refine Both.mk ?_ ?_) <;> conv => whnf) | ((with_reducible refine Any.mk fun b hb => ?_); conv => whnf) | ((with_reducible first | refine AskB.dec (fun hb => ?_) (fun hb => ?_) | refine AskB.ndec (fun hb => ?_) (fun hb => ?_) | refine AskB.mk (fun hb => ?_) (fun hb => ?_)) <;> first | (exfalso; omega) | (conv => whnf)) | ((with_reducible first | refine Run.drawX rfl (by decide +kernel) ?_ | refine Run.drawT rfl (by decide +kernel) ?_ | refine Run.drawW rfl (by decide +kernel) ?_); conv => whnf))
  all_goals try (
    have hps : p < s.size := by omega
    have hal : alnum (bt s p) := by unfold alnum; simp only [Int.toNat_natCast] at *; omega
    refine Run.to _ _ ?_ ?_ (IH (p + 1) (by omega) ⟨by omega, fun i hi => ?_⟩)
    · exact ⟨Le.refl _, Le.int hwp, trivial⟩
    · trivial
    · by_cases e : i = p
      · subst e; exact hal
      · exact ha i (by omega))
  all_goals try (
    have hps : p < s.size := by omega
    refine Run.leave (ts := [2]) (.inr ⟨_, rfl⟩) rfl Tryd.func52 rfl (Le.ff.trans (Le.bool (hno (fun h => ?_)).symm))
    have hal := h.2.2 p hps
    unfold alnum at hal
    simp only [Int.toNat_natCast] at *
    omega)
  all_goals (
    refine Run.leave (ts := [2]) (.inr ⟨_, rfl⟩) rfl Tryd.func52 rfl (Le.tt.trans (Le.bool (decide_eq_true ⟨hs1, hs8, fun i hi => ha i (by omega)⟩).symm)))
end Go.Proofs.YtnadacaoehpdnaaDoor.V

namespace Go.Proofs.YtnadacaoehpdnaaDoor.V
set_option linter.unusedVariables false
set_option linter.unusedSimpArgs false
open Go Go.Proofs Go.RowKit
set_option maxRecDepth 100000
set_option maxHeartbeats 4000000
theorem tot_le {t : Tab} (hf : FitT t) : ∀ n, n ≤ t.wits.length → sumR (lens t) n ≤ n * 2000000
  | 0, _ => by simp [sumR]
  | n + 1, h => by
    have h1 := tot_le hf n (by omega)
    have h2 := (hf.wit (t.wits.getD n wit0) (getD_mem' n (by omega))).2.1
    simp only [sumR, lens, witAt] at *
    rw [Nat.add_mul]; omega
theorem ins_mem {α : Type} [DecidableEq α] (k : α) : ∀ (l : List α) (x : α), x ∈ ins k l ↔ x = k ∨ x ∈ l
  | [], x => by simp [ins]
  | p :: l, x => by
    unfold ins
    split
    · rename_i e; subst e; simp
    · rw [List.mem_cons, ins_mem k l x, List.mem_cons]
      constructor
      · rintro (h | h | h)
        · exact .inr (.inl h)
        · exact .inl h
        · exact .inr (.inr h)
      · rintro (h | h | h)
        · exact .inr (.inl h)
        · exact .inl h
        · exact .inr (.inr h)
theorem check_fn (t : Tab) (hf : FitT t) : Fn Tryd.prog 18 [tbA t] (.int .i64 (chkT t)) := by
  refine Fn.of Tryd.f18 _ Tryd.func18 rfl (by decide) (by show 1 ≤ _; decide) tbOk 124 rfl fun S w0 gl => ?_
  have hno : ∀ {P : Prop}, (OkT t → ¬ P) → P → chkT t = 121 := fun h p => chk_no (fun o => h o p)
  have hfw := hf.wits
  have hfc := hf.cols
  refine Run.go ?_; (conv => whnf); repeat' (first | ((with_reducible refine Know.mk fun _ => ?_); conv => whnf) | ((with_reducible refine Need.mk ?_ ?_); exact nd; conv => whnf) | ((with_reducible first | refine Both.mk ?_ ?_ | refine Any.mk fun b hb => ?_ | refine AskB.dec (fun hb => ?_) (fun hb => ?_) | refine AskB.ndec (fun hb => ?_) (fun hb => ?_) | refine AskB.mk (fun hb => ?_) (fun hb => ?_)) <;> conv => whnf) | ((with_reducible first | refine Run.drawX rfl (by decide +kernel) ?_ | refine Run.drawT rfl (by decide +kernel) ?_ | refine Run.drawW rfl (by decide +kernel) ?_); conv => whnf))
  · exact Run.leave (ts := [2]) (.inr ⟨_, rfl⟩) rfl Tryd.func18 rfl (Le.int (hno (fun o h => by have := o.n1; omega) hb).symm)
  · exact Run.leave (ts := [2]) (.inr ⟨_, rfl⟩) rfl Tryd.func18 rfl (Le.int (hno (fun o h => by have := o.n12; omega) hb).symm)
  · exact Run.leave (ts := [2]) (.inr ⟨_, rfl⟩) rfl Tryd.func18 rfl (Le.int (hno (fun o h => by have := o.nc; omega) hb).symm)
  have hn1 : 1 ≤ t.wits.length := by omega
  have hn12 : t.wits.length ≤ 12 := by omega
  have hnc : t.cols.length ≤ 4096 := by omega
  have htl := tot_le hf
  refine Run.loop [3, 31, 32] (fun (a : Nat × List ByteArray) => [(1, .box 1 0), (4, .int .i64 ((sumR (lens t) a.1 : Nat) : Int)), (33, .int .i64 (a.1 : Int))]) (fun a => [(1, .box 25 [tWit.L t.wits, tIL.L t.cols]), (29, .mp (.sb a.2))])
    (fun a => a.1 ≤ t.wits.length ∧ (∀ i, i < a.1 → WitOk t i) ∧ ∀ s, s ∈ a.2 ↔ ∃ k, k < a.1 ∧ (witAt t k).name = s) (fun a => t.wits.length - a.1) (0, []) ⟨Nat.zero_le _, fun i hi => absurd hi (Nat.not_lt_zero _), fun s => ⟨fun h => (by cases h), fun ⟨k, hk, _⟩ => absurd hk (Nat.not_lt_zero _)⟩⟩
    ⟨Le.refl _, Le.refl _, Le.refl _, trivial⟩ ⟨MOle.refl _, MOle.refl _, trivial⟩ ?_
  intro ⟨i, l⟩ ⟨hi, hwk, hl⟩ IH
  simp only [] at hi hwk hl ⊢
  have hwi : IntKind.i64.wrap ((i : Int) + 1) = ((i + 1 : Nat) : Int) := wrap64 (by omega) (by omega)
  have hti := htl i hi
  refine Run.go ?_; (conv => whnf); repeat' (first | ((with_reducible refine Know.mk fun _ => ?_); conv => whnf) | ((with_reducible refine Need.mk ?_ ?_); exact nd; conv => whnf) | ((with_reducible first | refine Both.mk ?_ ?_ | refine Any.mk fun b hb => ?_ | refine AskB.dec (fun hb => ?_) (fun hb => ?_) | refine AskB.ndec (fun hb => ?_) (fun hb => ?_) | refine AskB.mk (fun hb => ?_) (fun hb => ?_)) <;> conv => whnf) | ((with_reducible first | refine Run.drawX rfl (by decide +kernel) ?_ | refine Run.drawT rfl (by decide +kernel) ?_ | refine Run.drawW rfl (by decide +kernel) ?_); conv => whnf))
  · have hil : i < t.wits.length := by omega
    have hwt := hf.wit (witAt t i) (getD_mem' i hil)
    refine Run.callBX (named_fn (witAt t i).name) rfl rfl ⟨Le.refl _, trivial⟩ rfl rfl rfl ?_
    (conv => whnf); repeat' (first | ((with_reducible refine Know.mk fun _ => ?_); conv => whnf) | ((with_reducible refine Need.mk ?_ ?_); exact nd; conv => whnf) | ((with_reducible first | refine Both.mk ?_ ?_ | refine Any.mk fun b hb => ?_ | refine AskB.dec (fun hb => ?_) (fun hb => ?_) | refine AskB.ndec (fun hb => ?_) (fun hb => ?_) | refine AskB.mk (fun hb => ?_) (fun hb => ?_)) <;> conv => whnf) | ((with_reducible first | refine Run.drawX rfl (by decide +kernel) ?_ | refine Run.drawT rfl (by decide +kernel) ?_ | refine Run.drawW rfl (by decide +kernel) ?_); conv => whnf))
    · have hk : ¬ WitOk t i := fun h => by
        have hd := (hasK_iff _ _).mp hb
        obtain ⟨k, hk1, hk2⟩ := (hl _).mp hd
        exact h.2.2 k hk1 hk2
      exact Run.leave (ts := [2]) (.inr ⟨_, rfl⟩) rfl Tryd.func18 rfl (Le.int (hno (fun o h => h (o.wit i hil)) hk).symm)
    · refine Run.callBX (right19_fn (witAt t i).head (witAt t i).words hwt.1) rfl rfl ⟨Le.refl _, Le.refl _, trivial⟩ rfl rfl rfl ?_
      (conv => whnf); repeat' (first | ((with_reducible refine Know.mk fun _ => ?_); conv => whnf) | ((with_reducible refine Need.mk ?_ ?_); exact nd; conv => whnf) | ((with_reducible first | refine Both.mk ?_ ?_ | refine Any.mk fun b hb => ?_ | refine AskB.dec (fun hb => ?_) (fun hb => ?_) | refine AskB.ndec (fun hb => ?_) (fun hb => ?_) | refine AskB.mk (fun hb => ?_) (fun hb => ?_)) <;> conv => whnf) | ((with_reducible first | refine Run.drawX rfl (by decide +kernel) ?_ | refine Run.drawT rfl (by decide +kernel) ?_ | refine Run.drawW rfl (by decide +kernel) ?_); conv => whnf))
      · have hk : ¬ WitOk t i := fun h => by rw [h.2.1] at hb; cases hb
        exact Run.leave (ts := [2]) (.inr ⟨_, rfl⟩) rfl Tryd.func18 rfl (Le.int (hno (fun o h => h (o.wit i hil)) hk).symm)
      · have hwt2 := hwt.2.1
        have hok : WitOk t i := ⟨by assumption, by simpa using hb, fun k hk e => (hasK_not _ _).mp (by assumption) ((hl _).mpr ⟨k, hk, e⟩)⟩
        refine Run.to _ _ ?_ ?_ (IH (i + 1, ins (witAt t i).name l) (by simp only []; omega) ⟨by simp only []; omega, fun k hk => ?_, fun s => ?_⟩)
        · refine ⟨Le.refl _, Le.refl _, Le.refl _, Le.refl _, Le.int ?_, Le.int hwi, trivial⟩
          show IntKind.i64.wrap ((sumR (lens t) i : Nat) + ((witAt t i).words.length : Int)) = _
          rw [wrap64 (by omega) (by omega)]
          simp only [sumR, lens]; omega
        · exact ⟨MOle.refl _, MOle.refl _, trivial⟩
        · by_cases e : k = i
          · subst e; exact hok
          · exact hwk k (by omega)
        · rw [ins_mem, hl]
          constructor
          · rintro (rfl | ⟨k, hk, rfl⟩)
            · exact ⟨i, Nat.lt_succ_self i, rfl⟩
            · exact ⟨k, Nat.lt_succ_of_lt hk, rfl⟩
          · rintro ⟨k, hk, rfl⟩
            by_cases e : k = i
            · subst e; exact .inl rfl
            · exact .inr ⟨k, by omega, rfl⟩
    · have hk : ¬ WitOk t i := fun h => hb h.1
      exact Run.leave (ts := [2]) (.inr ⟨_, rfl⟩) rfl Tryd.func18 rfl (Le.int (hno (fun o h => h (o.wit i hil)) hk).symm)
  obtain rfl : i = t.wits.length := by omega
  clear IH
  have htot : tot t ≤ 24000000 := by
    have := htl t.wits.length (Nat.le_refl _)
    unfold tot; omega
  refine Run.loop [1, 69, 70] (fun (c : Nat) => [(4, .int .i64 ((tot t - sumN t c 0 : Nat) : Int)), (7, .row 67), (71, .int .i64 (c : Int))]) (fun c => [(1, .box 25 [tWit.L t.wits, tIL.L t.cols]), (67, tI.R 3 (nextL t c 0))])
    (fun c => c ≤ t.cols.length ∧ (∀ k, k < c → ColOk t k) ∧ LeT t c 0) (fun c => t.cols.length - c) 0 ⟨Nat.zero_le _, fun i hi => absurd hi (Nat.not_lt_zero _), fun j hj => by simp [nx, cnt]⟩
    ⟨Le.int ?_, Le.refl _, Le.refl _, trivial⟩ ⟨MOle.refl _, ?_, trivial⟩ ?_
  · have : sumN t 0 0 = 0 := by
      unfold sumN
      have h0 : ∀ n, sumR (nx t 0 0) n = 0 := fun n => by
        induction n with
        | zero => rfl
        | succ n ih => simp only [sumR, ih]; simp [nx, cnt]
      exact h0 _
    rw [this, Nat.sub_zero]; rfl
  · rw [nextL_zero]
    refine ⟨rfl, rfl, by simp, fun i j hi hj => ?_⟩
    obtain rfl : j = 0 := by have : j < 1 := hj; omega
    refine Le.int ?_
    have hi' : i < t.wits.length := by simpa using hi
    rw [List.getD, List.getElem?_replicate, if_pos hi']; rfl
  intro c ⟨hc, hck, hle⟩ IH
  have hwc : IntKind.i64.wrap ((c : Int) + 1) = ((c + 1 : Nat) : Int) := wrap64 (by omega) (by omega)
  have hs0 := le_sum hle
  have hnl := nextL_len t c 0
  show Run _ _ (lst (_ ++ [(4, .int .i64 ((tot t - sumN t c 0 : Nat) : Int)), (7, .row 67), (71, .int .i64 (c : Int))])) (lstH [(1, .box 25 [tWit.L t.wits, tIL.L t.cols]), (67, tI.R 3 (nextL t c 0))])
  have hcl : c < t.cols.length → (t.cols.getD (c : Int).toNat tIL.z).length ≤ 2000000 := fun h => hf.col _ (getD_mem' c h)
  refine Run.go ?_; (conv => whnf); repeat' (first | ((with_reducible refine Know.mk fun _ => ?_); conv => whnf) | ((with_reducible refine Need.mk ?_ ?_); exact nd; conv => whnf) | ((with_reducible refine Both.mk ?_ ?_) <;> conv => whnf) | ((with_reducible refine Any.mk fun b hb => ?_); conv => whnf) | ((with_reducible first | refine AskB.dec (fun hb => ?_) (fun hb => ?_) | refine AskB.ndec (fun hb => ?_) (fun hb => ?_) | refine AskB.mk (fun hb => ?_) (fun hb => ?_)) <;> first | (exfalso; omega) | (conv => whnf)) | ((with_reducible first | refine Run.drawX rfl (by decide +kernel) ?_ | refine Run.drawT rfl (by decide +kernel) ?_ | refine Run.drawW rfl (by decide +kernel) ?_); conv => whnf))
  all_goals try (exfalso; omega)
  · have hcc : c < t.cols.length := by omega
    have hlen : (t.cols.getD c []).length = t.wits.length := by
      have h2 : (t.cols.getD (c : Int).toNat tIL.z).length = t.wits.length := by omega
      exact h2
    refine Run.loop [1, 10, 69, 70, 71, 81, 82] (fun (i : Nat) => [(4, .int .i64 ((tot t - sumN t c i : Nat) : Int)), (7, .row 67), (83, .int .i64 (i : Int))]) (fun i => [(1, .box 25 [tWit.L t.wits, tIL.L t.cols]), (67, tI.R 3 (nextL t c i))])
      (fun i => i ≤ t.wits.length ∧ LeT t c i ∧ (∀ k, k < i → atC t c k = -1 ∨ (atC t c k = (cnt (t.cols.take c) k : Nat) ∧ cnt (t.cols.take c) k < (witAt t k).words.length)) ∧ (sumN t c i = sumN t c 0 → ∀ k, k < i → atC t c k = -1)) (fun i => t.wits.length - i) 0 ⟨Nat.zero_le _, hle, fun i hi => absurd hi (Nat.not_lt_zero _), fun _ i hi => absurd hi (Nat.not_lt_zero _)⟩
      ⟨Le.refl _, Le.refl _, Le.refl _, trivial⟩ ⟨MOle.refl _, MOle.refl _, trivial⟩ ?_
    intro i ⟨hi, hlei, hcells, hsame⟩ IHi
    have hwi : IntKind.i64.wrap ((i : Int) + 1) = ((i + 1 : Nat) : Int) := wrap64 (by omega) (by omega)
    have hsi := le_sum hlei
    have hnli := nextL_len t c i
    have hge : sumN t c 0 ≤ sumN t c i := sumR_le _ (fun j hj => by
      unfold nx
      rw [if_neg (Nat.not_lt_zero _)]
      split
      · rw [cnt_take _ _ _ hcc]; omega
      · exact Nat.le_refl _)
    show Run _ _ (lst (_ ++ [(4, .int .i64 ((tot t - sumN t c i : Nat) : Int)), (7, .row 67), (83, .int .i64 (i : Int))])) (lstH [(1, .box 25 [tWit.L t.wits, tIL.L t.cols]), (67, tI.R 3 (nextL t c i))])
    by_cases hil : i < t.wits.length
    · have hx : (t.cols.getD (c : Int).toNat tIL.z).getD (i : Int).toNat tI.z = atC t c i := rfl
      have hn : (nextL t c i).getD (i : Int).toNat tI.z = ((cnt (t.cols.take c) i : Nat) : Int) := by
        have := nextL_at t c i i hil
        rw [nx_same] at this; exact this
      have hlw : lens t i ≤ 2000000 := (hf.wit (witAt t i) (getD_mem' i hil)).2.1
      have hcnt : cnt (t.cols.take c) i ≤ lens t i := by
        have := hlei i hil
        rw [nx_same] at this; exact this
      have hlw2 : (t.wits.getD (i : Int).toNat tWit.z).words.length = lens t i := rfl
      refine Run.go ?_; (conv => whnf); repeat' (first | ((with_reducible refine Know.mk fun _ => ?_); conv => whnf) | ((with_reducible refine Need.mk ?_ ?_); exact nd; conv => whnf) | ((with_reducible refine Both.mk ?_ ?_) <;> conv => whnf) | ((with_reducible refine Any.mk fun b hb => ?_); conv => whnf) | ((with_reducible first | refine AskB.dec (fun hb => ?_) (fun hb => ?_) | refine AskB.ndec (fun hb => ?_) (fun hb => ?_) | refine AskB.mk (fun hb => ?_) (fun hb => ?_)) <;> first | (exfalso; omega) | (conv => whnf)) | ((with_reducible first | refine Run.drawX rfl (by decide +kernel) ?_ | refine Run.drawT rfl (by decide +kernel) ?_ | refine Run.drawW rfl (by decide +kernel) ?_); conv => whnf))
      all_goals try (exfalso; omega)
      · have hm : atC t c i = -1 := by omega
        refine Run.to _ _ ?_ ?_ (IHi (i + 1) (by omega) ⟨by omega, le_none hcc hlei hm, fun k hk => ?_, fun he k hk => ?_⟩)
        · refine ⟨Le.refl _, Le.refl _, Le.refl _, Le.refl _, Le.refl _, Le.refl _, Le.refl _, ?_, Le.refl _, Le.int hwi, trivial⟩
          rw [sumN_none hcc hm]; exact Le.refl _
        · refine ⟨MOle.refl _, ?_, trivial⟩
          rw [nextL_none hcc hm]; exact MOle.refl _
        · by_cases e : k = i
          · subst e; exact .inl hm
          · exact hcells k (by omega)
        · rw [sumN_none hcc hm] at he
          by_cases e : k = i
          · subst e; exact hm
          · exact hsame he k (by omega)
      · have hxe : atC t c i = ((cnt (t.cols.take c) i : Nat) : Int) := by omega
        have hne : atC t c i ≠ -1 := by omega
        have hlt : cnt (t.cols.take c) i < lens t i := by omega
        have hle2 := le_some hcc hlei hne (by rw [nx_same]; exact hlt)
        have hs2 := le_sum hle2
        have hsm := sumN_some hcc hil hne
        refine Run.to _ _ ?_ ?_ (IHi (i + 1) (by omega) ⟨by omega, hle2, fun k hk => ?_, fun he => ?_⟩)
        · refine ⟨Le.refl _, Le.refl _, Le.refl _, Le.refl _, Le.refl _, Le.refl _, Le.refl _, Le.int ?_, Le.refl _, Le.int hwi, trivial⟩
          rw [wrap64 (by omega) (by omega)]; omega
        · refine ⟨MOle.refl _, ?_, trivial⟩
          rw [nextL_some hcc hil hne]
          refine tI.set 3 (nextL t c i) i _ (by omega) _ rfl (Le.one (Le.int ?_))
          rw [hn, nx_same, wrap64 (by omega) (by omega)]
        · by_cases e : k = i
          · subst e; exact .inr ⟨hxe, hlt⟩
          · exact hcells k (by omega)
        · omega
      all_goals
        have hk : ¬ ColOk t c := fun h => by
          rcases h.2.1 i hil with h1 | ⟨h1, h2⟩
          · omega
          · have h3 : cnt (t.cols.take c) i < lens t i := h2
            omega
        exact Run.leave (ts := [2]) (.inr ⟨_, rfl⟩) rfl Tryd.func18 rfl (Le.int (hno (fun o h => h (o.col c hcc)) hk).symm)
    · obtain rfl : i = t.wits.length := by omega
      refine Run.go ?_; (conv => whnf); repeat' (first | ((with_reducible refine Know.mk fun _ => ?_); conv => whnf) | ((with_reducible refine Need.mk ?_ ?_); exact nd; conv => whnf) | ((with_reducible refine Both.mk ?_ ?_) <;> conv => whnf) | ((with_reducible refine Any.mk fun b hb => ?_); conv => whnf) | ((with_reducible first | refine AskB.dec (fun hb => ?_) (fun hb => ?_) | refine AskB.ndec (fun hb => ?_) (fun hb => ?_) | refine AskB.mk (fun hb => ?_) (fun hb => ?_)) <;> first | (exfalso; omega) | (conv => whnf)) | ((with_reducible first | refine Run.drawX rfl (by decide +kernel) ?_ | refine Run.drawT rfl (by decide +kernel) ?_ | refine Run.drawW rfl (by decide +kernel) ?_); conv => whnf))
      all_goals try (exfalso; omega)
      · have hk : ¬ ColOk t c := fun h => by
          obtain ⟨k, hk1, hk2⟩ := h.2.2
          exact hk2 (hsame (by omega) k hk1)
        exact Run.leave (ts := [2]) (.inr ⟨_, rfl⟩) rfl Tryd.func18 rfl (Le.int (hno (fun o h => h (o.col c hcc)) hk).symm)
      · have hok : ColOk t c := ⟨hlen, hcells, by
          refine Classical.byContradiction fun hno' => ?_
          have hall : ∀ k, k < t.wits.length → atC t c k = -1 := fun k hk => Classical.byContradiction fun h => hno' ⟨k, hk, h⟩
          have hz : ∀ n, n ≤ t.wits.length → sumN t c n = sumN t c 0 := fun n => by
            induction n with
            | zero => intro _; rfl
            | succ n ih => intro h; rw [sumN_none hcc (hall n (by omega)), ih (by omega)]
          have := hz _ (Nat.le_refl _)
          omega⟩
        refine Run.to _ _ ?_ ?_ (IH (c + 1) (by omega) ⟨by omega, fun k hk => ?_, le_end hlei⟩)
        · refine ⟨Le.refl _, Le.refl _, Le.refl _, ?_, Le.refl _, Le.int hwc, trivial⟩
          rw [← sumN_end]; exact Le.refl _
        · refine ⟨MOle.refl _, ?_, trivial⟩
          rw [← nextL_end]; exact MOle.refl _
        · by_cases e : k = c
          · subst e; exact hok
          · exact hck k (by omega)
  · have hcc : c < t.cols.length := by omega
    have hk : ¬ ColOk t c := fun h => by
      have h1 := h.1
      have h2 : (t.cols.getD (c : Int).toNat tIL.z).length = t.wits.length := h1
      omega
    exact Run.leave (ts := [2]) (.inr ⟨_, rfl⟩) rfl Tryd.func18 rfl (Le.int (hno (fun o h => h (o.col c hcc)) hk).symm)
  all_goals obtain rfl : c = t.cols.length := by omega
  · refine Run.leave (ts := [2]) (.inr ⟨_, rfl⟩) rfl Tryd.func18 rfl (Le.int (hno (fun o h => ?_) hb).symm)
    have := sum_of o.all
    omega
  · refine Run.leave (ts := [2]) (.inr ⟨_, rfl⟩) rfl Tryd.func18 rfl (Le.int (chk_ok ⟨hn1, hn12, hnc, hwk, hck, all_of hle (by omega)⟩).symm)
end Go.Proofs.YtnadacaoehpdnaaDoor.V

namespace Go.Proofs.YtnadacaoehpdnaaDoor.V
set_option linter.unusedVariables false
set_option linter.unusedSimpArgs false
open Go Go.Proofs Go.RowKit
set_option maxRecDepth 100000
set_option maxHeartbeats 4000000
open Go Go.Proofs Go.Proofs.YtnadacaoehpdnaaDoor.V
theorem bytesG_join2 (e : Nat) (t a b : ByteArray) : MOle (.row e 1 (t.size + a.size + b.size) (joinRow (t.size + a.size) (joinRow t.size (bytesG t) (fun i _ => .int .u8 (bt a i))) (fun i _ => .int .u8 (bt b i)))) (.row e 1 (t ++ (a ++ b)).size (bytesG (t ++ (a ++ b)))) := by
  refine ⟨rfl, rfl, by simp [Nat.add_assoc], fun i j hi hj => ?_⟩
  unfold joinRow bytesG
  rw [bt_app, bt_app]
  by_cases hc : i < t.size
  · rw [if_pos (by omega), if_pos hc, if_pos hc]; exact Le.refl _
  · rw [if_neg hc, if_neg hc]
    by_cases hc2 : i < t.size + a.size
    · rw [if_pos hc2, if_pos (by omega)]; exact Le.refl _
    · rw [if_neg hc2, if_neg (by omega), Nat.sub_sub]; exact Le.refl _
theorem join20_fn (s : ByteArray) (l : List Wrd) (hl : l.length ≤ 1000000000) (hs : s.size + (catW l).size ≤ 1000000000000) : Fn Tryd.prog 68 [.str s, tWrd.L l] (.str (s ++ catW l)) := by
  refine Fn.of Tryd.f68 _ Tryd.func68 rfl (by decide) (by show 2 ≤ _; decide) tbOk 31 rfl fun S w0 gl => ?_
  refine Run.go ?_; (conv => whnf); repeat' (first | ((with_reducible refine Know.mk fun _ => ?_); conv => whnf) | ((with_reducible refine Need.mk ?_ ?_); exact nd; conv => whnf) | ((with_reducible first | refine Both.mk ?_ ?_ | refine Any.mk fun b hb => ?_ | refine AskB.dec (fun hb => ?_) (fun hb => ?_) | refine AskB.ndec (fun hb => ?_) (fun hb => ?_) | refine AskB.mk (fun hb => ?_) (fun hb => ?_)) <;> conv => whnf) | ((with_reducible first | refine Run.drawX rfl (by decide +kernel) ?_ | refine Run.drawT rfl (by decide +kernel) ?_ | refine Run.drawW rfl (by decide +kernel) ?_); conv => whnf))
  refine Run.toBytesR (d := 8) (e := 5) s rfl rfl rfl rfl rfl rfl (by kernel_rfl) (by kernel_rfl) (by kernel_rfl) ?_
  refine Run.go ?_; (conv => whnf); repeat' (first | ((with_reducible refine Know.mk fun _ => ?_); conv => whnf) | ((with_reducible refine Need.mk ?_ ?_); exact nd; conv => whnf) | ((with_reducible first | refine Both.mk ?_ ?_ | refine Any.mk fun b hb => ?_ | refine AskB.dec (fun hb => ?_) (fun hb => ?_) | refine AskB.ndec (fun hb => ?_) (fun hb => ?_) | refine AskB.mk (fun hb => ?_) (fun hb => ?_)) <;> conv => whnf) | ((with_reducible first | refine Run.drawX rfl (by decide +kernel) ?_ | refine Run.drawT rfl (by decide +kernel) ?_ | refine Run.drawW rfl (by decide +kernel) ?_); conv => whnf))
  refine Run.hold (z := 8) 5 1000 (by rfl) (by rfl) (by rfl) ?_
  have hT : ∀ i, (s ++ catW (l.take i)).size ≤ 1000000000000 := fun i => by
    have h1 := catW_takeLe l i
    rw [ByteArray.size_append]; omega
  refine Run.loop [1] (fun (i : Nat) => [(5, .row 1000), (6, .int .i64 (i : Int))]) (fun i => [(1000, .row 5 1 (s ++ catW (l.take i)).size (bytesG (s ++ catW (l.take i))))]) (fun i => i ≤ l.length) (fun i => l.length - i) 0 (Nat.zero_le _) ⟨Le.refl _, Le.refl _, trivial⟩ ⟨?_, trivial⟩ ?_
  · have : s = s ++ catW (l.take 0) := by simp [catW]
    rw [← this]; exact MOle.refl _
  intro i hi IH
  have hw1 : IntKind.i64.wrap ((i : Int) + 1) = ((i + 1 : Nat) : Int) := wrap64 (by omega) (by omega)
  have hTi := hT i
  have hTj := hT (i + 1)
  have hwi : i < l.length → (l.getD (i : Int).toNat tWrd.z).text.size + (l.getD (i : Int).toNat tWrd.z).tail.size ≤ 1000000000000 := fun hil => by
    simp only [Int.toNat_natCast]
    have h1 := catW_takeLe l (i + 1)
    rw [catW_take l i hil, ByteArray.size_append, ByteArray.size_append] at h1
    omega
  generalize hX : s ++ catW (l.take i) = X at hTi ⊢
  by_cases hil : i < l.length
  · have hwj := hwi hil
    refine Run.go ?_; (conv => whnf); repeat' (first | ((with_reducible refine Know.mk fun _ => ?_); conv => whnf) | ((with_reducible refine Need.mk ?_ ?_); exact nd; conv => whnf) | ((with_reducible first | refine Both.mk ?_ ?_ | refine Any.mk fun b hb => ?_ | refine AskB.dec (fun hb => ?_) (fun hb => ?_) | refine AskB.ndec (fun hb => ?_) (fun hb => ?_) | refine AskB.mk (fun hb => ?_) (fun hb => ?_)) <;> conv => whnf) | ((with_reducible first | refine Run.drawX rfl (by decide +kernel) ?_ | refine Run.drawT rfl (by decide +kernel) ?_ | refine Run.drawW rfl (by decide +kernel) ?_); conv => whnf))
    all_goals try (exfalso; omega)
    refine Run.hold (z := 28) 5 1000 (by rfl) (by rfl) (by rfl) ?_
    refine Run.to _ _ ?_ ?_ (IH (i + 1) (by omega) (by omega))
    · exact ⟨Le.refl _, Le.refl _, Le.int hw1, trivial⟩
    · refine ⟨?_, trivial⟩
      rw [catW_take l i hil, ← ByteArray.append_assoc, hX]
      exact bytesG_join2 5 X _ _
  · obtain rfl : i = l.length := by omega
    rw [List.take_length] at hX
    refine Run.go ?_; (conv => whnf); repeat' (first | ((with_reducible refine Know.mk fun _ => ?_); conv => whnf) | ((with_reducible refine Need.mk ?_ ?_); exact nd; conv => whnf) | ((with_reducible first | refine Both.mk ?_ ?_ | refine Any.mk fun b hb => ?_ | refine AskB.dec (fun hb => ?_) (fun hb => ?_) | refine AskB.ndec (fun hb => ?_) (fun hb => ?_) | refine AskB.mk (fun hb => ?_) (fun hb => ?_)) <;> conv => whnf) | ((with_reducible first | refine Run.drawX rfl (by decide +kernel) ?_ | refine Run.drawT rfl (by decide +kernel) ?_ | refine Run.drawW rfl (by decide +kernel) ?_); conv => whnf))
    all_goals try (exfalso; omega)
    refine Run.rowStr (x := .tmp 29) (src := 93) (dst := 9) (e := 5) (q := 1000) X rfl rfl rfl rfl rfl rfl rfl (fun _ _ => rfl) (by kernel_rfl) (by kernel_rfl) (by kernel_rfl) ?_
    refine Run.go ?_; (conv => whnf); repeat' (first | ((with_reducible refine Know.mk fun _ => ?_); conv => whnf) | ((with_reducible refine Need.mk ?_ ?_); exact nd; conv => whnf) | ((with_reducible first | refine Both.mk ?_ ?_ | refine Any.mk fun b hb => ?_ | refine AskB.dec (fun hb => ?_) (fun hb => ?_) | refine AskB.ndec (fun hb => ?_) (fun hb => ?_) | refine AskB.mk (fun hb => ?_) (fun hb => ?_)) <;> conv => whnf) | ((with_reducible first | refine Run.drawX rfl (by decide +kernel) ?_ | refine Run.drawT rfl (by decide +kernel) ?_ | refine Run.drawW rfl (by decide +kernel) ?_); conv => whnf))
    exact Run.leave (ts := [4]) (.inr ⟨_, rfl⟩) rfl Tryd.func68 rfl (Le.str hX.symm)
theorem right_long {hd : ByteArray} {l : List Wrd} (h : 65536 < hd.size + (catW l).size ∨ 1024 < l.length) : rightB hd l = false := by
  unfold rightB
  refine decide_eq_false (fun e => ?_)
  have hf := wordsOf_few (hd ++ catW l)
  rcases h with h | h
  · rw [wordsOf_long (by rw [ByteArray.size_append]; exact h)] at e
    cases e
  · rw [e] at hf; simp only at hf; omega
theorem right21_fn (hd : ByteArray) (l : List Wrd) (hf : FitW hd l) : Fn Tryd.prog 53 [.str hd, tWrd.L l] (.bool (rightB hd l)) := by
  refine Fn.of Tryd.f53 _ Tryd.func53 rfl (by decide) (by show 2 ≤ _; decide) tbOk 64 rfl fun S w0 gl => ?_
  obtain ⟨hl, hs⟩ := hf
  refine Run.go ?_; (conv => whnf); repeat' (first | ((with_reducible refine Know.mk fun _ => ?_); conv => whnf) | ((with_reducible refine Need.mk ?_ ?_); exact nd; conv => whnf) | ((with_reducible first | refine Both.mk ?_ ?_ | refine Any.mk fun b hb => ?_ | refine AskB.dec (fun hb => ?_) (fun hb => ?_) | refine AskB.ndec (fun hb => ?_) (fun hb => ?_) | refine AskB.mk (fun hb => ?_) (fun hb => ?_)) <;> conv => whnf) | ((with_reducible first | refine Run.drawX rfl (by decide +kernel) ?_ | refine Run.drawT rfl (by decide +kernel) ?_ | refine Run.drawW rfl (by decide +kernel) ?_); conv => whnf))
  refine Run.loop [0, 1] (fun (i : Nat) => [(5, .int .i64 ((hd.size + (catW (l.take i)).size : Nat) : Int)), (6, .int .i64 (i : Int))]) (fun _ => []) (fun i => i ≤ l.length) (fun i => l.length - i) 0 (Nat.zero_le _) ⟨Le.int (by simp [catW]), Le.refl _, trivial⟩ trivial ?_
  intro i hi IH
  have hw1 : IntKind.i64.wrap ((i : Int) + 1) = ((i + 1 : Nat) : Int) := wrap64 (by omega) (by omega)
  have hTi := catW_takeLe l i
  have hTj := catW_takeLe l (i + 1)
  have hnx : i < l.length → (catW (l.take (i + 1))).size = (catW (l.take i)).size + ((l.getD i tWrd.z).text.size + (l.getD i tWrd.z).tail.size) := fun h => by
    rw [catW_take l i h, ByteArray.size_append, ByteArray.size_append]
  apply Run.cutAt (A := fun CC kk => hd.size + (catW l).size ≤ 65536 → l.length ≤ 1024 → Run CC kk (lst [(0, .str hd), (1, tWrd.L l), (45, .str hd), (46, tWrd.L l)]) (lstH []))
  · intro HA
    refine Run.go ?_; (conv => whnf); repeat' (first | ((with_reducible refine Know.mk fun _ => ?_); conv => whnf) | ((with_reducible refine Need.mk ?_ ?_); exact nd; conv => whnf) | ((with_reducible first | refine Both.mk ?_ ?_ | refine Any.mk fun b hb => ?_ | refine AskB.dec (fun hb => ?_) (fun hb => ?_) | refine AskB.ndec (fun hb => ?_) (fun hb => ?_) | refine AskB.mk (fun hb => ?_) (fun hb => ?_)) <;> conv => whnf) | ((with_reducible first | refine Run.drawX rfl (by decide +kernel) ?_ | refine Run.drawT rfl (by decide +kernel) ?_ | refine Run.drawW rfl (by decide +kernel) ?_); conv => whnf))
    case _ =>
      have hil : i < l.length := by omega
      have hnx := hnx hil
      refine Run.to _ _ ?_ ?_ (IH (i + 1) (by omega) (by omega))
      · exact ⟨Le.refl _, Le.refl _, Le.int (by rw [wrap64 (x := (((l.getD (i : Int).toNat tWrd.z).text.size : Nat) : Int) + _) (by simp only [Int.toNat_natCast]; omega) (by simp only [Int.toNat_natCast]; omega)]; rw [wrap64 (by simp only [Int.toNat_natCast]; omega) (by simp only [Int.toNat_natCast]; omega)]; simp only [Int.toNat_natCast]; omega), Le.int hw1, trivial⟩
      · trivial
    all_goals try (
      have hbig : 65536 < hd.size + (catW l).size ∨ 1024 < l.length := by omega
      rw [right_long hbig]
      exact Run.leave (ts := [4]) (.inr ⟨_, rfl⟩) rfl Tryd.func53 rfl Le.ff)
    all_goals
      obtain rfl : i = l.length := by omega
      rw [List.take_length] at *
      refine Run.to _ _ ?_ ?_ (HA (by omega) (by omega))
      · exact ⟨Le.refl _, Le.refl _, Le.refl _, Le.refl _, trivial⟩
      · trivial
  intro h1 h2
  refine Run.callBX (join20_fn hd l hl hs) rfl rfl ⟨Le.refl _, Le.refl _, trivial⟩ rfl rfl rfl ?_
  (conv => whnf); repeat' (first | ((with_reducible refine Know.mk fun _ => ?_); conv => whnf) | ((with_reducible refine Need.mk ?_ ?_); exact nd; conv => whnf) | ((with_reducible first | refine Both.mk ?_ ?_ | refine Any.mk fun b hb => ?_ | refine AskB.dec (fun hb => ?_) (fun hb => ?_) | refine AskB.ndec (fun hb => ?_) (fun hb => ?_) | refine AskB.mk (fun hb => ?_) (fun hb => ?_)) <;> conv => whnf) | ((with_reducible first | refine Run.drawX rfl (by decide +kernel) ?_ | refine Run.drawT rfl (by decide +kernel) ?_ | refine Run.drawW rfl (by decide +kernel) ?_); conv => whnf))
  refine Run.callBX (words16_fn (hd ++ catW l)) rfl rfl ⟨Le.refl _, trivial⟩ rfl rfl rfl ?_
  have hfew := wordsOf_few (hd ++ catW l)
  unfold rightB
  unfold wordsL
  generalize wordsOf (hd ++ catW l) = W at *
  (conv => whnf); repeat' (first | ((with_reducible refine Know.mk fun _ => ?_); conv => whnf) | ((with_reducible refine Need.mk ?_ ?_); exact nd; conv => whnf) | ((with_reducible first | refine Both.mk ?_ ?_ | refine Any.mk fun b hb => ?_ | refine AskB.dec (fun hb => ?_) (fun hb => ?_) | refine AskB.ndec (fun hb => ?_) (fun hb => ?_) | refine AskB.mk (fun hb => ?_) (fun hb => ?_)) <;> conv => whnf) | ((with_reducible first | refine Run.drawX rfl (by decide +kernel) ?_ | refine Run.drawT rfl (by decide +kernel) ?_ | refine Run.drawW rfl (by decide +kernel) ?_); conv => whnf))
  · refine Run.callBX (same17_fn W.1.2 l (by omega)) rfl rfl ⟨Le.refl _, Le.refl _, trivial⟩ rfl rfl rfl ?_
    (conv => whnf); repeat' (first | ((with_reducible refine Know.mk fun _ => ?_); conv => whnf) | ((with_reducible refine Need.mk ?_ ?_); exact nd; conv => whnf) | ((with_reducible first | refine Both.mk ?_ ?_ | refine Any.mk fun b hb => ?_ | refine AskB.dec (fun hb => ?_) (fun hb => ?_) | refine AskB.ndec (fun hb => ?_) (fun hb => ?_) | refine AskB.mk (fun hb => ?_) (fun hb => ?_)) <;> conv => whnf) | ((with_reducible first | refine Run.drawX rfl (by decide +kernel) ?_ | refine Run.drawT rfl (by decide +kernel) ?_ | refine Run.drawW rfl (by decide +kernel) ?_); conv => whnf))
    refine Run.leave (ts := [4]) (.inr ⟨_, rfl⟩) rfl Tryd.func53 rfl (Le.bool ?_)
    obtain ⟨⟨w1, w2⟩, w3⟩ := W
    simp only at hb
    have h3 : w3 = 0 := by assumption
    have h1 : w1 = hd := by assumption
    subst h3; subst h1; simp
  all_goals
    refine Run.leave (ts := [4]) (.inr ⟨_, rfl⟩) rfl Tryd.func53 rfl (Le.ff.trans (Le.bool ?_))
    symm
    refine decide_eq_false (fun e => ?_)
    subst e
    first | exact absurd rfl hb | exact absurd rfl ‹_›
end Go.Proofs.YtnadacaoehpdnaaDoor.V

namespace Go.Proofs.YtnadacaoehpdnaaDoor.V
set_option linter.unusedVariables false
set_option linter.unusedSimpArgs false
open Go Go.Proofs Go.RowKit
set_option maxRecDepth 100000
set_option maxHeartbeats 4000000
theorem sumN_ge {t : Tab} {c i : Nat} (hcc : c < t.cols.length) : sumN t c 0 ≤ sumN t c i := sumR_le _ (fun j hj => by
  unfold nx
  rw [if_neg (Nat.not_lt_zero _)]
  split
  · rw [cnt_take _ _ _ hcc]; omega
  · exact Nat.le_refl _)
theorem col_some {t : Tab} {c : Nat} (h : sumN t c 0 < sumN t c t.wits.length) (hcc : c < t.cols.length) : ∃ k, k < t.wits.length ∧ atC t c k ≠ -1 := by
  refine Classical.byContradiction fun hno' => ?_
  have hall : ∀ k, k < t.wits.length → atC t c k = -1 := fun k hk => Classical.byContradiction fun h => hno' ⟨k, hk, h⟩
  have hz : ∀ n, n ≤ t.wits.length → sumN t c n = sumN t c 0 := fun n => by
    induction n with
    | zero => intro _; rfl
    | succ n ih => intro h; rw [sumN_none hcc (hall n (by omega)), ih (by omega)]
  have := hz _ (Nat.le_refl _)
  omega
theorem check12_fn (t : Tab) (hf : FitT t) : Fn Tryd.prog 40 [tbA t] (.int .i64 (chkT t)) := by
  refine Fn.of Tryd.f40 _ Tryd.func40 rfl (by decide) (by show 1 ≤ _; decide) tbOk 138 rfl fun S w0 gl => ?_
  have hno : ∀ {P : Prop}, (OkT t → ¬ P) → P → chkT t = 121 := fun h p => chk_no (fun o => h o p)
  have hfw := hf.wits
  have hfc := hf.cols
  refine Run.go ?_; (conv => whnf); repeat' (first | ((with_reducible refine Know.mk fun _ => ?_); conv => whnf) | ((with_reducible refine Need.mk ?_ ?_); exact nd; conv => whnf) | ((with_reducible first | refine Both.mk ?_ ?_ | refine Any.mk fun b hb => ?_ | refine AskB.dec (fun hb => ?_) (fun hb => ?_) | refine AskB.ndec (fun hb => ?_) (fun hb => ?_) | refine AskB.mk (fun hb => ?_) (fun hb => ?_)) <;> conv => whnf) | ((with_reducible first | refine Run.drawX rfl (by decide +kernel) ?_ | refine Run.drawT rfl (by decide +kernel) ?_ | refine Run.drawW rfl (by decide +kernel) ?_); conv => whnf))
  · exact Run.leave (ts := [2]) (.inr ⟨_, rfl⟩) rfl Tryd.func40 rfl (Le.int (hno (fun o h => by have := o.n1; omega) hb).symm)
  · exact Run.leave (ts := [2]) (.inr ⟨_, rfl⟩) rfl Tryd.func40 rfl (Le.int (hno (fun o h => by have := o.n12; omega) hb).symm)
  · exact Run.leave (ts := [2]) (.inr ⟨_, rfl⟩) rfl Tryd.func40 rfl (Le.int (hno (fun o h => by have := o.nc; omega) hb).symm)
  have hn1 : 1 ≤ t.wits.length := by omega
  have hn12 : t.wits.length ≤ 12 := by omega
  have hnc : t.cols.length ≤ 4096 := by omega
  have htl := tot_le hf
  have hrow0 : ∀ n : Int, n = t.wits.length → MOle (.row 3 1 n.toNat (fun i j => [AV.int IntKind.i64 0].getD j .u)) (tI.R 3 (nextL t 0 0)) := fun n hn => by
    subst hn
    rw [nextL_zero]
    refine ⟨rfl, rfl, by simp, fun i j hi hj => ?_⟩
    obtain rfl : j = 0 := by have : j < 1 := hj; omega
    refine Le.int ?_
    have hi' : i < t.wits.length := by simpa using hi
    rw [List.getD, List.getElem?_replicate, if_pos hi']; rfl
  refine Run.loop [3, 4] (fun (i : Nat) => [(1, .box 1 0), (5, .int .i64 (i : Int))]) (fun i => [(1, .box 25 [tWit.L t.wits, tIL.L t.cols]), (29, tI.R 3 (nextL t 0 0))])
    (fun i => i ≤ t.wits.length ∧ (∀ k, k < i → WitOk t k)) (fun i => t.wits.length - i) 0 ⟨Nat.zero_le _, fun i hi => absurd hi (Nat.not_lt_zero _)⟩
    ⟨Le.refl _, Le.refl _, trivial⟩ ⟨MOle.refl _, hrow0 _ rfl, trivial⟩ ?_
  intro i ⟨hi, hwk⟩ IH
  have hwi : IntKind.i64.wrap ((i : Int) + 1) = ((i + 1 : Nat) : Int) := wrap64 (by omega) (by omega)
  show Run _ _ (lst (_ ++ [(1, .box 1 0), (5, .int .i64 (i : Int))])) (lstH [(1, .box 25 [tWit.L t.wits, tIL.L t.cols]), (29, tI.R 3 (nextL t 0 0))])
  refine Run.go ?_; (conv => whnf); repeat' (first | ((with_reducible refine Know.mk fun _ => ?_); conv => whnf) | ((with_reducible refine Need.mk ?_ ?_); exact nd; conv => whnf) | ((with_reducible first | refine Both.mk ?_ ?_ | refine Any.mk fun b hb => ?_ | refine AskB.dec (fun hb => ?_) (fun hb => ?_) | refine AskB.ndec (fun hb => ?_) (fun hb => ?_) | refine AskB.mk (fun hb => ?_) (fun hb => ?_)) <;> conv => whnf) | ((with_reducible first | refine Run.drawX rfl (by decide +kernel) ?_ | refine Run.drawT rfl (by decide +kernel) ?_ | refine Run.drawW rfl (by decide +kernel) ?_); conv => whnf))
  · have hil : i < t.wits.length := by omega
    have hwt := hf.wit (witAt t i) (getD_mem' i hil)
    refine Run.callBX (name_fn (witAt t i).name) rfl rfl ⟨Le.refl _, trivial⟩ rfl rfl rfl ?_
    (conv => whnf); repeat' (first | ((with_reducible refine Know.mk fun _ => ?_); conv => whnf) | ((with_reducible refine Need.mk ?_ ?_); exact nd; conv => whnf) | ((with_reducible first | refine Both.mk ?_ ?_ | refine Any.mk fun b hb => ?_ | refine AskB.dec (fun hb => ?_) (fun hb => ?_) | refine AskB.ndec (fun hb => ?_) (fun hb => ?_) | refine AskB.mk (fun hb => ?_) (fun hb => ?_)) <;> conv => whnf) | ((with_reducible first | refine Run.drawX rfl (by decide +kernel) ?_ | refine Run.drawT rfl (by decide +kernel) ?_ | refine Run.drawW rfl (by decide +kernel) ?_); conv => whnf))
    · refine Run.callBX (right21_fn (witAt t i).head (witAt t i).words hwt.1) rfl rfl ⟨Le.refl _, Le.refl _, trivial⟩ rfl rfl rfl ?_
      (conv => whnf); repeat' (first | ((with_reducible refine Know.mk fun _ => ?_); conv => whnf) | ((with_reducible refine Need.mk ?_ ?_); exact nd; conv => whnf) | ((with_reducible first | refine Both.mk ?_ ?_ | refine Any.mk fun b hb => ?_ | refine AskB.dec (fun hb => ?_) (fun hb => ?_) | refine AskB.ndec (fun hb => ?_) (fun hb => ?_) | refine AskB.mk (fun hb => ?_) (fun hb => ?_)) <;> conv => whnf) | ((with_reducible first | refine Run.drawX rfl (by decide +kernel) ?_ | refine Run.drawT rfl (by decide +kernel) ?_ | refine Run.drawW rfl (by decide +kernel) ?_); conv => whnf))
      · have hk : ¬ WitOk t i := fun h => by rw [h.2.1] at hb; cases hb
        exact Run.leave (ts := [2]) (.inr ⟨_, rfl⟩) rfl Tryd.func40 rfl (Le.int (hno (fun o h => h (o.wit i hil)) hk).symm)
      · have hrt : rightB (witAt t i).head (witAt t i).words = true := by simpa using hb
        have hnm : NameOk (witAt t i).name := by assumption
        refine Run.loop [3, 4, 5] (fun (k : Nat) => [(1, .box 1 0), (6, .box 6 0), (7, .int .i64 (k : Int))]) (fun k => [(1, .box 25 [tWit.L t.wits, tIL.L t.cols]), (29, tI.R 3 (nextL t 0 0)), (6, .box 38 [.str (witAt t i).name, .u, .u])])
          (fun k => k ≤ i ∧ ∀ j, j < k → (witAt t j).name ≠ (witAt t i).name) (fun k => i - k) 0 ⟨Nat.zero_le _, fun i hi => absurd hi (Nat.not_lt_zero _)⟩ ⟨Le.refl _, Le.refl _, Le.refl _, trivial⟩ ⟨MOle.refl _, MOle.refl _, ⟨rfl, rfl, fun j x y hx hy => ?_⟩, trivial⟩ ?_
        · match j, hx, hy with
          | 0, hx, hy => cases hx; cases hy; exact Le.refl _
          | 1, hx, hy => cases hy; exact Le.u _
          | 2, hx, hy => cases hy; exact Le.u _
        intro k ⟨hk, hne⟩ IHk
        have hwk2 : IntKind.i64.wrap ((k : Int) + 1) = ((k + 1 : Nat) : Int) := wrap64 (by omega) (by omega)
        show Run _ _ (lst (_ ++ [(1, .box 1 0), (6, .box 6 0), (7, .int .i64 (k : Int))])) (lstH [(1, .box 25 [tWit.L t.wits, tIL.L t.cols]), (29, tI.R 3 (nextL t 0 0)), (6, .box 38 [.str (witAt t i).name, .u, .u])])
        have hin : (k : Int) < i → (k : Int) < t.wits.length := fun h => by omega
        refine Run.go ?_; (conv => whnf); repeat' (first | ((with_reducible refine Know.mk fun _ => ?_); conv => whnf) | ((with_reducible refine Need.mk ?_ ?_); exact nd; conv => whnf) | ((with_reducible first | refine Both.mk ?_ ?_ | refine Any.mk fun b hb => ?_ | refine AskB.dec (fun hb => ?_) (fun hb => ?_) | refine AskB.ndec (fun hb => ?_) (fun hb => ?_) | refine AskB.mk (fun hb => ?_) (fun hb => ?_)) <;> conv => whnf) | ((with_reducible first | refine Run.drawX rfl (by decide +kernel) ?_ | refine Run.drawT rfl (by decide +kernel) ?_ | refine Run.drawW rfl (by decide +kernel) ?_); conv => whnf))
        · have hd : (witAt t k).name = (witAt t i).name := hb
          have hki : k < i := by omega
          have hkk : ¬ WitOk t i := fun h => h.2.2 k hki hd
          exact Run.leave (ts := [2]) (.inr ⟨_, rfl⟩) rfl Tryd.func40 rfl (Le.int (hno (fun o h => h (o.wit i hil)) hkk).symm)
        · have hd : ¬ (witAt t k).name = (witAt t i).name := hb
          refine Run.to _ _ ?_ ?_ (IHk (k + 1) (by omega) ⟨by omega, fun j hj => ?_⟩)
          · exact ⟨Le.refl _, Le.refl _, Le.refl _, Le.refl _, Le.refl _, Le.int hwk2, trivial⟩
          · exact ⟨MOle.refl _, MOle.refl _, MOle.refl _, trivial⟩
          · by_cases e : j = k
            · subst e; exact hd
            · exact hne j (by omega)
        · have hok : WitOk t i := ⟨hnm, hrt, fun j hj => hne j (by omega)⟩
          refine Run.to _ _ ?_ ?_ (IH (i + 1) (by omega) ⟨by omega, fun k hk => ?_⟩)
          · exact ⟨Le.refl _, Le.refl _, Le.refl _, Le.int hwi, trivial⟩
          · exact ⟨MOle.refl _, MOle.refl _, trivial⟩
          · by_cases e : k = i
            · subst e; exact hok
            · exact hwk k (by omega)
    · have hk : ¬ WitOk t i := fun h => hb h.1
      exact Run.leave (ts := [2]) (.inr ⟨_, rfl⟩) rfl Tryd.func40 rfl (Le.int (hno (fun o h => h (o.wit i hil)) hk).symm)
  obtain rfl : i = t.wits.length := by omega
  clear IH
  refine Run.loop [3, 4] (fun (c : Nat) => [(1, .box 1 0), (8, .int .i64 (c : Int))]) (fun c => [(1, .box 25 [tWit.L t.wits, tIL.L t.cols]), (29, tI.R 3 (nextL t c 0))])
    (fun c => c ≤ t.cols.length ∧ (∀ k, k < c → ColOk t k) ∧ LeT t c 0) (fun c => t.cols.length - c) 0 ⟨Nat.zero_le _, fun i hi => absurd hi (Nat.not_lt_zero _), fun j hj => by simp [nx, cnt]⟩
    ⟨Le.refl _, Le.refl _, trivial⟩ ⟨MOle.refl _, MOle.refl _, trivial⟩ ?_
  intro c ⟨hc, hck, hle⟩ IH
  have hwc : IntKind.i64.wrap ((c : Int) + 1) = ((c + 1 : Nat) : Int) := wrap64 (by omega) (by omega)
  show Run _ _ (lst (_ ++ [(1, .box 1 0), (8, .int .i64 (c : Int))])) (lstH [(1, .box 25 [tWit.L t.wits, tIL.L t.cols]), (29, tI.R 3 (nextL t c 0))])
  refine Run.go ?_; (conv => whnf); repeat' (first | ((with_reducible refine Know.mk fun _ => ?_); conv => whnf) | ((with_reducible refine Need.mk ?_ ?_); exact nd; conv => whnf) | ((with_reducible refine Both.mk ?_ ?_) <;> conv => whnf) | ((with_reducible refine Any.mk fun b hb => ?_); conv => whnf) | ((with_reducible first | refine AskB.dec (fun hb => ?_) (fun hb => ?_) | refine AskB.ndec (fun hb => ?_) (fun hb => ?_) | refine AskB.mk (fun hb => ?_) (fun hb => ?_)) <;> first | (exfalso; omega) | (conv => whnf)) | ((with_reducible first | refine Run.drawX rfl (by decide +kernel) ?_ | refine Run.drawT rfl (by decide +kernel) ?_ | refine Run.drawW rfl (by decide +kernel) ?_); conv => whnf))
  all_goals try (exfalso; omega)
  · have hcc : c < t.cols.length := by omega
    have hlen : (t.cols.getD c []).length = t.wits.length := by
      have h2 : (t.cols.getD (c : Int).toNat tIL.z).length = t.wits.length := by omega
      exact h2
    refine Run.loop [3, 4, 8] (fun (i : Nat) => [(1, .box 1 0), (9, .bool (decide (sumN t c 0 < sumN t c i))), (10, .int .i64 (i : Int))]) (fun i => [(1, .box 25 [tWit.L t.wits, tIL.L t.cols]), (29, tI.R 3 (nextL t c i))])
      (fun i => i ≤ t.wits.length ∧ LeT t c i ∧ (∀ k, k < i → atC t c k = -1 ∨ (atC t c k = (cnt (t.cols.take c) k : Nat) ∧ cnt (t.cols.take c) k < (witAt t k).words.length)) ∧ (sumN t c i = sumN t c 0 → ∀ k, k < i → atC t c k = -1)) (fun i => t.wits.length - i) 0 ⟨Nat.zero_le _, hle, fun i hi => absurd hi (Nat.not_lt_zero _), fun _ i hi => absurd hi (Nat.not_lt_zero _)⟩
      ⟨Le.refl _, Le.ff.trans (Le.bool (decide_eq_false (Nat.lt_irrefl _)).symm), Le.refl _, trivial⟩ ⟨MOle.refl _, MOle.refl _, trivial⟩ ?_
    intro i ⟨hi, hlei, hcells, hsame⟩ IHi
    have hwi : IntKind.i64.wrap ((i : Int) + 1) = ((i + 1 : Nat) : Int) := wrap64 (by omega) (by omega)
    have hnli := nextL_len t c i
    have hge := sumN_ge (i := i) hcc
    show Run _ _ (lst (_ ++ [(1, .box 1 0), (9, .bool (decide (sumN t c 0 < sumN t c i))), (10, .int .i64 (i : Int))])) (lstH [(1, .box 25 [tWit.L t.wits, tIL.L t.cols]), (29, tI.R 3 (nextL t c i))])
    by_cases hil : i < t.wits.length
    · have hx : (t.cols.getD (c : Int).toNat tIL.z).getD (i : Int).toNat tI.z = atC t c i := rfl
      have hlc : (t.cols.getD (c : Int).toNat tIL.z).length = t.wits.length := hlen
      have hn : (nextL t c i).getD (i : Int).toNat tI.z = ((cnt (t.cols.take c) i : Nat) : Int) := by
        have := nextL_at t c i i hil
        rw [nx_same] at this; exact this
      have hlw : lens t i ≤ 2000000 := (hf.wit (witAt t i) (getD_mem' i hil)).2.1
      have hcnt : cnt (t.cols.take c) i ≤ lens t i := by
        have := hlei i hil
        rw [nx_same] at this; exact this
      have hlw2 : (t.wits.getD (i : Int).toNat tWit.z).words.length = lens t i := rfl
      refine Run.go ?_; (conv => whnf); repeat' (first | ((with_reducible refine Know.mk fun _ => ?_); conv => whnf) | ((with_reducible refine Need.mk ?_ ?_); exact nd; conv => whnf) | ((with_reducible refine Both.mk ?_ ?_) <;> conv => whnf) | ((with_reducible refine Any.mk fun b hb => ?_); conv => whnf) | ((with_reducible first | refine AskB.dec (fun hb => ?_) (fun hb => ?_) | refine AskB.ndec (fun hb => ?_) (fun hb => ?_) | refine AskB.mk (fun hb => ?_) (fun hb => ?_)) <;> first | (exfalso; omega) | (conv => whnf)) | ((with_reducible first | refine Run.drawX rfl (by decide +kernel) ?_ | refine Run.drawT rfl (by decide +kernel) ?_ | refine Run.drawW rfl (by decide +kernel) ?_); conv => whnf))
      all_goals try (exfalso; omega)
      · have hm : atC t c i = -1 := by omega
        refine Run.to _ _ ?_ ?_ (IHi (i + 1) (by omega) ⟨by omega, le_none hcc hlei hm, fun k hk => ?_, fun he k hk => ?_⟩)
        · refine ⟨Le.refl _, Le.refl _, Le.refl _, Le.refl _, ?_, Le.int hwi, trivial⟩
          rw [sumN_none hcc hm]; exact Le.refl _
        · refine ⟨MOle.refl _, ?_, trivial⟩
          rw [nextL_none hcc hm]; exact MOle.refl _
        · by_cases e : k = i
          · subst e; exact .inl hm
          · exact hcells k (by omega)
        · rw [sumN_none hcc hm] at he
          by_cases e : k = i
          · subst e; exact hm
          · exact hsame he k (by omega)
      all_goals try (
        have hk : ¬ ColOk t c := fun h => by
          rcases h.2.1 i hil with h1 | ⟨h1, h2⟩
          · omega
          · have h3 : cnt (t.cols.take c) i < lens t i := h2
            omega
        exact Run.leave (ts := [2]) (.inr ⟨_, rfl⟩) rfl Tryd.func40 rfl (Le.int (hno (fun o h => h (o.col c hcc)) hk).symm))
      · have hxe : atC t c i = ((cnt (t.cols.take c) i : Nat) : Int) := by omega
        have hne : atC t c i ≠ -1 := by omega
        have hlt : cnt (t.cols.take c) i < lens t i := by omega
        have hle2 := le_some hcc hlei hne (by rw [nx_same]; exact hlt)
        have hsm := sumN_some hcc hil hne
        refine Run.to _ _ ?_ ?_ (IHi (i + 1) (by omega) ⟨by omega, hle2, fun k hk => ?_, fun he => ?_⟩)
        · refine ⟨Le.refl _, Le.refl _, Le.refl _, Le.refl _, Le.tt.trans (Le.bool (decide_eq_true (by omega)).symm), Le.int hwi, trivial⟩
        · refine ⟨MOle.refl _, ?_, trivial⟩
          rw [nextL_some hcc hil hne]
          refine tI.set 3 (nextL t c i) i _ (by omega) _ rfl (Le.one (Le.int ?_))
          rw [hn, nx_same, wrap64 (by omega) (by omega)]
        · by_cases e : k = i
          · subst e; exact .inr ⟨hxe, hlt⟩
          · exact hcells k (by omega)
        · omega
    · obtain rfl : i = t.wits.length := by omega
      refine Run.go ?_; (conv => whnf); repeat' (first | ((with_reducible refine Know.mk fun _ => ?_); conv => whnf) | ((with_reducible refine Need.mk ?_ ?_); exact nd; conv => whnf) | ((with_reducible refine Both.mk ?_ ?_) <;> conv => whnf) | ((with_reducible refine Any.mk fun b hb => ?_); conv => whnf) | ((with_reducible first | refine AskB.dec (fun hb => ?_) (fun hb => ?_) | refine AskB.ndec (fun hb => ?_) (fun hb => ?_) | refine AskB.mk (fun hb => ?_) (fun hb => ?_)) <;> first | (exfalso; omega) | (conv => whnf)) | ((with_reducible first | refine Run.drawX rfl (by decide +kernel) ?_ | refine Run.drawT rfl (by decide +kernel) ?_ | refine Run.drawW rfl (by decide +kernel) ?_); conv => whnf))
      all_goals try (exfalso; omega)
      · have hsl : sumN t c 0 < sumN t c t.wits.length := hb
        have hok : ColOk t c := ⟨hlen, hcells, col_some hsl hcc⟩
        refine Run.to _ _ ?_ ?_ (IH (c + 1) (by omega) ⟨by omega, fun k hk => ?_, le_end hlei⟩)
        · exact ⟨Le.refl _, Le.refl _, Le.refl _, Le.int hwc, trivial⟩
        · refine ⟨MOle.refl _, ?_, trivial⟩
          rw [← nextL_end]; exact MOle.refl _
        · by_cases e : k = c
          · subst e; exact hok
          · exact hck k (by omega)
      · have hsl : ¬ sumN t c 0 < sumN t c t.wits.length := hb
        have hk : ¬ ColOk t c := fun h => by
          obtain ⟨k, hk1, hk2⟩ := h.2.2
          exact hk2 (hsame (by omega) k hk1)
        exact Run.leave (ts := [2]) (.inr ⟨_, rfl⟩) rfl Tryd.func40 rfl (Le.int (hno (fun o h => h (o.col c hcc)) hk).symm)
  · have hcc : c < t.cols.length := by omega
    have hk : ¬ ColOk t c := fun h => by
      have h1 := h.1
      have h2 : (t.cols.getD (c : Int).toNat tIL.z).length = t.wits.length := h1
      omega
    exact Run.leave (ts := [2]) (.inr ⟨_, rfl⟩) rfl Tryd.func40 rfl (Le.int (hno (fun o h => h (o.col c hcc)) hk).symm)
  obtain rfl : c = t.cols.length := by omega
  refine Run.loop [3, 4] (fun (i : Nat) => [(1, .box 1 0), (12, .int .i64 (i : Int))]) (fun i => [(1, .box 25 [tWit.L t.wits, tIL.L t.cols]), (29, tI.R 3 (nextL t t.cols.length 0))])
    (fun i => i ≤ t.wits.length ∧ (∀ k, k < i → cnt t.cols k = (witAt t k).words.length)) (fun i => t.wits.length - i) 0 ⟨Nat.zero_le _, fun i hi => absurd hi (Nat.not_lt_zero _)⟩
    ⟨Le.refl _, Le.refl _, trivial⟩ ⟨MOle.refl _, MOle.refl _, trivial⟩ ?_
  intro i ⟨hi, hall⟩ IHi
  have hwi : IntKind.i64.wrap ((i : Int) + 1) = ((i + 1 : Nat) : Int) := wrap64 (by omega) (by omega)
  have hnli := nextL_len t t.cols.length 0
  show Run _ _ (lst (_ ++ [(1, .box 1 0), (12, .int .i64 (i : Int))])) (lstH [(1, .box 25 [tWit.L t.wits, tIL.L t.cols]), (29, tI.R 3 (nextL t t.cols.length 0))])
  by_cases hil : i < t.wits.length
  · have hn : (nextL t t.cols.length 0).getD (i : Int).toNat tI.z = ((cnt t.cols i : Nat) : Int) := by
      have := nextL_at t t.cols.length 0 i hil
      rw [nx_last] at this; exact this
    have hlw2 : (t.wits.getD (i : Int).toNat tWit.z).words.length = lens t i := rfl
    refine Run.go ?_; (conv => whnf); repeat' (first | ((with_reducible refine Know.mk fun _ => ?_); conv => whnf) | ((with_reducible refine Need.mk ?_ ?_); exact nd; conv => whnf) | ((with_reducible refine Both.mk ?_ ?_) <;> conv => whnf) | ((with_reducible refine Any.mk fun b hb => ?_); conv => whnf) | ((with_reducible first | refine AskB.dec (fun hb => ?_) (fun hb => ?_) | refine AskB.ndec (fun hb => ?_) (fun hb => ?_) | refine AskB.mk (fun hb => ?_) (fun hb => ?_)) <;> first | (exfalso; omega) | (conv => whnf)) | ((with_reducible first | refine Run.drawX rfl (by decide +kernel) ?_ | refine Run.drawT rfl (by decide +kernel) ?_ | refine Run.drawW rfl (by decide +kernel) ?_); conv => whnf))
    all_goals try (exfalso; omega)
    · have he : cnt t.cols i = lens t i := by omega
      refine Run.to _ _ ?_ ?_ (IHi (i + 1) (by omega) ⟨by omega, fun k hk => ?_⟩)
      · exact ⟨Le.refl _, Le.refl _, Le.refl _, Le.int hwi, trivial⟩
      · exact ⟨MOle.refl _, MOle.refl _, trivial⟩
      · by_cases e : k = i
        · subst e; exact he
        · exact hall k (by omega)
    · have he : ¬ cnt t.cols i = lens t i := by omega
      exact Run.leave (ts := [2]) (.inr ⟨_, rfl⟩) rfl Tryd.func40 rfl (Le.int (hno (fun o h => h (o.all i hil)) he).symm)
  · obtain rfl : i = t.wits.length := by omega
    refine Run.go ?_; (conv => whnf); repeat' (first | ((with_reducible refine Know.mk fun _ => ?_); conv => whnf) | ((with_reducible refine Need.mk ?_ ?_); exact nd; conv => whnf) | ((with_reducible refine Both.mk ?_ ?_) <;> conv => whnf) | ((with_reducible refine Any.mk fun b hb => ?_); conv => whnf) | ((with_reducible first | refine AskB.dec (fun hb => ?_) (fun hb => ?_) | refine AskB.ndec (fun hb => ?_) (fun hb => ?_) | refine AskB.mk (fun hb => ?_) (fun hb => ?_)) <;> first | (exfalso; omega) | (conv => whnf)) | ((with_reducible first | refine Run.drawX rfl (by decide +kernel) ?_ | refine Run.drawT rfl (by decide +kernel) ?_ | refine Run.drawW rfl (by decide +kernel) ?_); conv => whnf))
    all_goals try (exfalso; omega)
    exact Run.leave (ts := [2]) (.inr ⟨_, rfl⟩) rfl Tryd.func40 rfl (Le.int (chk_ok ⟨hn1, hn12, hnc, hwk, hck, hall⟩).symm)
end Go.Proofs.YtnadacaoehpdnaaDoor.V

namespace Go.Proofs.YtnadacaoehpdnaaDoor.V
set_option linter.unusedVariables false
set_option linter.unusedSimpArgs false
open Go Go.Proofs Go.RowKit
set_option maxRecDepth 100000
set_option maxHeartbeats 4000000
theorem textF_empty (o : Int) : textF .empty o = .empty := by
  unfold textF
  rw [cells_out (by decide)]; rfl
/-- What a table's cells are. -/
theorem at_ok {t : Tab} (h : OkT t) {c i : Nat} (hc : c < t.cols.length) (hi : i < t.wits.length) : (t.cols.getD c []).length = t.wits.length ∧ (atC t c i = -1 ∨ (0 ≤ atC t c i ∧ (atC t c i).toNat < (witAt t i).words.length)) := by
  obtain ⟨h1, h2, h3⟩ := h.col c hc
  refine ⟨h1, ?_⟩
  rcases h2 i hi with h4 | ⟨h4, h5⟩
  · exact .inl h4
  · exact .inr ⟨by omega, by omega⟩
theorem text_small {t : Tab} (hf : FitT t) (hok : OkT t) {c : Nat} (hc : c < t.cols.length) (j : Nat) (hj : j < t.wits.length) : (textAt t c j).size ≤ 134217728 := by
  obtain ⟨_, h⟩ := at_ok hok hc hj
  unfold textAt
  split
  · exact Nat.zero_le _
  · rcases h with h | ⟨h1, h2⟩
    · omega
    · exact (hf.wit (witAt t j) (getD_mem' j hj)).2.2 _ (getD_mem' _ h2)
end Go.Proofs.YtnadacaoehpdnaaDoor.V

namespace Go.Proofs.YtnadacaoehpdnaaDoor.V
set_option linter.unusedVariables false
set_option linter.unusedSimpArgs false
open Go Go.Proofs Go.RowKit
set_option maxRecDepth 100000
set_option maxHeartbeats 4000000
theorem mget_mset' {α β : Type} [DecidableEq α] (k k' : α) (v : β) : ∀ l : List (α × β), mget k' (mset k v l) = if k' = k then some v else mget k' l
  | [] => by
    unfold mset mget
    by_cases h : k' = k
    · rw [if_pos h, if_pos h]
    · rw [if_neg h, if_neg h]; rfl
  | p :: l => by
    unfold mset
    by_cases h1 : k = p.1
    · rw [if_pos h1]
      unfold mget
      by_cases h : k' = k
      · rw [if_pos h, if_pos h]
      · rw [if_neg h, if_neg h, if_neg (fun e => h (e.trans h1.symm))]
    · rw [if_neg h1]
      unfold mget
      by_cases h2 : k' = p.1
      · rw [if_pos h2, if_pos h2, if_neg (fun e => h1 (e.symm.trans h2))]
      · rw [if_neg h2, if_neg h2, mget_mset' k k' v l]
theorem fidx_none {α : Type} {p : α → Bool} {z : α} : ∀ {l : List α}, (∀ k, k < l.length → p (l.getD k z) = false) → l.findIdx p = l.length
  | [], _ => rfl
  | x :: l, h => by
    have h0 := h 0 (by simp)
    rw [List.getD_cons_zero] at h0
    rw [List.findIdx_cons, h0, cond_false, fidx_none (z := z) (l := l) (fun k hk => by have := h (k + 1) (by simpa using hk); rw [List.getD_cons_succ] at this; exact this)]; rfl
theorem fidx_at {α : Type} {p : α → Bool} {z : α} {l : List α} {k : Nat} (hk : k < l.length) (h : p (l.getD k z) = true) (hj : ∀ j, j < k → p (l.getD j z) = false) : l.findIdx p = k := by
  refine fidx_hit (z := z) ?_ hk h
  have : ∀ m, m ≤ k → m ≤ l.findIdx p := fun m => by
    induction m with
    | zero => intro _; exact Nat.zero_le _
    | succ m ih => intro hm; exact fidx_miss (z := z) (ih (by omega)) (by omega) (hj m (by omega))
  exact this k (Nat.le_refl _)
theorem push_same (l : List Rd) (k : Nat) (i : Int) (j : Nat) : ((pushW l k i).getD j rd0).none = (l.getD j rd0).none ∧ ((pushW l k i).getD j rd0).text = (l.getD j rd0).text := by
  unfold pushW
  by_cases e : j = k
  · subst e
    by_cases hj : j < l.length
    · rw [List.getD, List.getElem?_set_self hj]; exact ⟨rfl, rfl⟩
    · rw [List.set_eq_of_length_le (by omega)]; exact ⟨rfl, rfl⟩
  · rw [List.getD, List.getElem?_set_ne (Ne.symm e)]; exact ⟨rfl, rfl⟩
/-- What the walk knows of its readings: where the one without words is, under which number each key is. -/
structure ColI (o : Int) (l : List Rd) (none : Int) (at' : List (ByteArray × Int)) : Prop where
  nn : (none = -1 ∧ ∀ k, k < l.length → (l.getD k rd0).none = false) ∨ (∃ k, k < l.length ∧ none = (k : Nat) ∧ (l.getD k rd0).none = true ∧ ∀ j, j < l.length → (l.getD j rd0).none = true → j = k)
  key : ∀ (s : ByteArray) (v : Int), mget s at' = some v ↔ ∃ k, k < l.length ∧ v = (k : Nat) ∧ (l.getD k rd0).none = false ∧ textF (l.getD k rd0).text o = s
  text : ∀ k, k < l.length → (l.getD k rd0).none = true → (l.getD k rd0).text = .empty
theorem ColI.push {o : Int} {l : List Rd} {none : Int} {at' : List (ByteArray × Int)} (h : ColI o l none at') (k : Nat) (i : Int) : ColI o (pushW l k i) none at' := by
  have hl := push_len l k i
  have hs := push_same l k i
  constructor
  · rcases h.nn with ⟨h1, h2⟩ | ⟨j, h1, h2, h3, h4⟩
    · exact .inl ⟨h1, fun m hm => by rw [(hs m).1]; exact h2 m (by omega)⟩
    · exact .inr ⟨j, by omega, h2, by rw [(hs j).1]; exact h3, fun m hm hn => h4 m (by omega) (by rw [← (hs m).1]; exact hn)⟩
  · intro s v
    rw [h.key s v]
    constructor
    · rintro ⟨m, h1, h2, h3, h4⟩; exact ⟨m, by omega, h2, by rw [(hs m).1]; exact h3, by rw [(hs m).2]; exact h4⟩
    · rintro ⟨m, h1, h2, h3, h4⟩; exact ⟨m, by omega, h2, by rw [← (hs m).1]; exact h3, by rw [← (hs m).2]; exact h4⟩
  · intro m hm hn
    rw [(hs m).2]
    exact h.text m (by omega) (by rw [← (hs m).1]; exact hn)
theorem ColI.start (o : Int) : ColI o [] (-1) [] := ⟨.inl ⟨rfl, fun k hk => absurd hk (Nat.not_lt_zero _)⟩, fun s v => ⟨fun h => (by cases h), fun ⟨k, hk, _⟩ => absurd hk (Nat.not_lt_zero _)⟩, fun k hk => absurd hk (Nat.not_lt_zero _)⟩
theorem app_at {l : List Rd} {r : Rd} {k : Nat} (hk : k < (l ++ [r]).length) : (k < l.length ∧ (l ++ [r]).getD k rd0 = l.getD k rd0) ∨ (k = l.length ∧ (l ++ [r]).getD k rd0 = r) := by
  rw [List.length_append, List.length_singleton] at hk
  by_cases h : k < l.length
  · exact .inl ⟨h, getD_app1 h⟩
  · obtain rfl : k = l.length := by omega
    exact .inr ⟨rfl, getD_app2⟩
theorem ColI.addNone {o : Int} {l : List Rd} {at' : List (ByteArray × Int)} (h : ColI o l (-1) at') : ColI o (l ++ [⟨true, .empty, []⟩]) (l.length : Nat) at' := by
  have hno : ∀ k, k < l.length → (l.getD k rd0).none = false := by
    rcases h.nn with ⟨_, h2⟩ | ⟨j, _, h2, _⟩
    · exact h2
    · omega
  have hlen : (l ++ [(⟨true, .empty, []⟩ : Rd)]).length = l.length + 1 := by simp
  constructor
  · refine .inr ⟨l.length, by omega, rfl, by rw [getD_app2], fun j hj hn => ?_⟩
    rcases app_at hj with ⟨h1, h2⟩ | ⟨h1, _⟩
    · rw [h2, hno j h1] at hn; cases hn
    · exact h1
  · intro s v
    rw [h.key s v]
    constructor
    · rintro ⟨m, h1, h2, h3, h4⟩; exact ⟨m, by omega, h2, by rw [getD_app1 h1]; exact h3, by rw [getD_app1 h1]; exact h4⟩
    · rintro ⟨m, h1, h2, h3, h4⟩
      rcases app_at h1 with ⟨e1, e2⟩ | ⟨e1, e2⟩
      · rw [e2] at h3 h4; exact ⟨m, e1, h2, h3, h4⟩
      · rw [e2] at h3; cases h3
  · intro m hm hn
    rcases app_at hm with ⟨e1, e2⟩ | ⟨e1, e2⟩
    · rw [e2] at hn ⊢; exact h.text m e1 hn
    · rw [e2]
theorem ColI.addKey {o : Int} {l : List Rd} {none : Int} {at' : List (ByteArray × Int)} (h : ColI o l none at') (text : ByteArray) (hno : mget (textF text o) at' = .none) : ColI o (l ++ [⟨false, text, []⟩]) none (mset (textF text o) ((l.length : Nat) : Int) at') := by
  have hlen : (l ++ [(⟨false, text, []⟩ : Rd)]).length = l.length + 1 := by simp
  constructor
  · rcases h.nn with ⟨h1, h2⟩ | ⟨j, h1, h2, h3, h4⟩
    · refine .inl ⟨h1, fun k hk => ?_⟩
      rcases app_at hk with ⟨e1, e2⟩ | ⟨e1, e2⟩
      · rw [e2]; exact h2 k e1
      · rw [e2]
    · refine .inr ⟨j, by omega, h2, by rw [getD_app1 h1]; exact h3, fun m hm hn => ?_⟩
      rcases app_at hm with ⟨e1, e2⟩ | ⟨e1, e2⟩
      · rw [e2] at hn; exact h4 m e1 hn
      · rw [e2] at hn; cases hn
  · intro s v
    rw [mget_mset']
    by_cases e : s = textF text o
    · subst e
      rw [if_pos rfl]
      constructor
      · intro hv; cases hv; exact ⟨l.length, by omega, rfl, by rw [getD_app2], by rw [getD_app2]⟩
      · rintro ⟨m, h1, h2, h3, h4⟩
        rcases app_at h1 with ⟨e1, e2⟩ | ⟨e1, e2⟩
        · rw [e2] at h3 h4
          have := (h.key _ ((m : Nat) : Int)).mpr ⟨m, e1, rfl, h3, h4⟩
          rw [hno] at this; cases this
        · rw [h2, e1]
    · rw [if_neg e, h.key s v]
      constructor
      · rintro ⟨m, h1, h2, h3, h4⟩; exact ⟨m, by omega, h2, by rw [getD_app1 h1]; exact h3, by rw [getD_app1 h1]; exact h4⟩
      · rintro ⟨m, h1, h2, h3, h4⟩
        rcases app_at h1 with ⟨e1, e2⟩ | ⟨e1, e2⟩
        · rw [e2] at h3 h4; exact ⟨m, e1, h2, h3, h4⟩
        · rw [e2] at h4; exact absurd h4.symm e
  · intro m hm hn
    rcases app_at hm with ⟨e1, e2⟩ | ⟨e1, e2⟩
    · rw [e2] at hn ⊢; exact h.text m e1 hn
    · rw [e2] at hn; cases hn
theorem ColI.findNone {o : Int} {l : List Rd} {none : Int} {at' : List (ByteArray × Int)} (h : ColI o l none at') : (none = -1 ∧ l.findIdx (sameR o true .empty) = l.length) ∨ (none = (l.findIdx (sameR o true .empty) : Nat) ∧ l.findIdx (sameR o true .empty) < l.length) := by
  rcases h.nn with ⟨h1, h2⟩ | ⟨k, h1, h2, h3, h4⟩
  · exact .inl ⟨h1, fidx_none (z := rd0) (fun k hk => by unfold sameR; rw [h2 k hk]; rfl)⟩
  · have := fidx_at (z := rd0) (p := sameR o true .empty) h1 (by unfold sameR; rw [h3, h.text k h1 h3, textF_empty]; rfl) (fun j hj => by
      unfold sameR
      cases hn : (l.getD j rd0).none with
      | false => rfl
      | true => exact absurd (h4 j (by omega) hn) (by omega))
    rw [this]
    exact .inr ⟨h2, h1⟩
theorem ColI.findKey {o : Int} {l : List Rd} {none : Int} {at' : List (ByteArray × Int)} (h : ColI o l none at') (s : ByteArray) : (mget s at' = .none ∧ l.findIdx (sameR o false s) = l.length) ∨ (mget s at' = some ((l.findIdx (sameR o false s) : Nat) : Int) ∧ l.findIdx (sameR o false s) < l.length) := by
  have hp : ∀ k, sameR o false s (l.getD k rd0) = true ↔ ((l.getD k rd0).none = false ∧ textF (l.getD k rd0).text o = s) := fun k => by
    unfold sameR
    rw [Bool.and_eq_true, decide_eq_true_iff]
    simp
  cases hg : mget s at' with
  | none =>
    refine .inl ⟨rfl, fidx_none (z := rd0) (fun k hk => ?_)⟩
    cases hq : sameR o false s (l.getD k rd0) with
    | false => rfl
    | true =>
      obtain ⟨h1, h2⟩ := (hp k).mp hq
      have := (h.key s ((k : Nat) : Int)).mpr ⟨k, hk, rfl, h1, h2⟩
      rw [hg] at this; cases this
  | some v =>
    obtain ⟨k, hk, hv, h1, h2⟩ := (h.key s v).mp hg
    have := fidx_at (z := rd0) (p := sameR o false s) hk ((hp k).mpr ⟨h1, h2⟩) (fun j hj => by
      cases hq : sameR o false s (l.getD j rd0) with
      | false => rfl
      | true =>
        obtain ⟨e1, e2⟩ := (hp j).mp hq
        have := (h.key s ((j : Nat) : Int)).mpr ⟨j, by omega, rfl, e1, e2⟩
        rw [hg] at this
        injection this with e
        omega)
    rw [this, hv]
    exact .inr ⟨rfl, hk⟩
theorem column_fn (t : Tab) (c : Nat) (o : Int) (hf : FitT t) (hok : OkT t) (hc : c < t.cols.length) (ho : ¬ badO o) : Fn Tryd.prog 39 [tbA t, .int .i64 c, .int .i64 o] (tRd.L (readE t c o t.wits.length)) := by
  refine Fn.of Tryd.f39 _ Tryd.func39 rfl (by decide) (by show 3 ≤ _; decide) tbOk 99 rfl fun S w0 gl => ?_
  have hn12 := hok.n12
  have hfc := hf.cols
  have hlen : (t.cols.getD (c : Int).toNat tIL.z).length = t.wits.length := (hok.col c hc).1
  refine Run.go ?_; (conv => whnf); repeat' (first | ((with_reducible refine Know.mk fun _ => ?_); conv => whnf) | ((with_reducible refine Need.mk ?_ ?_); exact nd; conv => whnf) | ((with_reducible first | refine Both.mk ?_ ?_ | refine Any.mk fun b hb => ?_ | refine AskB.dec (fun hb => ?_) (fun hb => ?_) | refine AskB.ndec (fun hb => ?_) (fun hb => ?_) | refine AskB.mk (fun hb => ?_) (fun hb => ?_)) <;> conv => whnf) | ((with_reducible first | refine Run.drawX rfl (by decide +kernel) ?_ | refine Run.drawT rfl (by decide +kernel) ?_ | refine Run.drawW rfl (by decide +kernel) ?_); conv => whnf))
  refine Run.holdNil 7 1000 47 3 (fun _ _ => .nils) rfl ?_
  refine Run.asMat 1000 2 3 1 (e := 47) (sz := 3) (n := 0) (get := fun _ _ => .nils) rfl (by decide) (fun i hi => absurd hi (Nat.not_lt_zero _)) ?_
  refine Run.loop [2, 22, 23] (fun (a : Nat × Int × List (ByteArray × Int)) => [(3, .box 3 0), (7, .row 1000), (8, .obj 17), (9, .int .i64 a.2.1), (24, .int .i64 (a.1 : Int))]) (fun a => [(3, .box 25 [tWit.L t.wits, tIL.L t.cols]), (1000, rdM (readE t c o a.1)), (17, .mp (.si a.2.2))])
    (fun a => a.1 ≤ t.wits.length ∧ ColI o (readE t c o a.1) a.2.1 a.2.2) (fun a => t.wits.length - a.1) (0, -1, []) ⟨Nat.zero_le _, ColI.start o⟩ ⟨Le.refl _, Le.refl _, Le.refl _, Le.refl _, Le.refl _, trivial⟩ ⟨MOle.refl _, rdM_nil _ _ _, MOle.refl _, trivial⟩ ?_
  intro ⟨i, no, at'⟩ ⟨hi, hI⟩ IH
  simp only [] at hi hI ⊢
  have hwi : IntKind.i64.wrap ((i : Int) + 1) = ((i + 1 : Nat) : Int) := wrap64 (by omega) (by omega)
  have hrl := read_len t c o i
  have hwl := wits_le t c o i
  show Run _ _ (lst (_ ++ [(3, .box 3 0), (7, .row 1000), (8, .obj 17), (9, .int .i64 no), (24, .int .i64 (i : Int))])) (lstH [(3, .box 25 [tWit.L t.wits, tIL.L t.cols]), (1000, rdM (readE t c o i)), (17, .mp (.si at'))])
  by_cases hil : i < t.wits.length
  · obtain ⟨_, hat⟩ := at_ok hok hc hil
    have hx : (t.cols.getD (c : Int).toNat tIL.z).getD (i : Int).toNat tI.z = atC t c i := rfl
    have hlw2 : (t.wits.getD (i : Int).toNat tWit.z).words.length = (witAt t i).words.length := rfl
    have hts := text_small hf hok hc i hil
    have hnx : readE t c o (i + 1) = addR o (readE t c o i) i (decide (atC t c i < 0)) (textAt t c i) (keyAt t c o i) := rfl
    generalize readE t c o i = l at hrl hwl hnx hI ⊢
    have hewl : ∀ k nn text, ∀ r ∈ ensR l k nn text, r.wits.length ≤ i := fun k nn text r hr => by
      unfold ensR at hr
      split at hr
      · rcases List.mem_append.mp hr with h1 | h1
        · exact hwl r h1
        · rw [List.mem_singleton] at h1; subst h1; exact Nat.zero_le _
      · exact hwl r hr
    refine Run.goS true 0 ?_; (conv => whnf); repeat' (first | ((with_reducible refine Know.mk fun _ => ?_); conv => whnf) | ((with_reducible refine Need.mk ?_ ?_); exact nd; conv => whnf) | ((with_reducible first | refine Both.mk ?_ ?_ | refine Any.mk fun b hb => ?_ | refine AskB.dec (fun hb => ?_) (fun hb => ?_) | refine AskB.ndec (fun hb => ?_) (fun hb => ?_) | refine AskB.mk (fun hb => ?_) (fun hb => ?_)) <;> conv => whnf) | ((with_reducible first | refine Run.drawX rfl (by decide +kernel) ?_ | refine Run.drawT rfl (by decide +kernel) ?_ | refine Run.drawW rfl (by decide +kernel) ?_); conv => whnf))
    refine Run.cond2 rfl (fun hb => ?_) (fun hb => absurd (of_decide_eq_false hb) (by omega))
    refine Run.goS true 0 ?_; (conv => whnf); repeat' (first | ((with_reducible refine Know.mk fun _ => ?_); conv => whnf) | ((with_reducible refine Need.mk ?_ ?_); exact nd; conv => whnf) | ((with_reducible first | refine Both.mk ?_ ?_ | refine Any.mk fun b hb => ?_ | refine AskB.dec (fun hb => ?_) (fun hb => ?_) | refine AskB.ndec (fun hb => ?_) (fun hb => ?_) | refine AskB.mk (fun hb => ?_) (fun hb => ?_)) <;> conv => whnf) | ((with_reducible first | refine Run.drawX rfl (by decide +kernel) ?_ | refine Run.drawT rfl (by decide +kernel) ?_ | refine Run.drawW rfl (by decide +kernel) ?_); conv => whnf))
    refine Run.cond2 rfl (fun hb => ?_) (fun hb => ?_)
    · have hx0 : atC t c i < 0 := of_decide_eq_true hb
      have hte : textAt t c i = .empty := by unfold textAt; rw [if_pos hx0]
      have hke : keyAt t c o i = .empty := by unfold keyAt; rw [if_pos hx0]
      rw [hte, hke, decide_eq_true hx0] at hnx
      obtain ⟨k, hkd⟩ : ∃ k, l.findIdx (sameR o true .empty) = k := ⟨_, rfl⟩
      have hfn := hI.findNone
      rw [hkd] at hfn
      have hkl : k ≤ l.length := by rw [← hkd]; exact List.findIdx_le_length
      have hens := ens_len l k true .empty hkl
      have hadd : readE t c o (i + 1) = pushW (ensR l k true .empty) k i := by rw [hnx]; unfold addR; rw [hkd]
      have hI2 : ColI o (ensR l k true .empty) (k : Nat) at' := by
        unfold ensR
        rcases hfn with ⟨h1, h2⟩ | ⟨h1, h2⟩
        · rw [if_pos h2, h2]
          rw [h1] at hI
          exact hI.addNone
        · rw [if_neg (by omega), ← h1]; exact hI
      refine Run.goS true 0 ?_; (conv => whnf); repeat' (first | ((with_reducible refine Know.mk fun _ => ?_); conv => whnf) | ((with_reducible refine Need.mk ?_ ?_); exact nd; conv => whnf) | ((with_reducible first | refine Both.mk ?_ ?_ | refine Any.mk fun b hb => ?_ | refine AskB.dec (fun hb => ?_) (fun hb => ?_) | refine AskB.ndec (fun hb => ?_) (fun hb => ?_) | refine AskB.mk (fun hb => ?_) (fun hb => ?_)) <;> conv => whnf) | ((with_reducible first | refine Run.drawX rfl (by decide +kernel) ?_ | refine Run.drawT rfl (by decide +kernel) ?_ | refine Run.drawW rfl (by decide +kernel) ?_); conv => whnf))
      refine Run.ifk [2, 3, 8, 10, 22, 23, 24] (fun (_ : Unit) => [(7, .row 1000), (9, .int .i64 (k : Int))]) (fun _ => [(3, .box 25 [tWit.L t.wits, tIL.L t.cols]), (1000, rdM (ensR l k true .empty)), (17, .mp (.si at'))]) (fun _ => True) rfl ⟨fun next => ⟨fun hb => ?_, fun hb => ?_⟩, fun _ _ => ?_⟩
      · have hb := of_decide_eq_true hb
        have hke : k = l.length := by omega
        have hee : ensR l k true .empty = l ++ [⟨true, .empty, []⟩] := if_pos hke
        refine Run.goS false 7 ?_; (conv => whnf); repeat' (first | ((with_reducible refine Know.mk fun _ => ?_); conv => whnf) | ((with_reducible refine Need.mk ?_ ?_); exact nd; conv => whnf) | ((with_reducible first | refine Both.mk ?_ ?_ | refine Any.mk fun b hb => ?_ | refine AskB.dec (fun hb => ?_) (fun hb => ?_) | refine AskB.ndec (fun hb => ?_) (fun hb => ?_) | refine AskB.mk (fun hb => ?_) (fun hb => ?_)) <;> conv => whnf) | ((with_reducible first | refine Run.drawX rfl (by decide +kernel) ?_ | refine Run.drawT rfl (by decide +kernel) ?_ | refine Run.drawW rfl (by decide +kernel) ?_); conv => whnf))
        refine Run.appendM (d := 38) (id := 1000) (z := 37) (t := 42) (t2 := 42) (e := 47) (sz := 3) (om := 2) (s := .tmp 35) (x := .tmp 37) rfl rfl rfl rfl rfl rfl rfl rfl rfl rfl rfl rfl rfl rfl rfl rfl (by decide) (Nat.le_of_ble_eq_true rfl) ⟨_, rfl, rfl⟩ ?_ ?_
        · show (l.length + 1) * 48 ≤ _
          omega
        refine Run.goS false 7 ?_; (conv => whnf); repeat' (first | ((with_reducible refine Know.mk fun _ => ?_); conv => whnf) | ((with_reducible refine Need.mk ?_ ?_); exact nd; conv => whnf) | ((with_reducible first | refine Both.mk ?_ ?_ | refine Any.mk fun b hb => ?_ | refine AskB.dec (fun hb => ?_) (fun hb => ?_) | refine AskB.ndec (fun hb => ?_) (fun hb => ?_) | refine AskB.mk (fun hb => ?_) (fun hb => ?_)) <;> conv => whnf) | ((with_reducible first | refine Run.drawX rfl (by decide +kernel) ?_ | refine Run.drawT rfl (by decide +kernel) ?_ | refine Run.drawW rfl (by decide +kernel) ?_); conv => whnf))
        refine Run.holdM 7 1000 (z := 38) rfl rfl rfl ?_
        refine Run.to _ _ ?_ ?_ (next () trivial)
        · exact ⟨Le.refl _, Le.refl _, Le.refl _, Le.refl _, Le.refl _, Le.refl _, Le.refl _, Le.refl _, Le.int (by show (l.length : Int) = k; omega), trivial⟩
        · refine ⟨MOle.refl _, ?_, MOle.refl _, trivial⟩
          rw [hee]
          exact rdM_app l _ _ _ (Le.tt.trans (Le.refl _)) (Le.refl _)
      · have hb := of_decide_eq_false hb
        have hke : ¬ k = l.length := by omega
        have hee : ensR l k true .empty = l := if_neg hke
        refine Run.goS false 7 ?_; (conv => whnf); repeat' (first | ((with_reducible refine Know.mk fun _ => ?_); conv => whnf) | ((with_reducible refine Need.mk ?_ ?_); exact nd; conv => whnf) | ((with_reducible first | refine Both.mk ?_ ?_ | refine Any.mk fun b hb => ?_ | refine AskB.dec (fun hb => ?_) (fun hb => ?_) | refine AskB.ndec (fun hb => ?_) (fun hb => ?_) | refine AskB.mk (fun hb => ?_) (fun hb => ?_)) <;> conv => whnf) | ((with_reducible first | refine Run.drawX rfl (by decide +kernel) ?_ | refine Run.drawT rfl (by decide +kernel) ?_ | refine Run.drawW rfl (by decide +kernel) ?_); conv => whnf))
        refine Run.to _ _ ?_ ?_ (next () trivial)
        · exact ⟨Le.refl _, Le.refl _, Le.refl _, Le.refl _, Le.refl _, Le.refl _, Le.refl _, Le.refl _, Le.int (by omega), trivial⟩
        · refine ⟨MOle.refl _, ?_, MOle.refl _, trivial⟩
          rw [hee]; exact MOle.refl _
      · have hwn : rdN (ensR l k true .empty) k ≤ i := hewl _ _ _ _ (getD_mem' k hens.1)
        generalize ensR l k true .empty = L at hens hadd hwn hI2 ⊢
        have hkL := hens.1
        have hwn2 : rdN L (k : Int).toNat ≤ i := hwn
        refine Run.go ?_; (conv => whnf); repeat' (first | ((with_reducible refine Know.mk fun _ => ?_); conv => whnf) | ((with_reducible refine Need.mk ?_ ?_); exact nd; conv => whnf) | ((with_reducible first | refine Both.mk ?_ ?_ | refine Any.mk fun b hb => ?_ | refine AskB.dec (fun hb => ?_) (fun hb => ?_) | refine AskB.ndec (fun hb => ?_) (fun hb => ?_) | refine AskB.mk (fun hb => ?_) (fun hb => ?_)) <;> conv => whnf) | ((with_reducible first | refine Run.drawX rfl (by decide +kernel) ?_ | refine Run.drawT rfl (by decide +kernel) ?_ | refine Run.drawW rfl (by decide +kernel) ?_); conv => whnf))
        refine Run.takeM 45 2000 rfl rfl rfl ?_
        refine Run.go ?_; (conv => whnf); repeat' (first | ((with_reducible refine Know.mk fun _ => ?_); conv => whnf) | ((with_reducible refine Need.mk ?_ ?_); exact nd; conv => whnf) | ((with_reducible first | refine Both.mk ?_ ?_ | refine Any.mk fun b hb => ?_ | refine AskB.dec (fun hb => ?_) (fun hb => ?_) | refine AskB.ndec (fun hb => ?_) (fun hb => ?_) | refine AskB.mk (fun hb => ?_) (fun hb => ?_)) <;> conv => whnf) | ((with_reducible first | refine Run.drawX rfl (by decide +kernel) ?_ | refine Run.drawT rfl (by decide +kernel) ?_ | refine Run.drawW rfl (by decide +kernel) ?_); conv => whnf))
        refine Run.to _ _ ?_ ?_ (IH (i + 1, k, at') (by simp only []; omega) ⟨by simp only []; omega, by simp only []; rw [hadd]; exact hI2.push k i⟩)
        · exact ⟨Le.refl _, Le.refl _, Le.refl _, Le.refl _, Le.refl _, Le.refl _, Le.refl _, Le.int hwi, trivial⟩
        · refine ⟨MOle.refl _, ?_, MOle.refl _, trivial⟩
          simp only []
          rw [hadd]
          exact rdM_push L k i hkL _ rfl
    · have hx0 : ¬ atC t c i < 0 := of_decide_eq_false hb
      have hxl : (atC t c i).toNat < (witAt t i).words.length := by omega
      have hte : textAt t c i = ((witAt t i).words.getD (atC t c i).toNat tWrd.z).text := by unfold textAt; rw [if_neg hx0]
      have hke : keyAt t c o i = textF (textAt t c i) o := by unfold keyAt; rw [if_neg hx0]
      have ht := text26_fn (textAt t c i) o hts
      unfold textL at ht
      rw [if_neg ho, if_neg ho] at ht
      rw [hke, decide_eq_false hx0] at hnx
      generalize hT : textAt t c i = T at hte hke ht hnx hts
      obtain ⟨k, hkd⟩ : ∃ k, l.findIdx (sameR o false (textF T o)) = k := ⟨_, rfl⟩
      have hfk := hI.findKey (textF T o)
      rw [hkd] at hfk
      have hkl : k ≤ l.length := by rw [← hkd]; exact List.findIdx_le_length
      have hens := ens_len l k false T hkl
      have hadd : readE t c o (i + 1) = pushW (ensR l k false T) k i := by rw [hnx]; unfold addR; rw [hkd]
      have hwn : rdN (ensR l k false T) k ≤ i := hewl _ _ _ _ (getD_mem' k hens.1)
      refine Run.go ?_; (conv => whnf); repeat' (first | ((with_reducible refine Know.mk fun _ => ?_); conv => whnf) | ((with_reducible refine Need.mk ?_ ?_); exact nd; conv => whnf) | ((with_reducible first | refine Both.mk ?_ ?_ | refine Any.mk fun b hb => ?_ | refine AskB.dec (fun hb => ?_) (fun hb => ?_) | refine AskB.ndec (fun hb => ?_) (fun hb => ?_) | refine AskB.mk (fun hb => ?_) (fun hb => ?_)) <;> conv => whnf) | ((with_reducible first | refine Run.drawX rfl (by decide +kernel) ?_ | refine Run.drawT rfl (by decide +kernel) ?_ | refine Run.drawW rfl (by decide +kernel) ?_); conv => whnf))
      refine Run.callBX ht rfl rfl ⟨Le.str hte.symm, Le.refl _, trivial⟩ rfl rfl rfl ?_
      rcases hfk with ⟨hg, hk⟩ | ⟨hg, hk⟩
      · have hs1 : (mget (textF T o) at').isSome = false := by rw [hg]; rfl
        have hee : ensR l k false T = l ++ [⟨false, T, []⟩] := if_pos hk
        have hI2 : ColI o (ensR l k false T) no (mset (textF T o) ((l.length : Nat) : Int) at') := by
          rw [hee]; exact hI.addKey T hg
        (conv => whnf); repeat' (first | ((with_reducible refine Know.mk fun _ => ?_); conv => whnf) | ((with_reducible refine Need.mk ?_ ?_); exact nd; conv => whnf) | ((with_reducible first | refine Both.mk ?_ ?_ | refine Any.mk fun b hb => ?_ | refine AskB.dec (fun hb => ?_) (fun hb => ?_) | refine AskB.ndec (fun hb => ?_) (fun hb => ?_) | refine AskB.mk (fun hb => ?_) (fun hb => ?_)) <;> conv => whnf) | ((with_reducible first | refine Run.drawX rfl (by decide +kernel) ?_ | refine Run.drawT rfl (by decide +kernel) ?_ | refine Run.drawW rfl (by decide +kernel) ?_); conv => whnf))
        all_goals try (rw [hs1] at hb; cases hb; done)
        refine Run.appendM (d := 84) (id := 1000) (z := 83) (t := 42) (t2 := 42) (e := 47) (sz := 3) (om := 2) (s := .tmp 80) (x := .tmp 83) rfl rfl rfl rfl rfl rfl rfl rfl rfl rfl rfl rfl rfl rfl rfl rfl (by decide) (Nat.le_of_ble_eq_true rfl) ⟨_, rfl, rfl⟩ ?_ ?_
        · show (l.length + 1) * 48 ≤ _
          omega
        refine aexec_ok 1 ?_; (conv => whnf); repeat' (first | ((with_reducible refine Know.mk fun _ => ?_); conv => whnf) | ((with_reducible refine Need.mk ?_ ?_); exact nd; conv => whnf) | ((with_reducible first | refine Both.mk ?_ ?_ | refine Any.mk fun b hb => ?_ | refine AskB.dec (fun hb => ?_) (fun hb => ?_) | refine AskB.ndec (fun hb => ?_) (fun hb => ?_) | refine AskB.mk (fun hb => ?_) (fun hb => ?_)) <;> conv => whnf) | ((with_reducible first | refine Run.drawX rfl (by decide +kernel) ?_ | refine Run.drawT rfl (by decide +kernel) ?_ | refine Run.drawW rfl (by decide +kernel) ?_); conv => whnf))
        refine Run.holdM 7 1000 (z := 84) rfl rfl rfl ?_
        refine Run.to [(2, .int .i64 o), (3, .box 3 0), (7, .row 1000), (8, .obj 17), (9, .int .i64 no), (10, .int .i64 i), (15, .int .i64 (k : Int)), (22, .sl (t.cols.getD (c : Int).toNat tIL.z).length tI.sz (tI.G (t.cols.getD (c : Int).toNat tIL.z))), (23, .int .i64 (t.cols.getD (c : Int).toNat tIL.z).length), (24, .int .i64 i)] [(3, .box 25 [tWit.L t.wits, tIL.L t.cols]), (1000, rdM (ensR l k false T)), (17, .mp (.si (mset (textF T o) ((l.length : Nat) : Int) at')))] ?_ ?_ ?_
        · exact ⟨Le.refl _, Le.refl _, Le.refl _, Le.refl _, Le.refl _, Le.refl _, Le.int (by show (l.length : Int) = k; omega), Le.refl _, Le.refl _, Le.refl _, trivial⟩
        · refine ⟨MOle.refl _, ?_, MOle.refl _, trivial⟩
          rw [hee]
          exact rdM_app l _ _ _ (Le.ff.trans (Le.refl _)) (Le.str hte.symm)
        generalize ensR l k false T = L at hens hadd hwn hI2 ⊢
        have hkL := hens.1
        have hwn2 : rdN L (k : Int).toNat ≤ i := hwn
        refine Run.go ?_; (conv => whnf); repeat' (first | ((with_reducible refine Know.mk fun _ => ?_); conv => whnf) | ((with_reducible refine Need.mk ?_ ?_); exact nd; conv => whnf) | ((with_reducible first | refine Both.mk ?_ ?_ | refine Any.mk fun b hb => ?_ | refine AskB.dec (fun hb => ?_) (fun hb => ?_) | refine AskB.ndec (fun hb => ?_) (fun hb => ?_) | refine AskB.mk (fun hb => ?_) (fun hb => ?_)) <;> conv => whnf) | ((with_reducible first | refine Run.drawX rfl (by decide +kernel) ?_ | refine Run.drawT rfl (by decide +kernel) ?_ | refine Run.drawW rfl (by decide +kernel) ?_); conv => whnf))
        refine Run.takeM 91 2000 rfl rfl rfl ?_
        refine Run.go ?_; (conv => whnf); repeat' (first | ((with_reducible refine Know.mk fun _ => ?_); conv => whnf) | ((with_reducible refine Need.mk ?_ ?_); exact nd; conv => whnf) | ((with_reducible first | refine Both.mk ?_ ?_ | refine Any.mk fun b hb => ?_ | refine AskB.dec (fun hb => ?_) (fun hb => ?_) | refine AskB.ndec (fun hb => ?_) (fun hb => ?_) | refine AskB.mk (fun hb => ?_) (fun hb => ?_)) <;> conv => whnf) | ((with_reducible first | refine Run.drawX rfl (by decide +kernel) ?_ | refine Run.drawT rfl (by decide +kernel) ?_ | refine Run.drawW rfl (by decide +kernel) ?_); conv => whnf))
        refine Run.to _ _ ?_ ?_ (IH (i + 1, no, mset (textF T o) ((l.length : Nat) : Int) at') (by simp only []; omega) ⟨by simp only []; omega, by simp only []; rw [hadd]; exact hI2.push k i⟩)
        · exact ⟨Le.refl _, Le.refl _, Le.refl _, Le.refl _, Le.refl _, Le.refl _, Le.refl _, Le.int hwi, trivial⟩
        · refine ⟨MOle.refl _, ?_, MOle.refl _, trivial⟩
          simp only []
          rw [hadd]
          exact rdM_push L k i hkL _ rfl
      · have hs1 : (mget (textF T o) at').isSome = true := by rw [hg]; rfl
        have hs2 : (mget (textF T o) at').getD 0 = (k : Nat) := by rw [hg]; rfl
        have hee : ensR l k false T = l := if_neg (by omega)
        rw [hee] at hadd hwn
        have hwn2 : rdN l ((mget (textF T o) at').getD 0).toNat ≤ i := by rw [hs2]; exact hwn
        (conv => whnf); repeat' (first | ((with_reducible refine Know.mk fun _ => ?_); conv => whnf) | ((with_reducible refine Need.mk ?_ ?_); exact nd; conv => whnf) | ((with_reducible first | refine Both.mk ?_ ?_ | refine Any.mk fun b hb => ?_ | refine AskB.dec (fun hb => ?_) (fun hb => ?_) | refine AskB.ndec (fun hb => ?_) (fun hb => ?_) | refine AskB.mk (fun hb => ?_) (fun hb => ?_)) <;> conv => whnf) | ((with_reducible first | refine Run.drawX rfl (by decide +kernel) ?_ | refine Run.drawT rfl (by decide +kernel) ?_ | refine Run.drawW rfl (by decide +kernel) ?_); conv => whnf))
        all_goals try (rw [hs1] at hb; cases hb; done)
        refine Run.takeM 91 2000 rfl rfl rfl ?_
        rw [hs2]
        have hwn3 : rdN l (k : Int).toNat ≤ i := hwn
        refine Run.go ?_; (conv => whnf); repeat' (first | ((with_reducible refine Know.mk fun _ => ?_); conv => whnf) | ((with_reducible refine Need.mk ?_ ?_); exact nd; conv => whnf) | ((with_reducible first | refine Both.mk ?_ ?_ | refine Any.mk fun b hb => ?_ | refine AskB.dec (fun hb => ?_) (fun hb => ?_) | refine AskB.ndec (fun hb => ?_) (fun hb => ?_) | refine AskB.mk (fun hb => ?_) (fun hb => ?_)) <;> conv => whnf) | ((with_reducible first | refine Run.drawX rfl (by decide +kernel) ?_ | refine Run.drawT rfl (by decide +kernel) ?_ | refine Run.drawW rfl (by decide +kernel) ?_); conv => whnf))
        refine Run.to _ _ ?_ ?_ (IH (i + 1, no, at') (by simp only []; omega) ⟨by simp only []; omega, by simp only []; rw [hadd]; exact hI.push k i⟩)
        · exact ⟨Le.refl _, Le.refl _, Le.refl _, Le.refl _, Le.refl _, Le.refl _, Le.refl _, Le.int hwi, trivial⟩
        · refine ⟨MOle.refl _, ?_, MOle.refl _, trivial⟩
          simp only []
          rw [hadd]
          exact rdM_push l k i hk _ rfl
  · obtain rfl : i = t.wits.length := by omega
    refine Run.go ?_; (conv => whnf); repeat' (first | ((with_reducible refine Know.mk fun _ => ?_); conv => whnf) | ((with_reducible refine Need.mk ?_ ?_); exact nd; conv => whnf) | ((with_reducible first | refine Both.mk ?_ ?_ | refine Any.mk fun b hb => ?_ | refine AskB.dec (fun hb => ?_) (fun hb => ?_) | refine AskB.ndec (fun hb => ?_) (fun hb => ?_) | refine AskB.mk (fun hb => ?_) (fun hb => ?_)) <;> conv => whnf) | ((with_reducible first | refine Run.drawX rfl (by decide +kernel) ?_ | refine Run.drawT rfl (by decide +kernel) ?_ | refine Run.drawW rfl (by decide +kernel) ?_); conv => whnf))
    all_goals try (exfalso; omega)
    refine Run.leave (ts := [6]) (.inr ⟨_, rfl⟩) rfl Tryd.func39 rfl (rdM_out _)
end Go.Proofs.YtnadacaoehpdnaaDoor.V

namespace Go.Proofs.YtnadacaoehpdnaaDoor.V
set_option linter.unusedVariables false
set_option linter.unusedSimpArgs false
open Go Go.Proofs Go.RowKit
set_option maxRecDepth 100000
set_option maxHeartbeats 4000000
theorem tb_le (t : Tab) {g : Nat → AV} (h0 : Le (g 0) (tWit.L t.wits)) (h1 : Le (g 1) (tIL.L t.cols)) : Le (.agg 2 g) (tbA t) := Le.agg fun j hj => by
  match j, hj with
  | 0, _ => exact h0
  | 1, _ => exact h1
theorem ints_fn (a b : List Int) (ha : a.length ≤ 1000000000) : Fn Tryd.prog 17 [tI.L a, tI.L b] (.bool (decide (a = b))) := by
  refine Fn.of Tryd.f17 _ Tryd.func17 rfl (by decide) (by show 2 ≤ _; decide) tbOk 26 rfl fun S w0 gl => ?_
  refine Run.go ?_; (conv => whnf); repeat' (first | ((with_reducible refine Know.mk fun _ => ?_); conv => whnf) | ((with_reducible refine Need.mk ?_ ?_); exact nd; conv => whnf) | ((with_reducible first | refine Both.mk ?_ ?_ | refine Any.mk fun b hb => ?_ | refine AskB.dec (fun hb => ?_) (fun hb => ?_) | refine AskB.ndec (fun hb => ?_) (fun hb => ?_) | refine AskB.mk (fun hb => ?_) (fun hb => ?_)) <;> conv => whnf) | ((with_reducible first | refine Run.drawX rfl (by decide +kernel) ?_ | refine Run.drawT rfl (by decide +kernel) ?_ | refine Run.drawW rfl (by decide +kernel) ?_); conv => whnf))
  · have hab : a.length = b.length := by omega
    refine Run.loop [0, 1] (fun (i : Nat) => [(5, .int .i64 (i : Int))]) (fun i => []) (fun i => i ≤ a.length ∧ a.take i = b.take i) (fun i => a.length - i) 0 ⟨Nat.zero_le _, rfl⟩ ⟨Le.refl _, trivial⟩ trivial ?_
    intro i ⟨hi, hc⟩ IH
    have hw : IntKind.i64.wrap ((i : Int) + 1) = ((i + 1 : Nat) : Int) := wrap64 (by omega) (by omega)
    refine Run.go ?_; (conv => whnf); repeat' (first | ((with_reducible refine Know.mk fun _ => ?_); conv => whnf) | ((with_reducible refine Need.mk ?_ ?_); exact nd; conv => whnf) | ((with_reducible first | refine Both.mk ?_ ?_ | refine Any.mk fun b hb => ?_ | refine AskB.dec (fun hb => ?_) (fun hb => ?_) | refine AskB.ndec (fun hb => ?_) (fun hb => ?_) | refine AskB.mk (fun hb => ?_) (fun hb => ?_)) <;> conv => whnf) | ((with_reducible first | refine Run.drawX rfl (by decide +kernel) ?_ | refine Run.drawT rfl (by decide +kernel) ?_ | refine Run.drawW rfl (by decide +kernel) ?_); conv => whnf))
    · have he : a.getD i tI.z = b.getD i tI.z := hb
      refine Run.to _ _ ?_ ?_ (IH (i + 1) (by omega) ⟨by omega, ?_⟩)
      · exact ⟨Le.refl _, Le.refl _, Le.int hw, trivial⟩
      · exact trivial
      · rw [take_at a i tI.z (by omega), take_at b i tI.z (by omega), hc, he]
    · refine Run.leave (ts := [4]) (.inr ⟨_, rfl⟩) rfl Tryd.func17 rfl (Le.ff.trans (Le.bool (decide_eq_false (fun h => ?_)).symm))
      subst h
      exact hb rfl
    · have hie : i = a.length := by omega
      refine Run.leave (ts := [4]) (.inr ⟨_, rfl⟩) rfl Tryd.func17 rfl (Le.tt.trans (Le.bool (decide_eq_true ?_).symm))
      rw [hie, List.take_length, hab, List.take_length] at hc
      exact hc
  · refine Run.leave (ts := [4]) (.inr ⟨_, rfl⟩) rfl Tryd.func17 rfl (Le.ff.trans (Le.bool (decide_eq_false (fun h => ?_)).symm))
    rw [h] at hb; exact hb rfl
def sitesE (t : Tab) (o : Int) : Nat → List Int
  | 0 => []
  | c + 1 => if 1 < (readE t c o t.wits.length).length then sitesE t o c ++ [(c : Int)] else sitesE t o c
theorem sites_len (t : Tab) (o : Int) : ∀ c, (sitesE t o c).length ≤ c
  | 0 => Nat.le_refl _
  | c + 1 => by
    have := sites_len t o c
    unfold sitesE
    split
    · rw [List.length_append, List.length_singleton]; omega
    · omega
open Classical in
noncomputable def siteCode (t : Tab) (o : Int) : Int := if ¬ OkT t then 121 else if badO o then 2 else 0
noncomputable def sitesL (t : Tab) (o : Int) : AV := tupL [tI.L (if siteCode t o = 0 then sitesE t o t.cols.length else []), .int .i64 (siteCode t o)]
theorem sitesL_no {t : Tab} (o : Int) (h : ¬ OkT t) : sitesL t o = tupL [tI.L [], .int .i64 121] := by
  unfold sitesL siteCode
  rw [if_pos h, if_neg (by decide)]
theorem sitesL_bad {t : Tab} {o : Int} (h : OkT t) (hb : badO o) : sitesL t o = tupL [tI.L [], .int .i64 2] := by
  have hc : siteCode t o = 2 := by unfold siteCode; rw [if_neg (not_not_intro h), if_pos hb]
  unfold sitesL
  rw [hc, if_neg (by decide)]
theorem sitesL_ok {t : Tab} {o : Int} (h : OkT t) (hb : ¬ badO o) : sitesL t o = tupL [tI.L (sitesE t o t.cols.length), .int .i64 0] := by
  have hc : siteCode t o = 0 := by unfold siteCode; rw [if_neg (not_not_intro h), if_neg hb]
  unfold sitesL
  rw [hc, if_pos rfl]
theorem sites_fn (t : Tab) (o : Int) (hf : FitT t) : Fn Tryd.prog 15 [tbA t, .int .i64 o] (sitesL t o) := by
  refine Fn.of Tryd.f15 _ Tryd.func15 rfl (by decide) (by show 2 ≤ _; decide) tbOk 38 rfl fun S w0 gl => ?_
  refine Run.go ?_; (conv => whnf); repeat' (first | ((with_reducible refine Know.mk fun _ => ?_); conv => whnf) | ((with_reducible refine Need.mk ?_ ?_); exact nd; conv => whnf) | ((with_reducible first | refine Both.mk ?_ ?_ | refine Any.mk fun b hb => ?_ | refine AskB.dec (fun hb => ?_) (fun hb => ?_) | refine AskB.ndec (fun hb => ?_) (fun hb => ?_) | refine AskB.mk (fun hb => ?_) (fun hb => ?_)) <;> conv => whnf) | ((with_reducible first | refine Run.drawX rfl (by decide +kernel) ?_ | refine Run.drawT rfl (by decide +kernel) ?_ | refine Run.drawW rfl (by decide +kernel) ?_); conv => whnf))
  refine Run.callBX (check_fn t hf) rfl rfl ⟨tb_le t (Le.refl _) (Le.refl _), trivial⟩ rfl rfl rfl ?_
  rcases chk_01 t with ⟨hok, he⟩ | ⟨hok, he⟩
  · rw [he]
    (conv => whnf); repeat' (first | ((with_reducible refine Know.mk fun _ => ?_); conv => whnf) | ((with_reducible refine Need.mk ?_ ?_); exact nd; conv => whnf) | ((with_reducible refine Both.mk ?_ ?_) <;> conv => whnf) | ((with_reducible refine Any.mk fun b hb => ?_); conv => whnf) | ((with_reducible first | refine AskB.dec (fun hb => ?_) (fun hb => ?_) | refine AskB.ndec (fun hb => ?_) (fun hb => ?_) | refine AskB.mk (fun hb => ?_) (fun hb => ?_)) <;> first | (exfalso; omega) | (conv => whnf)) | ((with_reducible first | refine Run.drawX rfl (by decide +kernel) ?_ | refine Run.drawT rfl (by decide +kernel) ?_ | refine Run.drawW rfl (by decide +kernel) ?_); conv => whnf))
    all_goals try (exfalso; omega)
    · rw [sitesL_bad hok (.inl (by omega))]
      exact Run.leave (ts := [4,5]) (.inr ⟨_, rfl⟩) rfl Tryd.func15 rfl (resT ⟨tI.nil, Le.refl _, trivial⟩)
    · rw [sitesL_bad hok (.inr (by omega))]
      exact Run.leave (ts := [4,5]) (.inr ⟨_, rfl⟩) rfl Tryd.func15 rfl (resT ⟨tI.nil, Le.refl _, trivial⟩)
    have hob : ¬ badO o := fun h => by unfold badO at h; omega
    rw [sitesL_ok hok hob]
    have hnc := hok.nc
    refine Run.holdNil 7 1000 3 1 (fun _ _ => .u) rfl ?_
    refine Run.loop [1, 22] (fun (c : Nat) => [(2, .box 2 0), (7, .row 1000), (23, .int .i64 (c : Int))]) (fun c => [(2, .box 25 [tWit.L t.wits, tIL.L t.cols]), (1000, tI.R 3 (sitesE t o c))]) (fun c => c ≤ t.cols.length) (fun c => t.cols.length - c) 0 (Nat.zero_le _) ⟨Le.refl _, Le.refl _, Le.refl _, trivial⟩ ⟨MOle.refl _, ⟨rfl, rfl, rfl, fun i j hi => absurd hi (Nat.not_lt_zero _)⟩, trivial⟩ ?_
    intro c hc IH
    have hwc : IntKind.i64.wrap ((c : Int) + 1) = ((c + 1 : Nat) : Int) := wrap64 (by omega) (by omega)
    have hsl := sites_len t o c
    have hnx : sitesE t o (c + 1) = if 1 < (readE t c o t.wits.length).length then sitesE t o c ++ [(c : Int)] else sitesE t o c := rfl
    show Run _ _ (lst (_ ++ [(2, .box 2 0), (7, .row 1000), (23, .int .i64 (c : Int))])) (lstH [(2, .box 25 [tWit.L t.wits, tIL.L t.cols]), (1000, tI.R 3 (sitesE t o c))])
    refine Run.go ?_; (conv => whnf); repeat' (first | ((with_reducible refine Know.mk fun _ => ?_); conv => whnf) | ((with_reducible refine Need.mk ?_ ?_); exact nd; conv => whnf) | ((with_reducible first | refine Both.mk ?_ ?_ | refine Any.mk fun b hb => ?_ | refine AskB.dec (fun hb => ?_) (fun hb => ?_) | refine AskB.ndec (fun hb => ?_) (fun hb => ?_) | refine AskB.mk (fun hb => ?_) (fun hb => ?_)) <;> conv => whnf) | ((with_reducible first | refine Run.drawX rfl (by decide +kernel) ?_ | refine Run.drawT rfl (by decide +kernel) ?_ | refine Run.drawW rfl (by decide +kernel) ?_); conv => whnf))
    · have hcl : c < t.cols.length := by omega
      refine Run.callBX (column_fn t c o hf hok hcl hob) rfl rfl ⟨tb_le t (Le.refl _) (Le.refl _), Le.refl _, Le.refl _, trivial⟩ rfl rfl rfl ?_
      generalize readE t c o t.wits.length = rs at hnx ⊢
      generalize sitesE t o c = L at hsl hnx ⊢
      (conv => whnf); repeat' (first | ((with_reducible refine Know.mk fun _ => ?_); conv => whnf) | ((with_reducible refine Need.mk ?_ ?_); exact nd; conv => whnf) | ((with_reducible first | refine Both.mk ?_ ?_ | refine Any.mk fun b hb => ?_ | refine AskB.dec (fun hb => ?_) (fun hb => ?_) | refine AskB.ndec (fun hb => ?_) (fun hb => ?_) | refine AskB.mk (fun hb => ?_) (fun hb => ?_)) <;> conv => whnf) | ((with_reducible first | refine Run.drawX rfl (by decide +kernel) ?_ | refine Run.drawT rfl (by decide +kernel) ?_ | refine Run.drawW rfl (by decide +kernel) ?_); conv => whnf))
      · rw [if_pos (by omega)] at hnx
        refine Run.hold (z := 35) 7 1000 (by rfl) (by rfl) (by rfl) ?_
        refine Run.to _ _ ?_ ?_ (IH (c + 1) (by omega) (by omega))
        · exact ⟨Le.refl _, Le.refl _, Le.refl _, Le.refl _, Le.int hwc, trivial⟩
        · refine ⟨MOle.refl _, ?_, trivial⟩
          rw [hnx]
          exact tI.push 3 L (c : Int) _ (one0 (Le.refl _))
      · rw [if_neg (by omega)] at hnx
        refine Run.to _ _ ?_ ?_ (IH (c + 1) (by omega) (by omega))
        · exact ⟨Le.refl _, Le.refl _, Le.refl _, Le.refl _, Le.int hwc, trivial⟩
        · refine ⟨MOle.refl _, ?_, trivial⟩
          rw [hnx]; exact MOle.refl _
    · obtain rfl : c = t.cols.length := by omega
      exact Run.leave (ts := [4,5]) (.inr ⟨_, rfl⟩) rfl Tryd.func15 rfl (resT ⟨Le.refl _, Le.refl _, trivial⟩)
  · rw [he, sitesL_no o hok]
    (conv => whnf); repeat' (first | ((with_reducible refine Know.mk fun _ => ?_); conv => whnf) | ((with_reducible refine Need.mk ?_ ?_); exact nd; conv => whnf) | ((with_reducible refine Both.mk ?_ ?_) <;> conv => whnf) | ((with_reducible refine Any.mk fun b hb => ?_); conv => whnf) | ((with_reducible first | refine AskB.dec (fun hb => ?_) (fun hb => ?_) | refine AskB.ndec (fun hb => ?_) (fun hb => ?_) | refine AskB.mk (fun hb => ?_) (fun hb => ?_)) <;> first | (exfalso; omega) | (conv => whnf)) | ((with_reducible first | refine Run.drawX rfl (by decide +kernel) ?_ | refine Run.drawT rfl (by decide +kernel) ?_ | refine Run.drawW rfl (by decide +kernel) ?_); conv => whnf))
    all_goals try (exfalso; omega)
    exact Run.leave (ts := [4,5]) (.inr ⟨_, rfl⟩) rfl Tryd.func15 rfl (resT ⟨tI.nil, Le.refl _, trivial⟩)
end Go.Proofs.YtnadacaoehpdnaaDoor.V

namespace Go.Proofs.YtnadacaoehpdnaaDoor.V
set_option linter.unusedVariables false
set_option linter.unusedSimpArgs false
open Go Go.Proofs Go.RowKit
set_option maxRecDepth 100000
set_option maxHeartbeats 4000000
def badC (t : Tab) (c : Int) : Prop := c < 0 ∨ (t.cols.length : Int) ≤ c
open Classical in
noncomputable def readCode (t : Tab) (c o : Int) : Int := if ¬ OkT t then 121 else if badO o ∨ badC t c then 2 else 0
noncomputable def readR (t : Tab) (c o : Int) : List Rd := if readCode t c o = 0 then readE t c.toNat o t.wits.length else []
noncomputable def readL (t : Tab) (c o : Int) : AV := tupL [tRd.L (readR t c o), .int .i64 (readCode t c o)]
theorem rc_no {t : Tab} (c o : Int) (h : ¬ OkT t) : readCode t c o = 121 ∧ readR t c o = [] := by
  have hc : readCode t c o = 121 := if_pos h
  exact ⟨hc, if_neg (by rw [hc]; decide)⟩
theorem rc_bad {t : Tab} {c o : Int} (h : OkT t) (hb : badO o ∨ badC t c) : readCode t c o = 2 ∧ readR t c o = [] := by
  have hc : readCode t c o = 2 := by unfold readCode; rw [if_neg (not_not_intro h), if_pos hb]
  exact ⟨hc, if_neg (by rw [hc]; decide)⟩
theorem rc_ok {t : Tab} {c o : Int} (h : OkT t) (hb : ¬ badO o) (hc : ¬ badC t c) : readCode t c o = 0 ∧ readR t c o = readE t c.toNat o t.wits.length := by
  have hd : readCode t c o = 0 := by unfold readCode; rw [if_neg (not_not_intro h), if_neg (fun g => g.elim hb hc)]
  exact ⟨hd, if_pos hd⟩
theorem rc_cases (t : Tab) (c o : Int) : (¬ OkT t ∧ readCode t c o = 121 ∧ readR t c o = []) ∨ (OkT t ∧ (badO o ∨ badC t c) ∧ readCode t c o = 2 ∧ readR t c o = []) ∨ (OkT t ∧ ¬ badO o ∧ ¬ badC t c ∧ readCode t c o = 0 ∧ readR t c o = readE t c.toNat o t.wits.length) := by
  by_cases h : OkT t
  · by_cases hb : badO o ∨ badC t c
    · exact .inr (.inl ⟨h, hb, rc_bad h hb⟩)
    · exact .inr (.inr ⟨h, fun g => hb (.inl g), fun g => hb (.inr g), rc_ok h (fun g => hb (.inl g)) (fun g => hb (.inr g))⟩)
  · exact .inl ⟨h, rc_no c o h⟩
theorem readings_fn (t : Tab) (c o : Int) (hf : FitT t) : Fn Tryd.prog 20 [tbA t, .int .i64 c, .int .i64 o] (readL t c o) := by
  refine Fn.of Tryd.f20 _ Tryd.func20 rfl (by decide) (by show 3 ≤ _; decide) tbOk 35 rfl fun S w0 gl => ?_
  refine Run.go ?_; (conv => whnf); repeat' (first | ((with_reducible refine Know.mk fun _ => ?_); conv => whnf) | ((with_reducible refine Need.mk ?_ ?_); exact nd; conv => whnf) | ((with_reducible first | refine Both.mk ?_ ?_ | refine Any.mk fun b hb => ?_ | refine AskB.dec (fun hb => ?_) (fun hb => ?_) | refine AskB.ndec (fun hb => ?_) (fun hb => ?_) | refine AskB.mk (fun hb => ?_) (fun hb => ?_)) <;> conv => whnf) | ((with_reducible first | refine Run.drawX rfl (by decide +kernel) ?_ | refine Run.drawT rfl (by decide +kernel) ?_ | refine Run.drawW rfl (by decide +kernel) ?_); conv => whnf))
  refine Run.callBX (check_fn t hf) rfl rfl ⟨tb_le t (Le.refl _) (Le.refl _), trivial⟩ rfl rfl rfl ?_
  have hfc := hf.cols
  unfold readL
  rcases chk_01 t with ⟨hok, he⟩ | ⟨hok, he⟩
  · rw [he]
    (conv => whnf); repeat' (first | ((with_reducible refine Know.mk fun _ => ?_); conv => whnf) | ((with_reducible refine Need.mk ?_ ?_); exact nd; conv => whnf) | ((with_reducible refine Both.mk ?_ ?_) <;> conv => whnf) | ((with_reducible refine Any.mk fun b hb => ?_); conv => whnf) | ((with_reducible first | refine AskB.dec (fun hb => ?_) (fun hb => ?_) | refine AskB.ndec (fun hb => ?_) (fun hb => ?_) | refine AskB.mk (fun hb => ?_) (fun hb => ?_)) <;> first | (exfalso; omega) | (conv => whnf)) | ((with_reducible first | refine Run.drawX rfl (by decide +kernel) ?_ | refine Run.drawT rfl (by decide +kernel) ?_ | refine Run.drawW rfl (by decide +kernel) ?_); conv => whnf))
    all_goals try (exfalso; omega)
    all_goals try (
      have hbad : badO o ∨ badC t c := by unfold badO badC; omega
      rw [(rc_bad hok hbad).1, (rc_bad hok hbad).2]
      exact Run.leave (ts := [6,7]) (.inr ⟨_, rfl⟩) rfl Tryd.func20 rfl (resT ⟨tRd.nil, Le.refl _, trivial⟩))
    have hbo : ¬ badO o := by unfold badO; omega
    have hbc : ¬ badC t c := by unfold badC; omega
    have hcc : c.toNat < t.cols.length := by omega
    rw [(rc_ok hok hbo hbc).1, (rc_ok hok hbo hbc).2]
    refine Run.callBX (column_fn t c.toNat o hf hok hcc hbo) rfl rfl ⟨tb_le t (Le.refl _) (Le.refl _), Le.int (by omega), Le.refl _, trivial⟩ rfl rfl rfl ?_
    (conv => whnf); repeat' (first | ((with_reducible refine Know.mk fun _ => ?_); conv => whnf) | ((with_reducible refine Need.mk ?_ ?_); exact nd; conv => whnf) | ((with_reducible first | refine Both.mk ?_ ?_ | refine Any.mk fun b hb => ?_ | refine AskB.dec (fun hb => ?_) (fun hb => ?_) | refine AskB.ndec (fun hb => ?_) (fun hb => ?_) | refine AskB.mk (fun hb => ?_) (fun hb => ?_)) <;> conv => whnf) | ((with_reducible first | refine Run.drawX rfl (by decide +kernel) ?_ | refine Run.drawT rfl (by decide +kernel) ?_ | refine Run.drawW rfl (by decide +kernel) ?_); conv => whnf))
    exact Run.leave (ts := [6,7]) (.inr ⟨_, rfl⟩) rfl Tryd.func20 rfl (resT ⟨Le.refl _, Le.refl _, trivial⟩)
  · rw [he, (rc_no c o hok).1, (rc_no c o hok).2]
    (conv => whnf); repeat' (first | ((with_reducible refine Know.mk fun _ => ?_); conv => whnf) | ((with_reducible refine Need.mk ?_ ?_); exact nd; conv => whnf) | ((with_reducible refine Both.mk ?_ ?_) <;> conv => whnf) | ((with_reducible refine Any.mk fun b hb => ?_); conv => whnf) | ((with_reducible first | refine AskB.dec (fun hb => ?_) (fun hb => ?_) | refine AskB.ndec (fun hb => ?_) (fun hb => ?_) | refine AskB.mk (fun hb => ?_) (fun hb => ?_)) <;> first | (exfalso; omega) | (conv => whnf)) | ((with_reducible first | refine Run.drawX rfl (by decide +kernel) ?_ | refine Run.drawT rfl (by decide +kernel) ?_ | refine Run.drawW rfl (by decide +kernel) ?_); conv => whnf))
    all_goals try (exfalso; omega)
    exact Run.leave (ts := [6,7]) (.inr ⟨_, rfl⟩) rfl Tryd.func20 rfl (resT ⟨tRd.nil, Le.refl _, trivial⟩)
/-- The first of those that none has more witnesses than. -/
def maxE (l : List Rd) : Nat → Nat
  | 0 => 0
  | k + 1 => if (l.getD (maxE l k) rd0).wits.length < (l.getD k rd0).wits.length then k else maxE l k
noncomputable def majR (t : Tab) (c o : Int) : Rd := (readR t c o).getD (maxE (readR t c o) (readR t c o).length) rd0
end Go.Proofs.YtnadacaoehpdnaaDoor.V

namespace Go.Proofs.YtnadacaoehpdnaaDoor.V
set_option linter.unusedVariables false
set_option linter.unusedSimpArgs false
open Go Go.Proofs Go.RowKit
set_option maxRecDepth 100000
set_option maxHeartbeats 4000000
theorem readR_fit (t : Tab) (c o : Int) (hf : FitT t) : (readR t c o).length ≤ 2000000 ∧ (∀ r ∈ readR t c o, r.wits.length ≤ 2000000) ∧ (majR t c o).wits.length ≤ 2000000 := by
  have hw := hf.wits
  have h : (readR t c o).length ≤ 2000000 ∧ ∀ r ∈ readR t c o, r.wits.length ≤ 2000000 := by
    rcases rc_cases t c o with ⟨_, _, h2⟩ | ⟨_, _, _, h2⟩ | ⟨_, _, _, _, h2⟩
    · rw [h2]; exact ⟨Nat.zero_le _, fun r h => absurd h List.not_mem_nil⟩
    · rw [h2]; exact ⟨Nat.zero_le _, fun r h => absurd h List.not_mem_nil⟩
    · rw [h2]
      exact ⟨Nat.le_trans (read_len t c.toNat o t.wits.length) hw, fun r hr => Nat.le_trans (wits_le t c.toNat o _ r hr) hw⟩
  refine ⟨h.1, h.2, ?_⟩
  unfold majR
  generalize maxE (readR t c o) (readR t c o).length = i
  by_cases hi : i < (readR t c o).length
  · exact h.2 _ (getD_mem' i hi)
  · rw [List.getD, List.getElem?_eq_none (by omega)]; exact Nat.zero_le _
end Go.Proofs.YtnadacaoehpdnaaDoor.V

namespace Go.Proofs.YtnadacaoehpdnaaDoor.V
set_option linter.unusedVariables false
set_option linter.unusedSimpArgs false
open Go Go.Proofs Go.RowKit
set_option maxRecDepth 100000
/-! ### folding by nothing -/
/-! ### a witness more -/
theorem add_miss {o : Int} {l : List Rd} {i : Int} {nn : Bool} {text key : ByteArray} (h : l.findIdx (sameR o nn key) = l.length) : addR o l i nn text key = l ++ [⟨nn, text, [i]⟩] := by
  unfold addR ensR pushW
  rw [h, if_pos rfl, getD_app2, List.set_append_right _ _ (Nat.le_refl _), Nat.sub_self]
  rfl
theorem add_hit {o : Int} {l : List Rd} {i : Int} {nn : Bool} {text key : ByteArray} (h : l.findIdx (sameR o nn key) < l.length) :
    addR o l i nn text key = pushW l (l.findIdx (sameR o nn key)) i ∧ (l.getD (l.findIdx (sameR o nn key)) rd0).none = nn ∧ textF (l.getD (l.findIdx (sameR o nn key)) rd0).text o = key := by
  unfold addR ensR
  rw [if_neg (by omega)]
  refine ⟨rfl, ?_⟩
  have h1 := List.findIdx_getElem (p := sameR o nn key) (xs := l) (w := h)
  have h2 : l.getD (l.findIdx (sameR o nn key)) rd0 = l[l.findIdx (sameR o nn key)] := by rw [List.getD, List.getElem?_eq_getElem h]; rfl
  rw [← h2] at h1
  generalize l.getD (l.findIdx (sameR o nn key)) rd0 = r at h1 ⊢
  unfold sameR at h1
  simpa using h1
theorem miss_not {o : Int} {l : List Rd} {nn : Bool} {key : ByteArray} (h : l.findIdx (sameR o nn key) = l.length) : ∀ r ∈ l, ¬ (r.none = nn ∧ textF r.text o = key) := fun r hr hh => by
  have h1 : l.findIdx (sameR o nn key) < l.length := List.findIdx_lt_length_of_exists ⟨r, hr, by unfold sameR; simp [hh.1, hh.2]⟩
  omega
theorem push_at (l : List Rd) (k : Nat) (i : Int) (hk : k < l.length) (j : Nat) : (pushW l k i).getD j rd0 = if j = k then ⟨(l.getD k rd0).none, (l.getD k rd0).text, (l.getD k rd0).wits ++ [i]⟩ else l.getD j rd0 := by
  unfold pushW
  rw [List.getD, List.getElem?_set]
  by_cases e : j = k
  · subst e; rw [if_pos rfl, if_pos hk, if_pos rfl]; rfl
  · rw [if_neg (fun x => e x.symm), if_neg e]; rfl
theorem sumL_set {α : Type} (f : α → Nat) (z y : α) : ∀ (l : List α) (k : Nat), k < l.length → sumL f (l.set k y) + f (l.getD k z) = sumL f l + f y
  | [], k, h => absurd h (Nat.not_lt_zero _)
  | x :: l, 0, _ => by simp only [List.set_cons_zero, sumL, List.getD_cons_zero]; omega
  | x :: l, k + 1, h => by
    have := sumL_set f z y l k (by simpa using h)
    simp only [List.set_cons_succ, sumL, List.getD_cons_succ]; omega
/-- What the witnesses of a reading have of it. -/
structure WsOk (t : Tab) (c : Nat) (o : Int) (n : Nat) (r : Rd) : Prop where
  pos : 0 < r.wits.length
  up : ∀ k, k + 1 < r.wits.length → r.wits.getD k 0 < r.wits.getD (k + 1) 0
  at' : ∀ k, k < r.wits.length → 0 ≤ r.wits.getD k 0 ∧ r.wits.getD k 0 < n ∧ r.none = decide (atC t c (r.wits.getD k 0).toNat < 0) ∧ textF r.text o = keyAt t c o (r.wits.getD k 0).toNat
  text : r.text = textAt t c (r.wits.getD 0 0).toNat
structure RInv (t : Tab) (c : Nat) (o : Int) (n : Nat) (l : List Rd) : Prop where
  hit : ∀ j, j < n → ∃ r ∈ l, r.none = decide (atC t c j < 0) ∧ textF r.text o = keyAt t c o j
  ws : ∀ i, i < l.length → WsOk t c o n (l.getD i rd0)
  up : ∀ i, i + 1 < l.length → (l.getD i rd0).wits.getD 0 0 < (l.getD (i + 1) rd0).wits.getD 0 0
  sum : sumL (fun r : Rd => r.wits.length) l = n
theorem WsOk.mono {t : Tab} {c n : Nat} {o : Int} {r : Rd} (h : WsOk t c o n r) : WsOk t c o (n + 1) r :=
  ⟨h.pos, h.up, fun k hk => by obtain ⟨a, b, d⟩ := h.at' k hk; exact ⟨a, by omega, d⟩, h.text⟩
theorem key_text (t : Tab) (c : Nat) (o : Int) (i : Nat) : textF (textAt t c i) o = keyAt t c o i := by
  unfold keyAt
  split
  · unfold textAt
    rw [if_pos (by assumption), textF_empty]
  · rfl
theorem read_inv (t : Tab) (c : Nat) (o : Int) : ∀ n, RInv t c o n (readE t c o n)
  | 0 => ⟨fun j h => absurd h (Nat.not_lt_zero _), fun i h => absurd h (Nat.not_lt_zero _), fun i h => absurd h (Nat.not_lt_zero _), rfl⟩
  | n + 1 => by
    have ih := read_inv t c o n
    have hstep : readE t c o (n + 1) = addR o (readE t c o n) n (decide (atC t c n < 0)) (textAt t c n) (keyAt t c o n) := rfl
    generalize readE t c o n = l at ih hstep
    rw [hstep]
    by_cases hk : l.findIdx (sameR o (decide (atC t c n < 0)) (keyAt t c o n)) < l.length
    · obtain ⟨e1, e2, e3⟩ := add_hit (i := (n : Int)) (text := textAt t c n) hk
      rw [e1]
      generalize l.findIdx (sameR o (decide (atC t c n < 0)) (keyAt t c o n)) = k at hk e2 e3
      have hw := ih.ws k hk
      have hlen : (pushW l k n).length = l.length := push_len l k n
      have hfirst : ∀ i, ((pushW l k n).getD i rd0).wits.getD 0 0 = (l.getD i rd0).wits.getD 0 0 := fun i => by
        rw [push_at l k n hk]
        split
        · rename_i e; subst e
          exact getD_app1 hw.pos
        · rfl
      refine ⟨fun j hj => ?_, fun i hi => ?_, fun i hi => ?_, ?_⟩
      · have key : ∀ r ∈ l, ∃ r' ∈ pushW l k n, r'.none = r.none ∧ r'.text = r.text := fun r hr => by
          obtain ⟨i, hi, rfl⟩ := List.getElem_of_mem hr
          have hg : l.getD i rd0 = l[i] := by rw [List.getD, List.getElem?_eq_getElem hi]; rfl
          refine ⟨(pushW l k n).getD i rd0, getD_mem' i (by rw [hlen]; exact hi), ?_⟩
          rw [push_at l k n hk, ← hg]
          split
          · rename_i e; subst e; exact ⟨rfl, rfl⟩
          · exact ⟨rfl, rfl⟩
        by_cases hjn : j < n
        · obtain ⟨r, hr, h1, h2⟩ := ih.hit j hjn
          obtain ⟨r', hr', g1, g2⟩ := key r hr
          exact ⟨r', hr', by rw [g1, h1], by rw [g2, h2]⟩
        · obtain rfl : j = n := by omega
          obtain ⟨r', hr', g1, g2⟩ := key _ (getD_mem' (z := rd0) k hk)
          exact ⟨r', hr', by rw [g1, e2], by rw [g2, e3]⟩
      · rw [hlen] at hi
        rw [push_at l k n hk]
        split
        · rename_i e; subst e
          have hl : ((l.getD i rd0).wits ++ [(n : Int)]).length = (l.getD i rd0).wits.length + 1 := by simp
          have hold : ∀ q, q < (l.getD i rd0).wits.length → ((l.getD i rd0).wits ++ [(n : Int)]).getD q 0 = (l.getD i rd0).wits.getD q 0 := fun q hq => getD_app1 hq
          have hnew : ((l.getD i rd0).wits ++ [(n : Int)]).getD (l.getD i rd0).wits.length 0 = n := getD_app2
          refine ⟨by show 0 < ((l.getD i rd0).wits ++ [(n : Int)]).length; omega, fun q hq => ?_, fun q hq => ?_, ?_⟩
          · replace hq : q + 1 < ((l.getD i rd0).wits ++ [(n : Int)]).length := hq
            show ((l.getD i rd0).wits ++ [(n : Int)]).getD q 0 < ((l.getD i rd0).wits ++ [(n : Int)]).getD (q + 1) 0
            rw [hold q (by omega)]
            by_cases e : q + 1 = (l.getD i rd0).wits.length
            · rw [e, hnew]; exact (hw.at' q (by omega)).2.1
            · rw [hold (q + 1) (by omega)]; exact hw.up q (by omega)
          · replace hq : q < ((l.getD i rd0).wits ++ [(n : Int)]).length := hq
            show 0 ≤ ((l.getD i rd0).wits ++ [(n : Int)]).getD q 0 ∧ ((l.getD i rd0).wits ++ [(n : Int)]).getD q 0 < ((n + 1 : Nat) : Int) ∧ (l.getD i rd0).none = decide (atC t c (((l.getD i rd0).wits ++ [(n : Int)]).getD q 0).toNat < 0) ∧ textF (l.getD i rd0).text o = keyAt t c o (((l.getD i rd0).wits ++ [(n : Int)]).getD q 0).toNat
            by_cases e : q = (l.getD i rd0).wits.length
            · rw [e, hnew]
              exact ⟨by omega, by omega, e2, e3⟩
            · rw [hold q (by omega)]
              obtain ⟨a, b, d⟩ := hw.at' q (by omega)
              exact ⟨a, by omega, d⟩
          · show (l.getD i rd0).text = textAt t c (((l.getD i rd0).wits ++ [(n : Int)]).getD 0 0).toNat
            rw [hold 0 hw.pos]; exact hw.text
        · exact (ih.ws i hi).mono
      · rw [hlen] at hi
        rw [hfirst, hfirst]; exact ih.up i hi
      · have h1 := sumL_set (fun r : Rd => r.wits.length) rd0 ⟨(l.getD k rd0).none, (l.getD k rd0).text, (l.getD k rd0).wits ++ [(n : Int)]⟩ l k hk
        have h2 := ih.sum
        simp only [List.length_append, List.length_singleton] at h1
        show sumL (fun r : Rd => r.wits.length) (l.set k _) = n + 1
        omega
    · have hm : l.findIdx (sameR o (decide (atC t c n < 0)) (keyAt t c o n)) = l.length := by
        have := List.findIdx_le_length (p := sameR o (decide (atC t c n < 0)) (keyAt t c o n)) (xs := l)
        omega
      rw [add_miss hm]
      have hold : ∀ i, i < l.length → (l ++ [(⟨decide (atC t c n < 0), textAt t c n, [(n : Int)]⟩ : Rd)]).getD i rd0 = l.getD i rd0 := fun i hi => getD_app1 hi
      have hnew : (l ++ [(⟨decide (atC t c n < 0), textAt t c n, [(n : Int)]⟩ : Rd)]).getD l.length rd0 = ⟨decide (atC t c n < 0), textAt t c n, [(n : Int)]⟩ := getD_app2
      have hl : (l ++ [(⟨decide (atC t c n < 0), textAt t c n, [(n : Int)]⟩ : Rd)]).length = l.length + 1 := by simp
      refine ⟨fun j hj => ?_, fun i hi => ?_, fun i hi => ?_, ?_⟩
      · by_cases hjn : j < n
        · obtain ⟨r, hr, h⟩ := ih.hit j hjn
          exact ⟨r, List.mem_append_left _ hr, h⟩
        · obtain rfl : j = n := by omega
          exact ⟨_, List.mem_append_right _ (List.mem_singleton.mpr rfl), rfl, key_text t c o j⟩
      · by_cases e : i = l.length
        · rw [e, hnew]
          refine ⟨Nat.one_pos, fun q hq => absurd hq (by simp), one0 ⟨Int.natCast_nonneg n, by show (n : Int) < ((n + 1 : Nat) : Int); omega, rfl, key_text t c o n⟩, rfl⟩
        · rw [hold i (by omega)]; exact (ih.ws i (by omega)).mono
      · rw [hold i (by omega)]
        by_cases e : i + 1 = l.length
        · rw [e, hnew]
          exact ((ih.ws i (by omega)).at' 0 (ih.ws i (by omega)).pos).2.1
        · rw [hold (i + 1) (by omega)]; exact ih.up i (by omega)
      · rw [sumL_append, ih.sum]; rfl
end Go.Proofs.YtnadacaoehpdnaaDoor.V

namespace Go.Proofs.YtnadacaoehpdnaaDoor.V
set_option linter.unusedVariables false
set_option linter.unusedSimpArgs false
open Go Go.Proofs Go.RowKit
set_option maxRecDepth 100000
set_option maxHeartbeats 4000000
noncomputable def cellL (t : Tab) (c i : Nat) : AV := tupL [.str (textAt t c i), .bool (!decide (atC t c i < 0)), .int .i64 0]
theorem tcell_fn (t : Tab) (c i : Nat) (hf : FitT t) (hok : OkT t) (hc : c < t.cols.length) (hi : i < t.wits.length) : Fn Tryd.prog 21 [tbA t, .int .i64 c, .int .i64 i] (cellL t c i) := by
  refine Fn.of Tryd.f21 _ Tryd.func21 rfl (by decide) (by show 3 ≤ _; decide) tbOk 56 rfl fun S w0 gl => ?_
  have hfc := hf.cols
  have hfw := hf.wits
  refine Run.go ?_; (conv => whnf); repeat' (first | ((with_reducible refine Know.mk fun _ => ?_); conv => whnf) | ((with_reducible refine Need.mk ?_ ?_); exact nd; conv => whnf) | ((with_reducible first | refine Both.mk ?_ ?_ | refine Any.mk fun b hb => ?_ | refine AskB.dec (fun hb => ?_) (fun hb => ?_) | refine AskB.ndec (fun hb => ?_) (fun hb => ?_) | refine AskB.mk (fun hb => ?_) (fun hb => ?_)) <;> conv => whnf) | ((with_reducible first | refine Run.drawX rfl (by decide +kernel) ?_ | refine Run.drawT rfl (by decide +kernel) ?_ | refine Run.drawW rfl (by decide +kernel) ?_); conv => whnf))
  refine Run.callBX (check_fn t hf) rfl rfl ⟨tb_le t (Le.refl _) (Le.refl _), trivial⟩ rfl rfl rfl ?_
  rw [chk_ok hok]
  obtain ⟨hlen, hat⟩ := at_ok hok hc hi
  have hfi : (witAt t i).words.length ≤ 2000000 := (hf.wit (witAt t i) (getD_mem' i hi)).2.1
  have hx : (t.cols.getD (c : Int).toNat tIL.z).getD (i : Int).toNat tI.z = atC t c i := rfl
  have hlc : (t.cols.getD (c : Int).toNat tIL.z).length = t.wits.length := hlen
  have hlw2 : (t.wits.getD (i : Int).toNat tWit.z).words.length = (witAt t i).words.length := rfl
  unfold cellL textAt
  (conv => whnf); repeat' (first | ((with_reducible refine Know.mk fun _ => ?_); conv => whnf) | ((with_reducible refine Need.mk ?_ ?_); exact nd; conv => whnf) | ((with_reducible refine Both.mk ?_ ?_) <;> conv => whnf) | ((with_reducible refine Any.mk fun b hb => ?_); conv => whnf) | ((with_reducible first | refine AskB.dec (fun hb => ?_) (fun hb => ?_) | refine AskB.ndec (fun hb => ?_) (fun hb => ?_) | refine AskB.mk (fun hb => ?_) (fun hb => ?_)) <;> first | (exfalso; omega) | (conv => whnf)) | ((with_reducible first | refine Run.drawX rfl (by decide +kernel) ?_ | refine Run.drawT rfl (by decide +kernel) ?_ | refine Run.drawW rfl (by decide +kernel) ?_); conv => whnf))
  all_goals try (exfalso; omega)
  · have hx0 : ¬ atC t c i < 0 := by omega
    rw [if_neg hx0]
    exact Run.leave (ts := [6,7,8]) (.inr ⟨_, rfl⟩) rfl Tryd.func21 rfl (resT ⟨Le.refl _, Le.tt.trans (Le.bool (by rw [decide_eq_false hx0]; rfl)), Le.refl _, trivial⟩)
  · have hx0 : atC t c i < 0 := by omega
    rw [if_pos hx0]
    exact Run.leave (ts := [6,7,8]) (.inr ⟨_, rfl⟩) rfl Tryd.func21 rfl (resT ⟨Le.refl _, Le.ff.trans (Le.bool (by rw [decide_eq_true hx0]; rfl)), Le.refl _, trivial⟩)
end Go.Proofs.YtnadacaoehpdnaaDoor.V

namespace Go.Proofs.YtnadacaoehpdnaaDoor.V
set_option linter.unusedVariables false
set_option linter.unusedSimpArgs false
open Go Go.Proofs Go.RowKit
set_option maxRecDepth 100000
set_option maxHeartbeats 1000000
/-- What stands for a gap in the text. -/
def dag : ByteArray := ⟨#[226, 151, 140]⟩
def thB (t : Tab) (c i : Nat) : Bool := !decide (atC t c i < 0)
def lacB (t : Tab) (c i : Nat) : Bool := thB t c i && decide (textAt t c i = dag)
def eqSt (t : Tab) (c : Nat) (o : Int) (i k : Nat) : Bool := decide (thB t c k = thB t c i) && decide (keyAt t c o k = keyAt t c o i)
def fndS (ms : List Int) (p : Nat → Bool) : Nat → Int
  | 0 => -1
  | k + 1 => if 0 ≤ fndS ms p k then fndS ms p k else if 0 ≤ ms.getD k 0 ∧ p k = true then ms.getD k 0 else -1
def stNx (t : Tab) (c : Nat) (o : Int) (i : Nat) (s : List Int × Nat) : List Int × Nat :=
  if lacB t c i = true then (s.1 ++ [-1], s.2) else if fndS s.1 (eqSt t c o i) i < 0 then (s.1 ++ [(s.2 : Int)], s.2 + 1) else (s.1 ++ [fndS s.1 (eqSt t c o i) i], s.2)
def stE (t : Tab) (c : Nat) (o : Int) : Nat → List Int × Nat
  | 0 => ([], 0)
  | i + 1 => stNx t c o i (stE t c o i)
theorem fndS_lt {ms : List Int} {p : Nat → Bool} {n : Int} (h : ∀ k, k < ms.length → ms.getD k 0 < n) (hn : 0 ≤ n) : ∀ k, k ≤ ms.length → -1 ≤ fndS ms p k ∧ fndS ms p k < n
  | 0, _ => ⟨Int.le_refl _, by show -1 < n; omega⟩
  | k + 1, hk => by
    have ih := fndS_lt (p := p) h hn k (by omega)
    have h2 := h k (by omega)
    unfold fndS
    split
    · exact ih
    · split
      · omega
      · omega
theorem stE_ok (t : Tab) (c : Nat) (o : Int) : ∀ i, (stE t c o i).1.length = i ∧ (stE t c o i).2 ≤ i ∧ ∀ k, k < i → -1 ≤ (stE t c o i).1.getD k 0 ∧ (stE t c o i).1.getD k 0 < ((stE t c o i).2 : Int)
  | 0 => ⟨rfl, Nat.le_refl _, fun k h => absurd h (Nat.not_lt_zero _)⟩
  | i + 1 => by
    obtain ⟨h1, h2, h3⟩ := stE_ok t c o i
    show (stNx t c o i (stE t c o i)).1.length = i + 1 ∧ _
    have hs : stE t c o (i + 1) = stNx t c o i (stE t c o i) := rfl
    rw [hs]
    generalize stE t c o i = s at h1 h2 h3
    obtain ⟨g1, g2⟩ := fndS_lt (ms := s.1) (p := eqSt t c o i) (n := (s.2 : Int)) (fun k hk => (h3 k (by omega)).2) (by omega) i (by omega)
    have key : ∀ (x : Int) (n : Nat), s.2 ≤ n → n ≤ i + 1 → -1 ≤ x → x < n → (s.1 ++ [x]).length = i + 1 ∧ n ≤ i + 1 ∧ ∀ k, k < i + 1 → -1 ≤ (s.1 ++ [x]).getD k 0 ∧ (s.1 ++ [x]).getD k 0 < (n : Int) := fun x n a1 a2 a3 a4 => by
      refine ⟨by simp [h1], a2, fun k hk => ?_⟩
      by_cases e : k = i
      · rw [e, ← h1, getD_app2]; exact ⟨a3, a4⟩
      · rw [getD_app1 (by omega)]; have := h3 k (by omega); omega
    unfold stNx
    split
    · exact key (-1) s.2 (Nat.le_refl _) (by omega) (Int.le_refl _) (by omega)
    · split
      · exact key s.2 (s.2 + 1) (by omega) (by omega) (by omega) (by omega)
      · exact key _ s.2 (Nat.le_refl _) (by omega) g1 g2
theorem cell62_fn (t : Tab) (c i : Nat) (hf : FitT t) (hok : OkT t) (hc : c < t.cols.length) (hi : i < t.wits.length) : Fn Tryd.prog 62 [tbA t, .int .i64 c, .int .i64 i] (tupL [.str (textAt t c i), .bool (thB t c i)]) := by
  refine Fn.of Tryd.f62 _ Tryd.func62 rfl (by decide) (by show 3 ≤ _; decide) tbOk 29 rfl fun S w0 gl => ?_
  have hfc := hf.cols
  have hfw := hf.wits
  obtain ⟨hlen, hat⟩ := at_ok hok hc hi
  have hfi : (witAt t i).words.length ≤ 2000000 := (hf.wit (witAt t i) (getD_mem' i hi)).2.1
  have hx : (t.cols.getD (c : Int).toNat tIL.z).getD (i : Int).toNat tI.z = atC t c i := rfl
  have hlc : (t.cols.getD (c : Int).toNat tIL.z).length = t.wits.length := hlen
  have hlw2 : (t.wits.getD (i : Int).toNat tWit.z).words.length = (witAt t i).words.length := rfl
  unfold thB textAt
  refine Run.go ?_; (conv => whnf); repeat' (first | ((with_reducible refine Know.mk fun _ => ?_); conv => whnf) | ((with_reducible refine Need.mk ?_ ?_); exact nd; conv => whnf) | ((with_reducible refine Both.mk ?_ ?_) <;> conv => whnf) | ((with_reducible refine Any.mk fun b hb => ?_); conv => whnf) | ((with_reducible first | refine AskB.dec (fun hb => ?_) (fun hb => ?_) | refine AskB.ndec (fun hb => ?_) (fun hb => ?_) | refine AskB.mk (fun hb => ?_) (fun hb => ?_)) <;> first | (exfalso; omega) | (conv => whnf)) | ((with_reducible first | refine Run.drawX rfl (by decide +kernel) ?_ | refine Run.drawT rfl (by decide +kernel) ?_ | refine Run.drawW rfl (by decide +kernel) ?_); conv => whnf))
  all_goals try (exfalso; omega)
  · have hx0 : atC t c i < 0 := by omega
    rw [if_pos hx0]
    exact Run.leave (ts := [6,7]) (.inr ⟨_, rfl⟩) rfl Tryd.func62 rfl (resT ⟨Le.refl _, Le.ff.trans (Le.bool (by rw [decide_eq_true hx0]; rfl)), trivial⟩)
  · have hx0 : ¬ atC t c i < 0 := by omega
    rw [if_neg hx0]
    exact Run.leave (ts := [6,7]) (.inr ⟨_, rfl⟩) rfl Tryd.func62 rfl (resT ⟨Le.refl _, Le.tt.trans (Le.bool (by rw [decide_eq_false hx0]; rfl)), trivial⟩)
theorem fndS_stop {ms : List Int} {p : Nat → Bool} {k : Nat} (h : 0 ≤ fndS ms p k) : ∀ n, k ≤ n → fndS ms p n = fndS ms p k
  | 0, hn => by obtain rfl : k = 0 := by omega
                rfl
  | n + 1, hn => by
    by_cases e : k = n + 1
    · rw [e]
    · have ih := fndS_stop h n (by omega)
      have hs : fndS ms p (n + 1) = if 0 ≤ fndS ms p n then fndS ms p n else if 0 ≤ ms.getD n 0 ∧ p n = true then ms.getD n 0 else -1 := rfl
      rw [hs, ih, if_pos h]
def keySt (t : Tab) (c : Nat) (o : Int) (i : Nat) : List ByteArray := (List.range i).map (keyAt t c o)
def thSt (t : Tab) (c : Nat) (i : Nat) : List Bool := (List.range i).map (thB t c)
noncomputable def statesL (t : Tab) (c : Nat) (o : Int) : AV := tupL [tI.L (stE t c o t.wits.length).1, .int .i64 ((stE t c o t.wits.length).2 : Int)]
theorem range_at {α : Type} (f : Nat → α) (z : α) (n k : Nat) (h : k < n) : ((List.range n).map f).getD k z = f k := by
  rw [List.getD, List.getElem?_map, List.getElem?_range h]; rfl
theorem range_succ' {α : Type} (f : Nat → α) (n : Nat) : (List.range (n + 1)).map f = (List.range n).map f ++ [f n] := by rw [List.range_succ, List.map_append]; rfl
theorem states50_fn (t : Tab) (c : Nat) (o : Int) (hf : FitT t) (hok : OkT t) (hc : c < t.cols.length) (ho : ¬ badO o) : Fn Tryd.prog 50 [tbA t, .int .i64 c, .int .i64 o] (statesL t c o) := by
  refine Fn.of Tryd.f50 _ Tryd.func50 rfl (by decide) (by show 3 ≤ _; decide) tbOk 100 rfl fun S w0 gl => ?_
  have hn12 := hok.n12
  have hfc := hf.cols
  refine Run.go ?_; (conv => whnf); repeat' (first | ((with_reducible refine Know.mk fun _ => ?_); conv => whnf) | ((with_reducible refine Need.mk ?_ ?_); exact nd; conv => whnf) | ((with_reducible first | refine Both.mk ?_ ?_ | refine Any.mk fun b hb => ?_ | refine AskB.dec (fun hb => ?_) (fun hb => ?_) | refine AskB.ndec (fun hb => ?_) (fun hb => ?_) | refine AskB.mk (fun hb => ?_) (fun hb => ?_)) <;> conv => whnf) | ((with_reducible first | refine Run.drawX rfl (by decide +kernel) ?_ | refine Run.drawT rfl (by decide +kernel) ?_ | refine Run.drawW rfl (by decide +kernel) ?_); conv => whnf))
  refine Run.holdNil 9 1000 3 1 (fun _ _ => .u) rfl ?_
  refine Run.holdNil 10 1001 9 1 (fun _ _ => .u) rfl ?_
  refine Run.holdNil 11 1002 4 1 (fun _ _ => .u) rfl ?_
  refine Run.loop [1, 2] (fun (i : Nat) => [(3, .box 3 0), (8, .int .i64 ((stE t c o i).2 : Int)), (9, .row 1000), (10, .row 1001), (11, .row 1002), (12, .int .i64 (i : Int))]) (fun i => [(3, .box 25 [tWit.L t.wits, tIL.L t.cols]), (1000, tI.R 3 (stE t c o i).1), (1001, tS.R 9 (keySt t c o i)), (1002, tB.R 4 (thSt t c i))]) (fun i => i ≤ t.wits.length) (fun i => t.wits.length - i) 0 (Nat.zero_le _) ⟨Le.refl _, Le.refl _, Le.refl _, Le.refl _, Le.refl _, Le.refl _, trivial⟩ ⟨MOle.refl _, ⟨rfl, rfl, rfl, fun i j hi => absurd hi (Nat.not_lt_zero _)⟩, ⟨rfl, rfl, rfl, fun i j hi => absurd hi (Nat.not_lt_zero _)⟩, ⟨rfl, rfl, rfl, fun i j hi => absurd hi (Nat.not_lt_zero _)⟩, trivial⟩ ?_
  intro i hi IH
  have hwi : IntKind.i64.wrap ((i : Int) + 1) = ((i + 1 : Nat) : Int) := wrap64 (by omega) (by omega)
  obtain ⟨hs1, hs2, hs3⟩ := stE_ok t c o i
  have hkl : (keySt t c o i).length = i := by simp [keySt]
  have htl : (thSt t c i).length = i := by simp [thSt]
  have hnx : stE t c o (i + 1) = stNx t c o i (stE t c o i) := rfl
  have hka : ∀ k, k < i → (keySt t c o i).getD k tS.z = keyAt t c o k := fun k hk => range_at _ _ _ _ hk
  have hta : ∀ k, k < i → (thSt t c i).getD k tB.z = thB t c k := fun k hk => range_at _ _ _ _ hk
  have hkn : keySt t c o (i + 1) = keySt t c o i ++ [keyAt t c o i] := range_succ' _ _
  have htn : thSt t c (i + 1) = thSt t c i ++ [thB t c i] := range_succ' _ _
  generalize hS : stE t c o i = s at hs1 hs2 hs3 hnx ⊢
  generalize keySt t c o i = ks at hkl hka hkn ⊢
  generalize thSt t c i = ths at htl hta htn ⊢
  show Run _ _ (lst (_ ++ [(3, .box 3 0), (8, .int .i64 (s.2 : Int)), (9, .row 1000), (10, .row 1001), (11, .row 1002), (12, .int .i64 (i : Int))])) (lstH [(3, .box 25 [tWit.L t.wits, tIL.L t.cols]), (1000, tI.R 3 s.1), (1001, tS.R 9 ks), (1002, tB.R 4 ths)])
  by_cases hil : i < t.wits.length
  · have hts := text_small hf hok hc i hil
    have ht := text29_fn (textAt t c i) o hts
    unfold textL at ht
    rw [if_neg ho, if_neg ho, key_text] at ht
    refine Run.go ?_; (conv => whnf); repeat' (first | ((with_reducible refine Know.mk fun _ => ?_); conv => whnf) | ((with_reducible refine Need.mk ?_ ?_); exact nd; conv => whnf) | ((with_reducible refine Both.mk ?_ ?_) <;> conv => whnf) | ((with_reducible refine Any.mk fun b hb => ?_); conv => whnf) | ((with_reducible first | refine AskB.dec (fun hb => ?_) (fun hb => ?_) | refine AskB.ndec (fun hb => ?_) (fun hb => ?_) | refine AskB.mk (fun hb => ?_) (fun hb => ?_)) <;> first | (exfalso; omega) | (conv => whnf)) | ((with_reducible first | refine Run.drawX rfl (by decide +kernel) ?_ | refine Run.drawT rfl (by decide +kernel) ?_ | refine Run.drawW rfl (by decide +kernel) ?_); conv => whnf))
    all_goals try (exfalso; omega)
    refine Run.callBX (cell62_fn t c i hf hok hc hil) rfl rfl ⟨tb_le t (Le.refl _) (Le.refl _), Le.refl _, Le.refl _, trivial⟩ rfl rfl rfl ?_
    (conv => whnf); repeat' (first | ((with_reducible refine Know.mk fun _ => ?_); conv => whnf) | ((with_reducible refine Need.mk ?_ ?_); exact nd; conv => whnf) | ((with_reducible first | refine Both.mk ?_ ?_ | refine Any.mk fun b hb => ?_ | refine AskB.dec (fun hb => ?_) (fun hb => ?_) | refine AskB.ndec (fun hb => ?_) (fun hb => ?_) | refine AskB.mk (fun hb => ?_) (fun hb => ?_)) <;> conv => whnf) | ((with_reducible first | refine Run.drawX rfl (by decide +kernel) ?_ | refine Run.drawT rfl (by decide +kernel) ?_ | refine Run.drawW rfl (by decide +kernel) ?_); conv => whnf))
    refine Run.callBX ht rfl rfl ⟨Le.refl _, Le.refl _, trivial⟩ rfl rfl rfl ?_
    (conv => whnf); repeat' (first | ((with_reducible refine Know.mk fun _ => ?_); conv => whnf) | ((with_reducible refine Need.mk ?_ ?_); exact nd; conv => whnf) | ((with_reducible first | refine Both.mk ?_ ?_ | refine Any.mk fun b hb => ?_ | refine AskB.dec (fun hb => ?_) (fun hb => ?_) | refine AskB.ndec (fun hb => ?_) (fun hb => ?_) | refine AskB.mk (fun hb => ?_) (fun hb => ?_)) <;> conv => whnf) | ((with_reducible first | refine Run.drawX rfl (by decide +kernel) ?_ | refine Run.drawT rfl (by decide +kernel) ?_ | refine Run.drawW rfl (by decide +kernel) ?_); conv => whnf))
    · have hl : lacB t c i = true := by unfold lacB dag; simp [*]
      have hn : stNx t c o i s = (s.1 ++ [-1], s.2) := if_pos hl
      refine Run.to [(1, .int .i64 c), (2, .int .i64 o), (3, .box 3 0), (8, .int .i64 (s.2 : Int)), (9, .row 54), (10, .row 42), (11, .row 46), (12, .int .i64 ((i + 1 : Nat) : Int))] [(3, .box 25 [tWit.L t.wits, tIL.L t.cols]), (54, tI.R 3 (s.1 ++ [-1])), (42, tS.R 9 (ks ++ [keyAt t c o i])), (46, tB.R 4 (ths ++ [thB t c i]))] ⟨Le.refl _, Le.refl _, Le.refl _, Le.refl _, Le.refl _, Le.refl _, Le.refl _, Le.int hwi, trivial⟩ ⟨MOle.refl _, tI.push 3 s.1 (-1) _ (one0 (Le.refl _)), tS.push 9 ks _ _ (one0 (Le.refl _)), tB.push 4 ths _ _ (one0 (Le.refl _)), trivial⟩ ?_
      refine Run.hold (z := 42) 10 1001 (by rfl) (by rfl) (by rfl) ?_
      refine Run.hold (z := 46) 11 1002 (by rfl) (by rfl) (by rfl) ?_
      refine Run.hold (z := 54) 9 1000 (by rfl) (by rfl) (by rfl) ?_
      have IH := IH (i + 1) (by omega) (by omega)
      rw [hnx, hn, hkn, htn] at IH
      refine Run.to _ _ ?_ ?_ IH
      · exact ⟨Le.refl _, Le.refl _, Le.refl _, Le.refl _, Le.refl _, Le.refl _, Le.refl _, Le.refl _, trivial⟩
      · exact ⟨MOle.refl _, MOle.refl _, MOle.refl _, MOle.refl _, trivial⟩
    all_goals (
      have hl : ¬ lacB t c i = true := by unfold lacB dag; simp [*]
      have hn : stNx t c o i s = if fndS s.1 (eqSt t c o i) i < 0 then (s.1 ++ [(s.2 : Int)], s.2 + 1) else (s.1 ++ [fndS s.1 (eqSt t c o i) i], s.2) := if_neg hl
      refine Run.to [(1, .int .i64 c), (2, .int .i64 o), (3, .box 3 0), (8, .int .i64 (s.2 : Int)), (9, .row 1000), (10, .row 42), (11, .row 46), (12, .int .i64 (i : Int)), (14, .bool (thB t c i)), (15, .str (keyAt t c o i)), (17, .int .i64 (-1)), (18, .int .i64 0)] [(3, .box 25 [tWit.L t.wits, tIL.L t.cols]), (1000, tI.R 3 s.1), (42, tS.R 9 (ks ++ [keyAt t c o i])), (46, tB.R 4 (ths ++ [thB t c i]))] ⟨Le.refl _, Le.refl _, Le.refl _, Le.refl _, Le.refl _, Le.refl _, Le.refl _, Le.refl _, Le.refl _, Le.refl _, Le.refl _, Le.refl _, trivial⟩ ⟨MOle.refl _, MOle.refl _, tS.push 9 ks _ _ (one0 (Le.refl _)), tB.push 4 ths _ _ (one0 (Le.refl _)), trivial⟩ ?_
      refine Run.hold (z := 42) 10 1001 (by rfl) (by rfl) (by rfl) ?_
      refine Run.hold (z := 46) 11 1002 (by rfl) (by rfl) (by rfl) ?_
      refine Run.loop [1, 2, 8, 12, 14, 15] (fun (k : Nat) => [(3, .box 3 0), (9, .row 1000), (10, .row 1001), (11, .row 1002), (17, .int .i64 (fndS s.1 (eqSt t c o i) k)), (18, .int .i64 (k : Int))]) (fun k => [(3, .box 25 [tWit.L t.wits, tIL.L t.cols]), (1000, tI.R 3 s.1), (1001, tS.R 9 (ks ++ [keyAt t c o i])), (1002, tB.R 4 (ths ++ [thB t c i]))]) (fun k => k ≤ i) (fun k => i - k) 0 (Nat.zero_le _) ⟨Le.refl _, Le.refl _, Le.refl _, Le.refl _, Le.refl _, Le.refl _, trivial⟩ ⟨MOle.refl _, MOle.refl _, MOle.refl _, MOle.refl _, trivial⟩ ?_
      intro k hk IH2
      have hwk : IntKind.i64.wrap ((k : Int) + 1) = ((k + 1 : Nat) : Int) := wrap64 (by omega) (by omega)
      have hwc : IntKind.i64.wrap ((s.2 : Int) + 1) = ((s.2 + 1 : Nat) : Int) := wrap64 (by omega) (by omega)
      have hst := fndS_stop (ms := s.1) (p := eqSt t c o i) (k := k)
      have hfk : fndS s.1 (eqSt t c o i) (k + 1) = if 0 ≤ fndS s.1 (eqSt t c o i) k then fndS s.1 (eqSt t c o i) k else if 0 ≤ s.1.getD k 0 ∧ eqSt t c o i k = true then s.1.getD k 0 else -1 := rfl
      have hml : k < i → k < s.1.length := fun h => by omega
      have hll : k < i → k < (ks ++ [keyAt t c o i]).length ∧ k < (ths ++ [thB t c i]).length := fun h => by simp; omega
      have hke : k < i → (ks ++ [keyAt t c o i]).getD ((k : Nat) : Int).toNat tS.z = keyAt t c o k := fun h => by rw [Int.toNat_natCast, getD_app1 (by omega), hka k h]
      have hte : k < i → (ths ++ [thB t c i]).getD ((k : Nat) : Int).toNat tB.z = thB t c k := fun h => by rw [Int.toNat_natCast, getD_app1 (by omega), hta k h]
      have heq : eqSt t c o i k = (decide (thB t c k = thB t c i) && decide (keyAt t c o k = keyAt t c o i)) := rfl
      generalize hF : fndS s.1 (eqSt t c o i) k = F at hst hfk
      show Run _ _ (lst (_ ++ [(3, .box 3 0), (9, .row 1000), (10, .row 1001), (11, .row 1002), (17, .int .i64 F), (18, .int .i64 (k : Int))])) (lstH [(3, .box 25 [tWit.L t.wits, tIL.L t.cols]), (1000, tI.R 3 s.1), (1001, tS.R 9 (ks ++ [keyAt t c o i])), (1002, tB.R 4 (ths ++ [thB t c i]))])
      have hF1 : -1 ≤ F := by rw [← hF]; exact (fndS_lt (n := (s.2 : Int)) (fun k hk => (hs3 k (by omega)).2) (by omega) k (by omega)).1
      have hyes : F < 0 → 0 ≤ s.1.getD k 0 → eqSt t c o i k = true → s.1.getD k 0 = fndS s.1 (eqSt t c o i) (k + 1) := fun a b d => by rw [hfk, if_neg (by omega), if_pos ⟨b, d⟩]
      have hno : F < 0 → ¬ (0 ≤ s.1.getD k 0 ∧ eqSt t c o i k = true) → F = fndS s.1 (eqSt t c o i) (k + 1) := fun a b => by rw [hfk, if_neg (by omega), if_neg b]; omega
      have heqk : k < i → ((ths ++ [thB t c i]).getD ((k : Nat) : Int).toNat tB.z == thB t c i) = true → (ks ++ [keyAt t c o i]).getD ((k : Nat) : Int).toNat tS.z = keyAt t c o i → eqSt t c o i k = true := fun h a b => by
        rw [hte h] at a; rw [hke h] at b
        rw [heq, decide_eq_true (eq_of_beq a), decide_eq_true b]; rfl
      have hne1 : k < i → ¬ (ks ++ [keyAt t c o i]).getD ((k : Nat) : Int).toNat tS.z = keyAt t c o i → ¬ eqSt t c o i k = true := fun h a => by
        rw [hke h] at a
        rw [heq, decide_eq_false a, Bool.and_false]; decide
      have hne2 : k < i → ((ths ++ [thB t c i]).getD ((k : Nat) : Int).toNat tB.z == thB t c i) = false → ¬ eqSt t c o i k = true := fun h a => by
        rw [hte h] at a
        rw [heq, decide_eq_false (fun e => by rw [e] at a; simp at a), Bool.false_and]; decide
      refine Run.go ?_; (conv => whnf); repeat' (first | ((with_reducible refine Know.mk fun _ => ?_); conv => whnf) | ((with_reducible refine Need.mk ?_ ?_); exact nd; conv => whnf) | ((with_reducible refine Both.mk ?_ ?_) <;> conv => whnf) | ((with_reducible refine Any.mk fun b hb => ?_); conv => whnf) | ((with_reducible first | refine AskB.dec (fun hb => ?_) (fun hb => ?_) | refine AskB.ndec (fun hb => ?_) (fun hb => ?_) | refine AskB.mk (fun hb => ?_) (fun hb => ?_)) <;> first | (exfalso; omega) | (conv => whnf)) | ((with_reducible first | refine Run.drawX rfl (by decide +kernel) ?_ | refine Run.drawT rfl (by decide +kernel) ?_ | refine Run.drawW rfl (by decide +kernel) ?_); conv => whnf))
      all_goals try (exfalso; omega)
      all_goals first
        | (refine Run.to _ _ ?_ ?_ (IH2 (k + 1) (by omega) (by omega))
           · exact ⟨Le.refl _, Le.refl _, Le.refl _, Le.refl _, Le.refl _, Le.refl _, Le.refl _, Le.refl _, Le.refl _, Le.refl _, Le.int (by first
               | exact hyes (by omega) (by assumption) (heqk (by omega) (by assumption) (by assumption))
               | exact hno (by omega) (fun h => hne1 (by omega) (by assumption) h.2)
               | exact hno (by omega) (fun h => hne2 (by omega) (by assumption) h.2)
               | exact hno (by omega) (fun h => absurd h.1 (by assumption))), Le.int hwk, trivial⟩
           · exact ⟨MOle.refl _, MOle.refl _, MOle.refl _, MOle.refl _, trivial⟩)
        | (have h0 : 0 ≤ F := by omega
           have hsn : stNx t c o i s = (s.1 ++ [F], s.2) := by rw [hn, hst h0 i hk, if_neg (by omega)]
           refine Run.to [(1, .int .i64 c), (2, .int .i64 o), (3, .box 3 0), (8, .int .i64 ((s.2 : Nat) : Int)), (9, .row 97), (10, .row 1001), (11, .row 1002), (12, .int .i64 ((i + 1 : Nat) : Int))] [(3, .box 25 [tWit.L t.wits, tIL.L t.cols]), (97, tI.R 3 (s.1 ++ [F])), (1001, tS.R 9 (ks ++ [keyAt t c o i])), (1002, tB.R 4 (ths ++ [thB t c i]))] ⟨Le.refl _, Le.refl _, Le.refl _, Le.refl _, Le.refl _, Le.refl _, Le.refl _, Le.int hwi, trivial⟩ ⟨MOle.refl _, tI.push 3 s.1 _ _ (one0 (Le.refl _)), MOle.refl _, MOle.refl _, trivial⟩ ?_
           refine Run.hold (z := 97) 9 1000 (by rfl) (by rfl) (by rfl) ?_
           have IH := IH (i + 1) (by omega) (by omega)
           rw [hnx, hsn, hkn, htn] at IH
           refine Run.to _ _ ?_ ?_ IH
           · exact ⟨Le.refl _, Le.refl _, Le.refl _, Le.refl _, Le.refl _, Le.refl _, Le.refl _, Le.refl _, trivial⟩
           · exact ⟨MOle.refl _, MOle.refl _, MOle.refl _, MOle.refl _, trivial⟩)
        | (have hki : k = i := by omega
           have hfe : fndS s.1 (eqSt t c o i) i = F := by rw [← hF]; exact congrArg _ hki.symm
           have hfi : fndS s.1 (eqSt t c o i) i < 0 := by rw [hfe]; omega
           have hsn : stNx t c o i s = (s.1 ++ [(s.2 : Int)], s.2 + 1) := by rw [hn, if_pos hfi]
           refine Run.to [(1, .int .i64 c), (2, .int .i64 o), (3, .box 3 0), (8, .int .i64 ((s.2 + 1 : Nat) : Int)), (9, .row 97), (10, .row 1001), (11, .row 1002), (12, .int .i64 ((i + 1 : Nat) : Int))] [(3, .box 25 [tWit.L t.wits, tIL.L t.cols]), (97, tI.R 3 (s.1 ++ [(s.2 : Int)])), (1001, tS.R 9 (ks ++ [keyAt t c o i])), (1002, tB.R 4 (ths ++ [thB t c i]))] ⟨Le.refl _, Le.refl _, Le.refl _, Le.int hwc, Le.refl _, Le.refl _, Le.refl _, Le.int hwi, trivial⟩ ⟨MOle.refl _, tI.push 3 s.1 _ _ (one0 (Le.refl _)), MOle.refl _, MOle.refl _, trivial⟩ ?_
           refine Run.hold (z := 97) 9 1000 (by rfl) (by rfl) (by rfl) ?_
           have IH := IH (i + 1) (by omega) (by omega)
           rw [hnx, hsn, hkn, htn] at IH
           refine Run.to _ _ ?_ ?_ IH
           · exact ⟨Le.refl _, Le.refl _, Le.refl _, Le.refl _, Le.refl _, Le.refl _, Le.refl _, Le.refl _, trivial⟩
           · exact ⟨MOle.refl _, MOle.refl _, MOle.refl _, MOle.refl _, trivial⟩))
  · obtain rfl : i = t.wits.length := by omega
    unfold statesL
    rw [hS]
    refine Run.go ?_; (conv => whnf); repeat' (first | ((with_reducible refine Know.mk fun _ => ?_); conv => whnf) | ((with_reducible refine Need.mk ?_ ?_); exact nd; conv => whnf) | ((with_reducible refine Both.mk ?_ ?_) <;> conv => whnf) | ((with_reducible refine Any.mk fun b hb => ?_); conv => whnf) | ((with_reducible first | refine AskB.dec (fun hb => ?_) (fun hb => ?_) | refine AskB.ndec (fun hb => ?_) (fun hb => ?_) | refine AskB.mk (fun hb => ?_) (fun hb => ?_)) <;> first | (exfalso; omega) | (conv => whnf)) | ((with_reducible first | refine Run.drawX rfl (by decide +kernel) ?_ | refine Run.drawT rfl (by decide +kernel) ?_ | refine Run.drawW rfl (by decide +kernel) ?_); conv => whnf))
    all_goals try (exfalso; omega)
    exact Run.leave (ts := [6,7]) (.inr ⟨_, rfl⟩) rfl Tryd.func50 rfl (resT ⟨Le.refl _, Le.refl _, trivial⟩)
end Go.Proofs.YtnadacaoehpdnaaDoor.V

namespace Go.Proofs.YtnadacaoehpdnaaDoor.V
set_option linter.unusedVariables false
set_option linter.unusedSimpArgs false
open Go Go.Proofs Go.RowKit
set_option maxRecDepth 100000
structure RCov (t : Tab) (c : Nat) (o : Int) (n : Nat) (l : List Rd) : Prop where
  dist : ∀ i1 i2, i1 < l.length → i2 < l.length → i1 ≠ i2 → ¬ ((l.getD i1 rd0).none = (l.getD i2 rd0).none ∧ textF (l.getD i1 rd0).text o = textF (l.getD i2 rd0).text o)
  cov : ∀ j, j < n → ∃ i, i < l.length ∧ ∃ k, k < (l.getD i rd0).wits.length ∧ (l.getD i rd0).wits.getD k 0 = (j : Int)
theorem read_cov (t : Tab) (c : Nat) (o : Int) : ∀ n, RCov t c o n (readE t c o n)
  | 0 => ⟨fun i1 i2 h => absurd h (Nat.not_lt_zero _), fun j h => absurd h (Nat.not_lt_zero _)⟩
  | n + 1 => by
    have ih := read_cov t c o n
    have hstep : readE t c o (n + 1) = addR o (readE t c o n) n (decide (atC t c n < 0)) (textAt t c n) (keyAt t c o n) := rfl
    generalize readE t c o n = l at ih hstep
    rw [hstep]
    by_cases hk : l.findIdx (sameR o (decide (atC t c n < 0)) (keyAt t c o n)) < l.length
    · obtain ⟨e1, _, _⟩ := add_hit (i := (n : Int)) (text := textAt t c n) hk
      rw [e1]
      generalize l.findIdx (sameR o (decide (atC t c n < 0)) (keyAt t c o n)) = k at hk
      have hlen : (pushW l k n).length = l.length := push_len l k n
      have hsame : ∀ i, ((pushW l k n).getD i rd0).none = (l.getD i rd0).none ∧ ((pushW l k n).getD i rd0).text = (l.getD i rd0).text := fun i => by
        rw [push_at l k n hk]
        split
        · rename_i e; subst e; exact ⟨rfl, rfl⟩
        · exact ⟨rfl, rfl⟩
      have hw : ((pushW l k n).getD k rd0).wits = (l.getD k rd0).wits ++ [(n : Int)] := by rw [push_at l k n hk, if_pos rfl]
      refine ⟨fun i1 i2 h1 h2 hne => ?_, fun j hj => ?_⟩
      · rw [(hsame i1).1, (hsame i2).1, (hsame i1).2, (hsame i2).2]
        exact ih.dist i1 i2 (by omega) (by omega) hne
      · by_cases hjn : j < n
        · obtain ⟨i, hi, q, hq, he⟩ := ih.cov j hjn
          refine ⟨i, by omega, q, ?_⟩
          by_cases e : i = k
          · subst e
            rw [hw]
            exact ⟨by rw [List.length_append]; omega, by rw [getD_app1 hq]; exact he⟩
          · rw [push_at l k n hk, if_neg e]; exact ⟨hq, he⟩
        · obtain rfl : j = n := by omega
          refine ⟨k, by omega, (l.getD k rd0).wits.length, ?_⟩
          rw [hw]
          exact ⟨by simp, getD_app2⟩
    · have hm : l.findIdx (sameR o (decide (atC t c n < 0)) (keyAt t c o n)) = l.length := by
        have := List.findIdx_le_length (p := sameR o (decide (atC t c n < 0)) (keyAt t c o n)) (xs := l)
        omega
      rw [add_miss hm]
      have hold : ∀ i, i < l.length → (l ++ [(⟨decide (atC t c n < 0), textAt t c n, [(n : Int)]⟩ : Rd)]).getD i rd0 = l.getD i rd0 := fun i hi => getD_app1 hi
      have hnew : (l ++ [(⟨decide (atC t c n < 0), textAt t c n, [(n : Int)]⟩ : Rd)]).getD l.length rd0 = ⟨decide (atC t c n < 0), textAt t c n, [(n : Int)]⟩ := getD_app2
      have hl : (l ++ [(⟨decide (atC t c n < 0), textAt t c n, [(n : Int)]⟩ : Rd)]).length = l.length + 1 := by simp
      have hno := miss_not hm
      refine ⟨fun i1 i2 h1 h2 hne => ?_, fun j hj => ?_⟩
      · rw [hl] at h1 h2
        by_cases a1 : i1 < l.length
        · rw [hold i1 a1]
          by_cases a2 : i2 < l.length
          · rw [hold i2 a2]; exact ih.dist i1 i2 a1 a2 hne
          · obtain rfl : i2 = l.length := by omega
            rw [hnew]
            rintro ⟨b1, b2⟩
            exact hno _ (getD_mem' (z := rd0) i1 a1) ⟨b1, b2.trans (key_text t c o n)⟩
        · obtain rfl : i1 = l.length := by omega
          rw [hnew, hold i2 (by omega)]
          rintro ⟨b1, b2⟩
          exact hno _ (getD_mem' (z := rd0) i2 (by omega)) ⟨b1.symm, b2.symm.trans (key_text t c o n)⟩
      · by_cases hjn : j < n
        · obtain ⟨i, hi, q, hq, he⟩ := ih.cov j hjn
          exact ⟨i, by omega, q, by rw [hold i hi]; exact ⟨hq, he⟩⟩
        · obtain rfl : j = n := by omega
          exact ⟨l.length, by omega, 0, by rw [hnew]; exact ⟨Nat.one_pos, rfl⟩⟩
/-- A witness has one reading only, and in it one place. -/
theorem wit_once {t : Tab} {c n : Nat} {o : Int} {l : List Rd} (hi : RInv t c o n l) (hc : RCov t c o n l) {i1 i2 k1 k2 : Nat} (h1 : i1 < l.length) (h2 : i2 < l.length) (q1 : k1 < (l.getD i1 rd0).wits.length) (q2 : k2 < (l.getD i2 rd0).wits.length)
    (he : (l.getD i1 rd0).wits.getD k1 0 = (l.getD i2 rd0).wits.getD k2 0) : i1 = i2 := by
  obtain ⟨_, _, a3, a4⟩ := (hi.ws i1 h1).at' k1 q1
  obtain ⟨_, _, b3, b4⟩ := (hi.ws i2 h2).at' k2 q2
  rw [he] at a3 a4
  by_cases e : i1 = i2
  · exact e
  · exact absurd ⟨a3.trans b3.symm, a4.trans b4.symm⟩ (hc.dist i1 i2 h1 h2 e)
/-- Of which reading a witness is. -/
theorem class_iff {t : Tab} {c n : Nat} {o : Int} {l : List Rd} (hi : RInv t c o n l) (hc : RCov t c o n l) {i1 i2 k1 k2 : Nat} (h1 : i1 < l.length) (h2 : i2 < l.length) (q1 : k1 < (l.getD i1 rd0).wits.length) (q2 : k2 < (l.getD i2 rd0).wits.length) :
    eqSt t c o ((l.getD i2 rd0).wits.getD k2 0).toNat ((l.getD i1 rd0).wits.getD k1 0).toNat = true ↔ i1 = i2 := by
  obtain ⟨_, _, a3, a4⟩ := (hi.ws i1 h1).at' k1 q1
  obtain ⟨_, _, b3, b4⟩ := (hi.ws i2 h2).at' k2 q2
  unfold eqSt thB
  rw [← a3, ← b3, ← a4, ← b4, Bool.and_eq_true, decide_eq_true_eq, decide_eq_true_eq]
  constructor
  · rintro ⟨e1, e2⟩
    by_cases e : i1 = i2
    · exact e
    · exact absurd ⟨Bool.not_inj e1, e2⟩ (hc.dist i1 i2 h1 h2 e)
  · rintro rfl; exact ⟨rfl, rfl⟩
end Go.Proofs.YtnadacaoehpdnaaDoor.V

namespace Go.Proofs.YtnadacaoehpdnaaDoor.V
set_option linter.unusedVariables false
set_option linter.unusedSimpArgs false
open Go Go.Proofs Go.RowKit
set_option maxRecDepth 100000
theorem mget_mset {α β : Type} [DecidableEq α] (k : α) (v : β) (k' : α) : ∀ l : List (α × β), mget k' (mset k v l) = if k' = k then some v else mget k' l
  | [] => by simp only [mset, mget]
  | p :: l => by
    simp only [mset]
    by_cases e : k = p.1
    · rw [if_pos e]
      simp only [mget]
      by_cases e2 : k' = k
      · rw [if_pos e2, if_pos e2]
      · rw [if_neg e2, if_neg e2, if_neg (fun h => e2 (h.trans e.symm))]
    · rw [if_neg e]
      simp only [mget]
      by_cases e2 : k' = p.1
      · rw [if_pos e2, if_pos e2, if_neg (fun h => e (h.symm.trans e2))]
      · rw [if_neg e2, if_neg e2]; exact mget_mset k v k' l
theorem mset_len {α β : Type} [DecidableEq α] (k : α) (v : β) : ∀ l : List (α × β), mget k l = none → (mset k v l).length = l.length + 1
  | [], _ => rfl
  | p :: l, h => by
    simp only [mget] at h
    by_cases e : k = p.1
    · rw [if_pos e] at h; cases h
    · rw [if_neg e] at h
      simp only [mset]
      rw [if_neg e, List.length_cons, List.length_cons, mset_len k v l h]
/-- The map behind the first witnesses. -/
def numM (cls : Nat → Int) : Nat → List (Int × Int)
  | 0 => [(-1, -1)]
  | i + 1 => if (mget (cls i) (numM cls i)).isSome = true then numM cls i else mset (cls i) (((numM cls i).length : Int) - 1) (numM cls i)
/-- What the classes are of. -/
structure ClsOk (t : Tab) (c : Nat) (o : Int) (n : Nat) (cls : Nat → Int) : Prop where
  lac : ∀ i, i < n → lacB t c i = true → cls i = -1
  pos : ∀ i, i < n → ¬ lacB t c i = true → 0 ≤ cls i
  same : ∀ i k, i < n → k < n → ¬ lacB t c i = true → ¬ lacB t c k = true → (eqSt t c o i k = true ↔ cls k = cls i)
theorem fndS_hit {ms : List Int} {p : Nat → Bool} {v : Int} {N : Nat} (hv : 0 ≤ v) (h : ∀ k, k < N → 0 ≤ ms.getD k 0 → p k = true → ms.getD k 0 = v) : ∀ n, n ≤ N → (∃ k, k < n ∧ 0 ≤ ms.getD k 0 ∧ p k = true) → fndS ms p n = v
  | 0, _, ⟨k, hk, _⟩ => absurd hk (Nat.not_lt_zero _)
  | n + 1, hn, ⟨k, hk, h1, h2⟩ => by
    have hs : fndS ms p (n + 1) = if 0 ≤ fndS ms p n then fndS ms p n else if 0 ≤ ms.getD n 0 ∧ p n = true then ms.getD n 0 else -1 := rfl
    rw [hs]
    by_cases hex : ∃ q, q < n ∧ 0 ≤ ms.getD q 0 ∧ p q = true
    · rw [fndS_hit hv h n (by omega) hex, if_pos hv]
    · have hkn : k = n := by
        by_cases e : k < n
        · exact absurd ⟨k, e, h1, h2⟩ hex
        · omega
      subst hkn
      have hm : fndS ms p k = -1 := by
        have : ∀ m, m ≤ k → fndS ms p m = -1 := fun m => by
          induction m with
          | zero => intro _; rfl
          | succ m ih =>
            intro hm
            have hs2 : fndS ms p (m + 1) = if 0 ≤ fndS ms p m then fndS ms p m else if 0 ≤ ms.getD m 0 ∧ p m = true then ms.getD m 0 else -1 := rfl
            rw [hs2, ih (by omega), if_neg (by decide), if_neg (fun hh => hex ⟨m, by omega, hh.1, hh.2⟩)]
        exact this k (Nat.le_refl _)
      rw [hm, if_neg (by decide), if_pos ⟨h1, h2⟩]
      exact h k (by omega) h1 h2
theorem fndS_miss {ms : List Int} {p : Nat → Bool} : ∀ n, (∀ k, k < n → ¬ (0 ≤ ms.getD k 0 ∧ p k = true)) → fndS ms p n = -1
  | 0, _ => rfl
  | n + 1, h => by
    have ih := fndS_miss n (fun k hk => h k (by omega))
    have hs : fndS ms p (n + 1) = if 0 ≤ fndS ms p n then fndS ms p n else if 0 ≤ ms.getD n 0 ∧ p n = true then ms.getD n 0 else -1 := rfl
    rw [hs, ih, if_neg (by decide), if_neg (h n (by omega))]
structure NumOk (t : Tab) (c : Nat) (o : Int) (cls : Nat → Int) (i : Nat) : Prop where
  len : (numM cls i).length = (stE t c o i).2 + 1
  one : mget (-1) (numM cls i) = some (-1)
  at' : ∀ k, k < i → mget (cls k) (numM cls i) = some ((stE t c o i).1.getD k 0)
  key : ∀ s, s ≠ -1 → (mget s (numM cls i)).isSome = true → ∃ k, k < i ∧ cls k = s
  lac : ∀ k, k < i → (lacB t c k = true ↔ (stE t c o i).1.getD k 0 < 0)
theorem num_ok {t : Tab} {c n : Nat} {o : Int} {cls : Nat → Int} (h : ClsOk t c o n cls) : ∀ i, i ≤ n → NumOk t c o cls i
  | 0, _ => ⟨rfl, rfl, fun k hk => absurd hk (Nat.not_lt_zero _), fun s hs hh => by simp [numM, mget, hs] at hh, fun k hk => absurd hk (Nat.not_lt_zero _)⟩
  | i + 1, hi => by
    obtain ⟨g1, g2, g3, g4, g5⟩ := num_ok h i (by omega)
    obtain ⟨s1, s2, s3⟩ := stE_ok t c o i
    have hM : numM cls (i + 1) = if (mget (cls i) (numM cls i)).isSome = true then numM cls i else mset (cls i) (((numM cls i).length : Int) - 1) (numM cls i) := rfl
    have hS : stE t c o (i + 1) = stNx t c o i (stE t c o i) := rfl
    have hS2 : stNx t c o i (stE t c o i) = if lacB t c i = true then ((stE t c o i).1 ++ [-1], (stE t c o i).2) else if fndS (stE t c o i).1 (eqSt t c o i) i < 0 then ((stE t c o i).1 ++ [((stE t c o i).2 : Int)], (stE t c o i).2 + 1) else ((stE t c o i).1 ++ [fndS (stE t c o i).1 (eqSt t c o i) i], (stE t c o i).2) := rfl
    rw [hS2] at hS
    generalize numM cls i = M at g1 g2 g3 g4 hM
    generalize stE t c o i = st at g1 g3 g5 s1 s2 s3 hS
    have hap : ∀ (x : Int) k, k < i → (st.1 ++ [x]).getD k 0 = st.1.getD k 0 := fun x k hk => getD_app1 (by omega)
    have hae : ∀ x : Int, (st.1 ++ [x]).getD i 0 = x := fun x => by rw [← s1]; exact getD_app2
    by_cases hl : lacB t c i = true
    · have hc := h.lac i (by omega) hl
      rw [if_pos hl] at hS
      rw [hc, g2, if_pos (by rfl)] at hM
      refine ⟨by rw [hM, hS]; exact g1, by rw [hM]; exact g2, fun k hk => ?_, fun s hs hh => ?_, fun k hk => ?_⟩
      · rw [hM, hS]
        by_cases e : k = i
        · rw [e, hc, g2, hae]
        · rw [hap _ k (by omega)]; exact g3 k (by omega)
      · rw [hM] at hh
        obtain ⟨k, hk, e⟩ := g4 s hs hh
        exact ⟨k, by omega, e⟩
      · rw [hS]
        by_cases e : k = i
        · rw [e, hae]; exact ⟨fun _ => by decide, fun _ => hl⟩
        · rw [hap _ k (by omega)]; exact g5 k (by omega)
    · have hcp := h.pos i (by omega) hl
      rw [if_neg hl] at hS
      have hpos : ∀ k, k < i → (0 ≤ st.1.getD k 0 ∧ eqSt t c o i k = true ↔ cls k = cls i) := fun k hk => by
        constructor
        · rintro ⟨a, b⟩
          have hnl : ¬ lacB t c k = true := fun hh => by have := (g5 k hk).mp hh; omega
          exact (h.same i k (by omega) (by omega) hl hnl).mp b
        · intro e
          have hnl : ¬ lacB t c k = true := fun hh => by have := h.lac k (by omega) hh; omega
          have h5 := g5 k hk
          exact ⟨by by_cases hz : st.1.getD k 0 < 0; exact absurd (h5.mpr hz) hnl; omega, (h.same i k (by omega) (by omega) hl hnl).mpr e⟩
      cases hg : mget (cls i) M with
      | some v =>
        obtain ⟨k, hk, e⟩ := g4 (cls i) (by omega) (by rw [hg]; rfl)
        have hv : st.1.getD k 0 = v := by
          have := g3 k hk
          rw [e, hg] at this
          exact (Option.some.inj this).symm
        have hk2 := (hpos k hk).mpr e
        have hf : fndS st.1 (eqSt t c o i) i = v := fndS_hit (N := i) (by omega) (fun q hq a b => by
          have e2 := (hpos q hq).mp ⟨a, b⟩
          have := g3 q hq
          rw [e2, hg] at this
          exact (Option.some.inj this).symm) i (Nat.le_refl _) ⟨k, hk, hk2⟩
        have hv0 : 0 ≤ v := by omega
        rw [hf, if_neg (by omega)] at hS
        rw [hg, if_pos (by rfl)] at hM
        refine ⟨by rw [hM, hS]; exact g1, by rw [hM]; exact g2, fun q hq => ?_, fun s hs hh => ?_, fun q hq => ?_⟩
        · rw [hM, hS]
          by_cases e : q = i
          · rw [e, hg, hae]
          · rw [hap _ q (by omega)]; exact g3 q (by omega)
        · rw [hM] at hh
          obtain ⟨q, hq, e⟩ := g4 s hs hh
          exact ⟨q, by omega, e⟩
        · rw [hS]
          by_cases e : q = i
          · rw [e, hae]; exact ⟨fun x => absurd x hl, fun x => by omega⟩
          · rw [hap _ q (by omega)]; exact g5 q (by omega)
      | none =>
        have hf : fndS st.1 (eqSt t c o i) i = -1 := fndS_miss i fun q hq hh => by
          have e2 := (hpos q hq).mp hh
          have := g3 q hq
          rw [e2, hg] at this
          cases this
        rw [hf, if_pos (by decide)] at hS
        rw [hg, if_neg (by simp)] at hM
        have hlen : ((M.length : Nat) : Int) - 1 = (st.2 : Int) := by omega
        refine ⟨by rw [hM, hS, mset_len _ _ _ hg, g1], by rw [hM, mget_mset, if_neg (by omega)]; exact g2, fun q hq => ?_, fun s hs hh => ?_, fun q hq => ?_⟩
        · rw [hM, hS, mget_mset]
          by_cases e : q = i
          · rw [e, if_pos rfl, hae, hlen]
          · have h3 := g3 q (by omega)
            rw [if_neg (fun e2 => by rw [e2, hg] at h3; cases h3), hap _ q (by omega)]; exact h3
        · rw [hM, mget_mset] at hh
          by_cases e : s = cls i
          · exact ⟨i, by omega, e.symm⟩
          · rw [if_neg e] at hh
            obtain ⟨q, hq, e⟩ := g4 s hs hh
            exact ⟨q, by omega, e⟩
        · rw [hS]
          by_cases e : q = i
          · rw [e, hae]; exact ⟨fun x => absurd x hl, fun x => by omega⟩
          · rw [hap _ q (by omega)]; exact g5 q (by omega)
end Go.Proofs.YtnadacaoehpdnaaDoor.V

namespace Go.Proofs.YtnadacaoehpdnaaDoor.V
set_option linter.unusedVariables false
set_option linter.unusedSimpArgs false
open Go Go.Proofs Go.RowKit
set_option maxRecDepth 100000
set_option maxHeartbeats 2000000
open Go Go.Proofs Go.Proofs.YtnadacaoehpdnaaDoor.V
def tRow : Ty (List Int) := ⟨1, fun l _ => tI.L l, []⟩
def mxA (m : List (List Int)) : AV := .agg 1 (fun _ => tRow.L m)
def RowOk (m : List (List Int)) (i : Nat) : Prop := (m.getD i tRow.z).length = (m.getD 0 tRow.z).length ∧ (m.getD i tRow.z).length ≤ 4096 ∧ ∀ j, j < (m.getD i tRow.z).length → -1 ≤ (m.getD i tRow.z).getD j tI.z ∧ (m.getD i tRow.z).getD j tI.z < 12
def OkM (m : List (List Int)) : Prop := 0 < m.length ∧ m.length ≤ 12 ∧ ∀ i, i < m.length → RowOk m i
open Classical in
noncomputable def codeM (m : List (List Int)) : Int := if OkM m then 0 else 190
theorem codeM_yes {m : List (List Int)} (h : OkM m) : codeM m = 0 := if_pos h
theorem codeM_no {m : List (List Int)} (h : ¬ OkM m) : codeM m = 190 := if_neg h
theorem codeM_zero {m : List (List Int)} (h : codeM m = 0) : OkM m := by
  by_cases h2 : OkM m
  · exact h2
  · rw [codeM_no h2] at h; cases h
theorem check32_fn (m : List (List Int)) : Fn Tryd.prog 32 [mxA m] (.int .i64 (codeM m)) := by
  refine Fn.of Tryd.f32 _ Tryd.func32 rfl (by decide) (by show 1 ≤ _; decide) tbOk 51 rfl fun S w0 gl => ?_
  unfold mxA
  refine Run.go ?_; (conv => whnf); repeat' (first | ((with_reducible refine Know.mk fun _ => ?_); conv => whnf) | ((with_reducible refine Need.mk ?_ ?_); exact nd; conv => whnf) | ((with_reducible first | refine Both.mk ?_ ?_ | refine Any.mk fun b hb => ?_ | refine AskB.dec (fun hb => ?_) (fun hb => ?_) | refine AskB.ndec (fun hb => ?_) (fun hb => ?_) | refine AskB.mk (fun hb => ?_) (fun hb => ?_)) <;> conv => whnf) | ((with_reducible first | refine Run.drawX rfl (by decide +kernel) ?_ | refine Run.drawT rfl (by decide +kernel) ?_ | refine Run.drawW rfl (by decide +kernel) ?_); conv => whnf))
  case _ => exact Run.leave (ts := [2]) (.inr ⟨_, rfl⟩) rfl Tryd.func32 rfl (Le.int (codeM_no (fun h => by have := h.1; omega)).symm)
  case _ => exact Run.leave (ts := [2]) (.inr ⟨_, rfl⟩) rfl Tryd.func32 rfl (Le.int (codeM_no (fun h => by have := h.2.1; omega)).symm)
  refine Run.loop [1, 18, 19] (fun (i : Nat) => [(20, .int .i64 (i : Int))]) (fun i => [(1, .box 59 [tRow.L m])]) (fun i => i ≤ m.length ∧ ∀ i', i' < i → RowOk m i') (fun i => m.length - i) 0 ⟨Nat.zero_le _, fun _ h => absurd h (Nat.not_lt_zero _)⟩ ⟨Le.refl _, trivial⟩ ⟨MOle.refl _, trivial⟩ ?_
  intro i ⟨hi, hc⟩ IH
  have hw : IntKind.i64.wrap ((i : Int) + 1) = ((i + 1 : Nat) : Int) := wrap64 (by omega) (by omega)
  refine Run.go ?_; (conv => whnf); repeat' (first | ((with_reducible refine Know.mk fun _ => ?_); conv => whnf) | ((with_reducible refine Need.mk ?_ ?_); exact nd; conv => whnf) | ((with_reducible first | refine Both.mk ?_ ?_ | refine Any.mk fun b hb => ?_ | refine AskB.dec (fun hb => ?_) (fun hb => ?_) | refine AskB.ndec (fun hb => ?_) (fun hb => ?_) | refine AskB.mk (fun hb => ?_) (fun hb => ?_)) <;> conv => whnf) | ((with_reducible first | refine Run.drawX rfl (by decide +kernel) ?_ | refine Run.drawT rfl (by decide +kernel) ?_ | refine Run.drawW rfl (by decide +kernel) ?_); conv => whnf))
  · exact Run.leave (ts := [2]) (.inr ⟨_, rfl⟩) rfl Tryd.func32 rfl (Le.int (codeM_no (fun h => by have h2 := (h.2.2 i (by omega)).2.1; simp only [Int.toNat_natCast] at hb; omega)).symm)
  · have hlen : (m.getD i tRow.z).length ≤ 4096 := by simp only [Int.toNat_natCast] at *; omega
    have heq : (m.getD i tRow.z).length = (m.getD 0 tRow.z).length := by simp only [Int.toNat_natCast, Int.toNat_zero] at *; omega
    refine Run.loop [1, 18, 19, 20, 37, 38] (fun (j : Nat) => [(39, .int .i64 (j : Int))]) (fun j => [(1, .box 59 [tRow.L m])]) (fun j => j ≤ (m.getD i tRow.z).length ∧ ∀ j', j' < j → -1 ≤ (m.getD i tRow.z).getD j' tI.z ∧ (m.getD i tRow.z).getD j' tI.z < 12) (fun j => (m.getD i tRow.z).length - j) 0 ⟨Nat.zero_le _, fun _ h => absurd h (Nat.not_lt_zero _)⟩ ⟨Le.refl _, trivial⟩ ⟨MOle.refl _, trivial⟩ ?_
    intro j ⟨hj, hcj⟩ IHj
    have hwj : IntKind.i64.wrap ((j : Int) + 1) = ((j + 1 : Nat) : Int) := wrap64 (by omega) (by omega)
    refine Run.go ?_; (conv => whnf); repeat' (first | ((with_reducible refine Know.mk fun _ => ?_); conv => whnf) | ((with_reducible refine Need.mk ?_ ?_); exact nd; conv => whnf) | ((with_reducible first | refine Both.mk ?_ ?_ | refine Any.mk fun b hb => ?_ | refine AskB.dec (fun hb => ?_) (fun hb => ?_) | refine AskB.ndec (fun hb => ?_) (fun hb => ?_) | refine AskB.mk (fun hb => ?_) (fun hb => ?_)) <;> conv => whnf) | ((with_reducible first | refine Run.drawX rfl (by decide +kernel) ?_ | refine Run.drawT rfl (by decide +kernel) ?_ | refine Run.drawW rfl (by decide +kernel) ?_); conv => whnf))
    case _ => exact Run.leave (ts := [2]) (.inr ⟨_, rfl⟩) rfl Tryd.func32 rfl (Le.int (codeM_no (fun h => by have h2 := ((h.2.2 i (by omega)).2.2 j (by simp only [Int.toNat_natCast] at *; omega)).1; simp only [Int.toNat_natCast] at hb; omega)).symm)
    case _ => exact Run.leave (ts := [2]) (.inr ⟨_, rfl⟩) rfl Tryd.func32 rfl (Le.int (codeM_no (fun h => by have h2 := ((h.2.2 i (by omega)).2.2 j (by simp only [Int.toNat_natCast] at *; omega)).2; simp only [Int.toNat_natCast] at hb; omega)).symm)
    case _ =>
      refine Run.to _ _ ?_ ?_ (IHj (j + 1) (by simp only [Int.toNat_natCast] at *; omega) ⟨by simp only [Int.toNat_natCast] at *; omega, ?_⟩)
      · exact ⟨Le.refl _, Le.refl _, Le.refl _, Le.refl _, Le.refl _, Le.refl _, Le.int hwj, trivial⟩
      · exact ⟨MOle.refl _, trivial⟩
      · intro j' hj'
        rcases Nat.lt_succ_iff_lt_or_eq.mp hj' with h | h
        · exact hcj j' h
        · subst h; simp only [Int.toNat_natCast] at *; exact ⟨by omega, by omega⟩
    case _ =>
      refine Run.to _ _ ?_ ?_ (IH (i + 1) (by omega) ⟨by omega, ?_⟩)
      · exact ⟨Le.refl _, Le.refl _, Le.refl _, Le.int hw, trivial⟩
      · exact ⟨MOle.refl _, trivial⟩
      · intro i' hi'
        rcases Nat.lt_succ_iff_lt_or_eq.mp hi' with h | h
        · exact hc i' h
        · subst h
          have hje : j = (m.getD i' tRow.z).length := by simp only [Int.toNat_natCast] at *; omega
          subst hje
          exact ⟨heq, hlen, hcj⟩
  · exact Run.leave (ts := [2]) (.inr ⟨_, rfl⟩) rfl Tryd.func32 rfl (Le.int (codeM_no (fun h => hb (by exact_mod_cast (h.2.2 i (by omega)).1))).symm)
  · have hie : i = m.length := by omega
    subst hie
    exact Run.leave (ts := [2]) (.inr ⟨_, rfl⟩) rfl Tryd.func32 rfl (Le.int (codeM_yes ⟨by omega, by omega, hc⟩).symm)
end Go.Proofs.YtnadacaoehpdnaaDoor.V

namespace Go.Proofs.YtnadacaoehpdnaaDoor.V
set_option linter.unusedVariables false
set_option linter.unusedSimpArgs false
open Go Go.Proofs Go.RowKit
set_option maxRecDepth 100000
set_option maxHeartbeats 2000000
open Go Go.Proofs Go.Proofs.YtnadacaoehpdnaaDoor.V
theorem ints17_fn (a b : List Int) (ha : a.length ≤ 100000) : Fn Tryd.prog 17 [tI.L a, tI.L b] (.bool (decide (a = b))) := by
  refine Fn.of Tryd.f17 _ Tryd.func17 rfl (by decide) (by show 2 ≤ _; decide) tbOk 26 rfl fun S w0 gl => ?_
  refine Run.go ?_; (conv => whnf); repeat' (first | ((with_reducible refine Know.mk fun _ => ?_); conv => whnf) | ((with_reducible refine Need.mk ?_ ?_); exact nd; conv => whnf) | ((with_reducible first | refine Both.mk ?_ ?_ | refine Any.mk fun b hb => ?_ | refine AskB.dec (fun hb => ?_) (fun hb => ?_) | refine AskB.ndec (fun hb => ?_) (fun hb => ?_) | refine AskB.mk (fun hb => ?_) (fun hb => ?_)) <;> conv => whnf) | ((with_reducible first | refine Run.drawX rfl (by decide +kernel) ?_ | refine Run.drawT rfl (by decide +kernel) ?_ | refine Run.drawW rfl (by decide +kernel) ?_); conv => whnf))
  · have hab : a.length = b.length := by omega
    refine Run.loop [0, 1] (fun (i : Nat) => [(5, .int .i64 (i : Int))]) (fun i => []) (fun i => i ≤ a.length ∧ a.take i = b.take i) (fun i => a.length - i) 0 ⟨Nat.zero_le _, rfl⟩ ⟨Le.refl _, trivial⟩ trivial ?_
    intro i ⟨hi, hc⟩ IH
    have hw : IntKind.i64.wrap ((i : Int) + 1) = ((i + 1 : Nat) : Int) := wrap64 (by omega) (by omega)
    have hat : i < a.length → a.take (i + 1) = a.take i ++ [a.getD i tI.z] ∧ b.take (i + 1) = b.take i ++ [b.getD i tI.z] := fun h => by
      rw [List.take_succ_eq_append_getElem h, List.take_succ_eq_append_getElem (hab ▸ h), List.getD, List.getD, List.getElem?_eq_getElem h, List.getElem?_eq_getElem (hab ▸ h)]
      exact ⟨rfl, rfl⟩
    refine Run.go ?_; (conv => whnf); repeat' (first | ((with_reducible refine Know.mk fun _ => ?_); conv => whnf) | ((with_reducible refine Need.mk ?_ ?_); exact nd; conv => whnf) | ((with_reducible first | refine Both.mk ?_ ?_ | refine Any.mk fun b hb => ?_ | refine AskB.dec (fun hb => ?_) (fun hb => ?_) | refine AskB.ndec (fun hb => ?_) (fun hb => ?_) | refine AskB.mk (fun hb => ?_) (fun hb => ?_)) <;> conv => whnf) | ((with_reducible first | refine Run.drawX rfl (by decide +kernel) ?_ | refine Run.drawT rfl (by decide +kernel) ?_ | refine Run.drawW rfl (by decide +kernel) ?_); conv => whnf))
    · have hil : i < a.length := by omega
      obtain ⟨t1, t2⟩ := hat hil
      refine Run.to _ _ ?_ ?_ (IH (i + 1) (by omega) ⟨by omega, ?_⟩)
      · exact ⟨Le.refl _, Le.refl _, Le.int hw, trivial⟩
      · exact trivial
      · simp only [Int.toNat_natCast] at hb
        rw [t1, t2, hc, hb]
    · refine Run.leave (ts := [4]) (.inr ⟨_, rfl⟩) rfl Tryd.func17 rfl (Le.ff.trans (Le.bool (decide_eq_false (fun h => ?_)).symm))
      subst h
      exact hb rfl
    · have hie : i = a.length := by omega
      refine Run.leave (ts := [4]) (.inr ⟨_, rfl⟩) rfl Tryd.func17 rfl (Le.tt.trans (Le.bool (decide_eq_true ?_).symm))
      rw [hie, List.take_length, hab, List.take_length] at hc
      exact hc
  · refine Run.leave (ts := [4]) (.inr ⟨_, rfl⟩) rfl Tryd.func17 rfl (Le.ff.trans (Le.bool (decide_eq_false (fun h => ?_)).symm))
    rw [h] at hb; exact hb rfl
theorem mxSame_fn (a b : List (List Int)) (ha : a.length ≤ 100000) (har : ∀ r ∈ a, r.length ≤ 100000) : Fn Tryd.prog 30 [mxA a, mxA b] (.bool (decide (a = b))) := by
  refine Fn.of Tryd.f30 _ Tryd.func30 rfl (by decide) (by show 2 ≤ _; decide) tbOk 32 rfl fun S w0 gl => ?_
  unfold mxA
  refine Run.go ?_; (conv => whnf); repeat' (first | ((with_reducible refine Know.mk fun _ => ?_); conv => whnf) | ((with_reducible refine Need.mk ?_ ?_); exact nd; conv => whnf) | ((with_reducible first | refine Both.mk ?_ ?_ | refine Any.mk fun b hb => ?_ | refine AskB.dec (fun hb => ?_) (fun hb => ?_) | refine AskB.ndec (fun hb => ?_) (fun hb => ?_) | refine AskB.mk (fun hb => ?_) (fun hb => ?_)) <;> conv => whnf) | ((with_reducible first | refine Run.drawX rfl (by decide +kernel) ?_ | refine Run.drawT rfl (by decide +kernel) ?_ | refine Run.drawW rfl (by decide +kernel) ?_); conv => whnf))
  · have hab : a.length = b.length := by omega
    refine Run.loop [2, 3] (fun (i : Nat) => [(5, .int .i64 (i : Int))]) (fun i => [(2, .box 59 [tRow.L a]), (3, .box 59 [tRow.L b])]) (fun i => i ≤ a.length ∧ a.take i = b.take i) (fun i => a.length - i) 0 ⟨Nat.zero_le _, rfl⟩ ⟨Le.refl _, trivial⟩ ⟨MOle.refl _, MOle.refl _, trivial⟩ ?_
    intro i ⟨hi, hc⟩ IH
    have hw : IntKind.i64.wrap ((i : Int) + 1) = ((i + 1 : Nat) : Int) := wrap64 (by omega) (by omega)
    have hat : i < a.length → a.take (i + 1) = a.take i ++ [a.getD i tRow.z] ∧ b.take (i + 1) = b.take i ++ [b.getD i tRow.z] := fun h => by
      rw [List.take_succ_eq_append_getElem h, List.take_succ_eq_append_getElem (hab ▸ h), List.getD, List.getD, List.getElem?_eq_getElem h, List.getElem?_eq_getElem (hab ▸ h)]
      exact ⟨rfl, rfl⟩
    refine Run.go ?_; (conv => whnf); repeat' (first | ((with_reducible refine Know.mk fun _ => ?_); conv => whnf) | ((with_reducible refine Need.mk ?_ ?_); exact nd; conv => whnf) | ((with_reducible first | refine Both.mk ?_ ?_ | refine Any.mk fun b hb => ?_ | refine AskB.dec (fun hb => ?_) (fun hb => ?_) | refine AskB.ndec (fun hb => ?_) (fun hb => ?_) | refine AskB.mk (fun hb => ?_) (fun hb => ?_)) <;> conv => whnf) | ((with_reducible first | refine Run.drawX rfl (by decide +kernel) ?_ | refine Run.drawT rfl (by decide +kernel) ?_ | refine Run.drawW rfl (by decide +kernel) ?_); conv => whnf))
    · have hil : i < a.length := by omega
      obtain ⟨t1, t2⟩ := hat hil
      have hm : a.getD i tRow.z ∈ a := by rw [List.getD, List.getElem?_eq_getElem hil]; exact List.getElem_mem hil
      refine CallQ.flat (ints17_fn (a.getD i tRow.z) (b.getD i tRow.z) (har _ hm)) rfl ⟨Le.refl _, Le.refl _, trivial⟩ rfl ?_
      (conv => whnf); repeat' (first | ((with_reducible refine Know.mk fun _ => ?_); conv => whnf) | ((with_reducible refine Need.mk ?_ ?_); exact nd; conv => whnf) | ((with_reducible first | refine Both.mk ?_ ?_ | refine Any.mk fun b hb => ?_ | refine AskB.dec (fun hb => ?_) (fun hb => ?_) | refine AskB.ndec (fun hb => ?_) (fun hb => ?_) | refine AskB.mk (fun hb => ?_) (fun hb => ?_)) <;> conv => whnf) | ((with_reducible first | refine Run.drawX rfl (by decide +kernel) ?_ | refine Run.drawT rfl (by decide +kernel) ?_ | refine Run.drawW rfl (by decide +kernel) ?_); conv => whnf))
      · refine Run.to _ _ ?_ ?_ (IH (i + 1) (by omega) ⟨by omega, ?_⟩)
        · exact ⟨Le.refl _, Le.refl _, Le.int hw, trivial⟩
        · exact ⟨MOle.refl _, MOle.refl _, trivial⟩
        · have he : a.getD i tRow.z = b.getD i tRow.z := by assumption
          rw [t1, t2, hc, he]
      · refine Run.leave (ts := [4]) (.inr ⟨_, rfl⟩) rfl Tryd.func30 rfl (Le.ff.trans (Le.bool (decide_eq_false (fun h => ?_)).symm))
        subst h
        exact hb rfl
    · have hie : i = a.length := by omega
      refine Run.leave (ts := [4]) (.inr ⟨_, rfl⟩) rfl Tryd.func30 rfl (Le.tt.trans (Le.bool (decide_eq_true ?_).symm))
      rw [hie, List.take_length, hab, List.take_length] at hc
      exact hc
  · refine Run.leave (ts := [4]) (.inr ⟨_, rfl⟩) rfl Tryd.func30 rfl (Le.ff.trans (Le.bool (decide_eq_false (fun h => ?_)).symm))
    rw [h] at hb; exact hb rfl
end Go.Proofs.YtnadacaoehpdnaaDoor.V

namespace Go.Proofs.YtnadacaoehpdnaaDoor.V
set_option linter.unusedVariables false
set_option linter.unusedSimpArgs false
open Go
def bs (l : List UInt8) : ByteArray := ⟨l.toArray⟩
/-- A text's lines: what stands between newlines. -/
def splitL : List UInt8 → List (List UInt8)
  | [] => [[]]
  | b :: l => if b = 10 then [] :: splitL l else (b :: (splitL l).headD []) :: (splitL l).tail
def splitB (l : List UInt8) : List ByteArray := (splitL l).map bs
theorem splitL_ne : ∀ l, splitL l ≠ []
  | [] => by simp [splitL]
  | b :: l => by unfold splitL; split <;> simp
theorem splitL_len : ∀ l, (splitL l).length = Lib.countByte l 10 + 1
  | [] => rfl
  | b :: l => by
    have ih := splitL_len l
    unfold splitL
    by_cases h : b = 10
    · subst h
      rw [if_pos rfl]
      simp only [List.length_cons, ih, Lib.countByte, List.count_cons_self]
    · rw [if_neg h]
      have hc : Lib.countByte (b :: l) 10 = Lib.countByte l 10 := by
        unfold Lib.countByte
        rw [List.count_cons_of_ne h]
      simp only [List.length_cons, List.length_tail, hc, ih]
      omega
theorem splitL_no : ∀ l, Lib.indexByte l 10 = -1 → splitL l = [l]
  | [], _ => rfl
  | b :: l, h => by
    unfold Lib.indexByte at h
    have hge := Lib.indexByte_ge l 10
    by_cases hb : b = 10
    · subst hb; simp at h
    · have hb2 : (b == 10) = false := by simpa using hb
      rw [hb2] at h
      by_cases hi : Lib.indexByte l 10 = -1
      · unfold splitL
        rw [if_neg hb, splitL_no l hi]; rfl
      · have hi2 : (Lib.indexByte l 10 == -1) = false := by simpa using hi
        simp only [hi2, Bool.false_eq_true, if_false] at h
        omega
theorem splitL_at : ∀ (l : List UInt8) (k : Nat), Lib.indexByte l 10 = (k : Int) → k < l.length ∧ splitL l = l.take k :: splitL (l.drop (k + 1))
  | [], k, h => by simp only [Lib.indexByte] at h; omega
  | b :: l, k, h => by
    unfold Lib.indexByte at h
    by_cases hb : b = 10
    · subst hb
      simp at h
      have : k = 0 := by omega
      subst this
      have e : splitL (10 :: l) = [] :: splitL l := by rw [splitL, if_pos rfl]
      rw [e]
      exact ⟨by simp, rfl⟩
    · have hb2 : (b == 10) = false := by simpa using hb
      rw [hb2] at h
      by_cases hi : Lib.indexByte l 10 = -1
      · simp [hi] at h
      · have hi2 : (Lib.indexByte l 10 == -1) = false := by simpa using hi
        simp only [hi2, Bool.false_eq_true, if_false] at h
        obtain ⟨j, rfl⟩ : ∃ j, k = j + 1 := ⟨k - 1, by have := Lib.indexByte_ge l 10; omega⟩
        obtain ⟨h1, h2⟩ := splitL_at l j (by omega)
        refine ⟨by simp; omega, ?_⟩
        show splitL (b :: l) = _
        rw [splitL, if_neg hb, h2]; rfl
theorem splitL_two {l : List UInt8} (h : 2 ≤ (splitL l).length) : ∃ k : Nat, Lib.indexByte l 10 = (k : Int) := by
  have hge := Lib.indexByte_ge l 10
  by_cases hi : Lib.indexByte l 10 = -1
  · rw [splitL_no l hi] at h; simp at h
  · exact ⟨(Lib.indexByte l 10).toNat, by omega⟩
theorem bs_size (l : List UInt8) : (bs l).size = l.length := by simp [bs, ByteArray.size]
theorem bs_data (l : List UInt8) : (bs l).data.toList = l := by simp [bs]
theorem bs_extract (l : List UInt8) (a b : Nat) : (bs l).extract a b = bs ((l.drop a).take (b - a)) := by
  apply ByteArray.ext
  apply Array.ext'
  simp [bs]
/-- A list of which the first i are laid. -/
def partM {α : Type} (l : List α) (z : α) (i : Nat) : List α := l.take i ++ List.replicate (l.length - i) z
theorem partM_len {α : Type} (l : List α) (z : α) (i : Nat) (h : i ≤ l.length) : (partM l z i).length = l.length := by simp [partM]; omega
theorem partM_set {α : Type} (l : List α) (z : α) (i : Nat) (h : i < l.length) : (partM l z i).set i (l.getD i z) = partM l z (i + 1) := by
  unfold partM
  refine List.ext_getElem (by simp; omega) fun j h1 h2 => ?_
  rw [List.getElem_set]
  by_cases e : i = j
  · subst e
    rw [if_pos rfl, List.getElem_append_left (by simp; omega)]
    simp [List.getD, h]
  · rw [if_neg e]
    rcases Nat.lt_or_ge j i with h3 | h3
    · rw [List.getElem_append_left (by simp; omega), List.getElem_append_left (by simp; omega)]; simp
    · rw [List.getElem_append_right (by simp; omega), List.getElem_append_right (by simp; omega)]; simp
theorem partM_all {α : Type} (l : List α) (z : α) : partM l z l.length = l := by simp [partM]
theorem partM_none {α : Type} (l : List α) (z : α) : partM l z 0 = List.replicate l.length z := by simp [partM]
end Go.Proofs.YtnadacaoehpdnaaDoor.V

