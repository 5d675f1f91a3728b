/- The sizes of a valid configuration, in plain Lean. No condition. -/
import Derived.Test.YtaikpkhclnkkaaaVc2
import Derived.IntWalk
set_option linter.unusedVariables false
set_option linter.unusedSimpArgs false
namespace Go.Proofs.Ytaikpkhclnkkaaa
open Go Go.Ax

theorem wr_in {n : Int} (h : -9223372036854775808 ≤ n ∧ n ≤ 9223372036854775807) : wr n = n := IntWalk.i64_in n h
theorem newV_eq {x : Cfg} (h : checkV x = 0) : newV x = x := by unfold newV; rw [if_pos h]

/-- What holds of the sizes of a valid configuration. -/
structure Sizes (x : Cfg) (T P : Int) : Prop where
  v : checkV x = 0
  w : 1 ≤ x.w ∧ x.w ≤ 8
  s : 1 ≤ x.s ∧ x.s ≤ 8
  o : 1 ≤ x.o ∧ x.o ≤ 4
  e : 1 ≤ x.e ∧ x.e ≤ 32
  b : 1 ≤ x.b ∧ x.b ≤ 16
  t : T = x.s * x.b
  tb : 1 ≤ T ∧ T ≤ 128
  p : P = T * (1 + x.o)
  pb : 1 ≤ P ∧ P ≤ 5 * T
theorem sizes_of {x : Cfg} (h : checkV x = 0) : Sizes x (x.s * x.b) (x.s * x.b * (1 + x.o)) := by
  have g := valid_of h
  have t1 : x.s * x.b ≤ 8 * 16 := Int.mul_le_mul (by omega) (by omega) (by omega) (by omega)
  have t2 : 1 * 1 ≤ x.s * x.b := Int.mul_le_mul (by omega) (by omega) (by omega) (by omega)
  have p1 : x.s * x.b * (1 + x.o) ≤ x.s * x.b * 5 := Int.mul_le_mul_of_nonneg_left (by omega) (by omega)
  have p2 : x.s * x.b * 1 ≤ x.s * x.b * (1 + x.o) := Int.mul_le_mul_of_nonneg_left (by omega) (by omega)
  exact ⟨h, by omega, by omega, by omega, by omega, by omega, rfl, by omega, rfl, by omega⟩
section
variable {x : Cfg} {T P : Int}
theorem Sizes.slabs (h : Sizes x T P) : slabsV x = 3 + x.w := by have := h.w; exact wr_in (by omega)
theorem Sizes.entries (h : Sizes x T P) : entriesV x = 3 + x.w + x.s := by
  have := h.w; have := h.s
  unfold entriesV; rw [h.slabs]; exact wr_in (by omega)
theorem Sizes.blocks (h : Sizes x T P) : blocksV x = 3 + x.w + x.s + 2 * x.e := by
  have := h.w; have := h.s; have := h.e
  unfold blocksV; rw [h.entries, wr_in (n := 2 * x.e) (by omega)]; exact wr_in (by omega)
theorem Sizes.total (h : Sizes x T P) : totalV x = T := by
  have := h.tb
  unfold totalV; rw [if_pos h.v, ← h.t]; exact wr_in (by omega)
theorem Sizes.size (h : Sizes x T P) : sizeV x = 3 + x.w + x.s + 2 * x.e + P := by
  have := h.w; have := h.s; have := h.e; have := h.tb; have := h.pb; have := h.o
  unfold sizeV; rw [if_pos h.v, h.blocks, h.total, wr_in (n := 1 + x.o) (by omega), ← h.p, wr_in (n := P) (by omega)]; exact wr_in (by omega)
theorem Sizes.at_ (h : Sizes x T P) {f i m k : Int} (hi : 0 ≤ i ∧ i < m) (h1 : -9223372036854775808 ≤ i * k ∧ i * k ≤ 9223372036854775807) (h2 : -9223372036854775808 ≤ f + i * k ∧ f + i * k ≤ 9223372036854775807) : atV x f i m k = f + i * k := by
  have := h.v
  unfold atV
  rw [if_neg (by omega), wr_in (n := i * k) h1, wr_in h2]
theorem Sizes.announce (h : Sizes x T P) {i : Int} (hi : 0 ≤ i ∧ i < x.w) : announceV x i = 3 + i := by
  have := h.w
  unfold announceV; rw [h.at_ hi (by omega) (by omega)]; omega
theorem Sizes.slab (h : Sizes x T P) {i : Int} (hi : 0 ≤ i ∧ i < x.s) : slabV x i = 3 + x.w + i := by
  have := h.w; have := h.s
  unfold slabV; rw [h.slabs, h.at_ hi (by omega) (by omega)]; omega
theorem Sizes.entry (h : Sizes x T P) {i : Int} (hi : 0 ≤ i ∧ i < x.e) : entryV x i = 3 + x.w + x.s + 2 * i := by
  have := h.w; have := h.s; have := h.e
  unfold entryV; rw [h.entries, h.at_ hi (by omega) (by omega)]; omega
theorem Sizes.entryLink (h : Sizes x T P) {i : Int} (hi : 0 ≤ i ∧ i < x.e) : entryLinkV x i = 3 + x.w + x.s + 2 * i + 1 := by
  have := h.w; have := h.s; have := h.e
  unfold entryLinkV; rw [h.entries, wr_in (by omega), h.at_ hi (by omega) (by omega)]; omega
theorem Sizes.step (h : Sizes x T P) {i : Int} (hi : 0 ≤ i ∧ i < T) : 0 ≤ i * (1 + x.o) ∧ i * (1 + x.o) + (1 + x.o) ≤ P := by
  have := h.o
  have h1 : (i + 1) * (1 + x.o) ≤ T * (1 + x.o) := Int.mul_le_mul_of_nonneg_right (by omega) (by omega)
  rw [Int.add_mul, Int.one_mul, ← h.p] at h1
  exact ⟨Int.mul_nonneg (by omega) (by omega), h1⟩
theorem Sizes.blockLink (h : Sizes x T P) {i : Int} (hi : 0 ≤ i ∧ i < T) : blockLinkV x i = 3 + x.w + x.s + 2 * x.e + i * (1 + x.o) := by
  have := h.w; have := h.s; have := h.e; have := h.tb; have := h.pb; have := h.o; have := h.step hi
  unfold blockLinkV; rw [h.blocks, h.total, wr_in (n := 1 + x.o) (by omega), h.at_ hi (by omega) (by omega)]
theorem Sizes.word (h : Sizes x T P) {i k : Int} (hi : 0 ≤ i ∧ i < T) (hk : 0 ≤ k ∧ k < x.o) : wordV x i k = 3 + x.w + x.s + 2 * x.e + i * (1 + x.o) + 1 + k := by
  have := h.w; have := h.s; have := h.e; have := h.tb; have := h.pb; have := h.o; have := h.step hi
  unfold wordV; rw [h.blockLink hi, if_pos ⟨by omega, hk.1, hk.2⟩, wr_in (n := 3 + x.w + x.s + 2 * x.e + i * (1 + x.o) + 1) (by omega), wr_in (by omega)]
end

theorem natlt {i : Nat} {n : Int} (h : decide ((i : Int) < n) = true) : (i : Int) < n := of_decide_eq_true h
theorem natge {i : Nat} {n : Int} (h : decide ((i : Int) < n) = false) : n ≤ (i : Int) := by have := of_decide_eq_false h; omega
theorem next_int {i : Nat} {n : Int} (h : (i : Int) < n) (hn : n ≤ 1000) : EqA (AVal.int IntKind.i64 (wr ((i : Int) + 1))) (AVal.int IntKind.i64 ((i + 1 : Nat) : Int)) := by
  have : wr ((i : Int) + 1) = ((i + 1 : Nat) : Int) := by rw [wr_in (by omega)]; omega
  rw [this]
end Go.Proofs.Ytaikpkhclnkkaaa
