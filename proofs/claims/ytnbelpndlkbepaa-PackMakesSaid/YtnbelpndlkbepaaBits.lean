/- Plain facts on unsigned 64-bit words: joining fields that do not overlap is adding them; no program in sight. Condition: the numbers fit the widths named. -/
import Derived.Laws.BitsLemmas
import Derived.RowKit
namespace Go.Proofs.Ytnbelpndlkbepaa.Bits
open Go.RowKit

theorem wrap_u64 (n : Int) : IntKind.u64.wrap n = n % 18446744073709551616 := by simp [IntKind.wrap, IntKind.bits, IntKind.signed]
theorem wrap_u16 (n : Int) : IntKind.u16.wrap n = n % 65536 := by simp [IntKind.wrap, IntKind.bits, IntKind.signed]
theorem wraps_u64 (n : Int) (h₀ : 0 ≤ n) (h₁ : n < 2 ^ 64) : IntKind.u64.wrap n = n := by rw [wrap_u64]; omega

theorem or64 (i : Nat) (x y : Int) (hx₀ : 0 ≤ x) (hx : x % 2 ^ i = 0) (hx₁ : x < 2 ^ 64) (hy₀ : 0 ≤ y) (hy : y < 2 ^ i) (hy₁ : y < 2 ^ 64) : bits .or .u64 x y = x + y :=
  bits_join .u64 64 (by decide) wraps_u64 i x y hx₀ hx hx₁ hy₀ hy hy₁

theorem and1 (x : Int) (h₀ : 0 ≤ x) (h₁ : x < 2 ^ 64) : bits .and .u64 x 1 = x % 2 := by
  exact bits_mask .u64 64 (by decide) wraps_u64 1 (by decide) x h₀ h₁

theorem wf_any {k : IntKind} {n : Int} (h : (Lit.int k n).wf = true) : k.min ≤ n ∧ n ≤ k.max := by
  unfold Lit.wf at h
  rw [Bool.and_eq_true] at h
  exact ⟨of_decide_eq_true h.1, of_decide_eq_true h.2⟩
theorem wf_i64 {n : Int} (h : (Lit.int .i64 n).wf = true) : -9223372036854775808 ≤ n ∧ n < 9223372036854775808 := by
  obtain ⟨h1, h2⟩ := wf_any h
  have e1 : IntKind.i64.min = -9223372036854775808 := rfl
  have e2 : IntKind.i64.max = 9223372036854775807 := rfl
  rw [e1] at h1
  rw [e2] at h2
  omega
theorem wf_u64 {n : Int} (h : (Lit.int .u64 n).wf = true) : 0 ≤ n ∧ n < 18446744073709551616 := by
  obtain ⟨h1, h2⟩ := wf_any h
  have e1 : IntKind.u64.min = 0 := rfl
  have e2 : IntKind.u64.max = 18446744073709551615 := rfl
  rw [e1] at h1
  rw [e2] at h2
  omega
theorem wf_u32 {n : Int} (h : (Lit.int .u32 n).wf = true) : 0 ≤ n ∧ n < 4294967296 := by
  obtain ⟨h1, h2⟩ := wf_any h
  have e1 : IntKind.u32.min = 0 := rfl
  have e2 : IntKind.u32.max = 4294967295 := rfl
  rw [e1] at h1
  rw [e2] at h2
  omega
theorem wf_u16 {n : Int} (h : (Lit.int .u16 n).wf = true) : 0 ≤ n ∧ n < 65536 := by
  obtain ⟨h1, h2⟩ := wf_any h
  have e1 : IntKind.u16.min = 0 := rfl
  have e2 : IntKind.u16.max = 65535 := rfl
  rw [e1] at h1
  rw [e2] at h2
  omega
theorem wf_u8 {n : Int} (h : (Lit.int .u8 n).wf = true) : 0 ≤ n ∧ n < 256 := by
  obtain ⟨h1, h2⟩ := wf_any h
  have e1 : IntKind.u8.min = 0 := rfl
  have e2 : IntKind.u8.max = 255 := rfl
  rw [e1] at h1
  rw [e2] at h2
  omega

theorem pow_lt (i : Nat) (h : i ≤ 63) : (2 : Int) ^ i < 18446744073709551616 := by
  have h1 : (2 : Nat) ^ i ≤ 2 ^ 63 := Nat.pow_le_pow_right (by decide) h
  have h2 : (((2 : Nat) ^ i : Nat) : Int) = (2 : Int) ^ i := Int.natCast_pow 2 i
  rw [← h2]
  generalize (2 : Nat) ^ i = m at *
  omega
theorem pow_pos' (i : Nat) : (0 : Int) < 2 ^ i := by
  have h1 := Nat.two_pow_pos i
  have h2 : (((2 : Nat) ^ i : Nat) : Int) = (2 : Int) ^ i := Int.natCast_pow 2 i
  rw [← h2]
  generalize (2 : Nat) ^ i = m at *
  omega
theorem pow_wrap (i : Nat) (h : i + 1 ≤ 63) : IntKind.u64.wrap ((2 : Int) ^ i * 2) = 2 ^ (i + 1) := by
  have h1 := pow_lt (i + 1) h
  have h2 := pow_pos' (i + 1)
  rw [Int.pow_succ] at h1 h2 ⊢
  rw [wrap_u64]
  omega

/-- The head word, joined by 'or'. -/
theorem head_word (a v : Int) (_h1 : 0 ≤ v) (_h2 : v < 18446744073709551616) :
    bits .or .u64 (IntKind.u64.wrap (v * 4294967296)) ((wrap64 (a + 1)) % 4294967296) = v % 4294967296 * 4294967296 + (a + 1) % 4294967296 := by
  rw [or64 32 _ _ (by rw [wrap_u64]; omega) (by rw [wrap_u64]; omega) (by rw [wrap_u64]; omega) (by omega) (by omega) (by omega), wrap_u64]
  unfold wrap64
  omega
/-- The ticket word. -/
theorem ticket_word (a v : Int) (_h1 : 0 ≤ v) (_h2 : v < 18446744073709551616) :
    bits .or .u64 (IntKind.u64.wrap (v * 65536)) (IntKind.u64.wrap (IntKind.u16.wrap (wrap64 (a + 1)))) = v % 281474976710656 * 65536 + (a + 1) % 65536 := by
  have e : IntKind.u64.wrap (IntKind.u16.wrap (wrap64 (a + 1))) = (a + 1) % 65536 := by
    rw [wrap_u16, wrap_u64]; unfold wrap64; omega
  rw [e, or64 16 _ _ (by rw [wrap_u64]; omega) (by rw [wrap_u64]; omega) (by rw [wrap_u64]; omega) (by omega) (by omega) (by omega), wrap_u64]
  omega
/-- The entry word. -/
theorem entry_word (v b s : Int) (_h1 : 0 ≤ v) (_h2 : v < 18446744073709551616) :
    bits .or .u64 (bits .or .u64 (IntKind.u64.wrap (v * 1048576)) (IntKind.u64.wrap ((IntKind.u64.wrap (IntKind.u16.wrap (wrap64 (b + 1)))) * 16))) ((((s % 256) * 16) % 256) / 16)
      = v % 17592186044416 * 1048576 + (b + 1) % 65536 * 16 + s % 16 := by
  have e : IntKind.u64.wrap ((IntKind.u64.wrap (IntKind.u16.wrap (wrap64 (b + 1)))) * 16) = (b + 1) % 65536 * 16 := by
    rw [wrap_u16, wrap_u64, wrap_u64]; unfold wrap64; omega
  have e2 : ((s % 256) * 16) % 256 / 16 = s % 16 := by omega
  have e3 : IntKind.u64.wrap (v * 1048576) = v % 17592186044416 * 1048576 := by rw [wrap_u64]; omega
  rw [e, e2, e3]
  rw [or64 20 (v % 17592186044416 * 1048576) ((b + 1) % 65536 * 16) (by omega) (by omega) (by omega) (by omega) (by omega) (by omega)]
  rw [or64 4 _ _ (by omega) (by omega) (by omega) (by omega) (by omega) (by omega)]
/-- The slab word. -/
theorem slab_word (v p s : Int) (_h1 : 0 ≤ v) (_h2 : v < 18446744073709551616) :
    bits .or .u64 (bits .or .u64 (IntKind.u64.wrap (v * 65536)) (IntKind.u64.wrap (IntKind.u16.wrap ((IntKind.u16.wrap p) * 16)))) ((((s % 256) * 16) % 256) / 16)
      = v % 281474976710656 * 65536 + p % 4096 * 16 + s % 16 := by
  have e : IntKind.u64.wrap (IntKind.u16.wrap ((IntKind.u16.wrap p) * 16)) = p % 4096 * 16 := by
    rw [wrap_u16, wrap_u16, wrap_u64]; omega
  have e2 : ((s % 256) * 16) % 256 / 16 = s % 16 := by omega
  have e3 : IntKind.u64.wrap (v * 65536) = v % 281474976710656 * 65536 := by rw [wrap_u64]; omega
  rw [e, e2, e3]
  rw [or64 16 (v % 281474976710656 * 65536) (p % 4096 * 16) (by omega) (by omega) (by omega) (by omega) (by omega) (by omega)]
  rw [or64 4 _ _ (by omega) (by omega) (by omega) (by omega) (by omega) (by omega)]
/-- The announcement word, active. -/
theorem announce_word (v : Int) (_h1 : 0 ≤ v) (_h2 : v < 18446744073709551616) :
    bits .or .u64 (IntKind.u64.wrap (v * 2)) 1 = v % 9223372036854775808 * 2 + 1 := by
  rw [or64 1 _ _ (by rw [wrap_u64]; omega) (by rw [wrap_u64]; omega) (by rw [wrap_u64]; omega) (by omega) (by omega) (by omega), wrap_u64]
  omega
theorem announce_off (v : Int) (_h1 : 0 ≤ v) (_h2 : v < 18446744073709551616) :
    IntKind.u64.wrap (v * 2) = v % 9223372036854775808 * 2 := by
  rw [wrap_u64]
  omega
end Go.Proofs.Ytnbelpndlkbepaa.Bits
