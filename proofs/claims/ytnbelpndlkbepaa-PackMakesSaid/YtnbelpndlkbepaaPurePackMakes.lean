/- The words that the program packs out of any field values are the words that the reference packs. No condition: for all whole numbers of the parameters' kinds. -/
import Derived.Test.YtnbelpndlkbepaaPPackMakesx1
import Derived.Test.YtnbelpndlkbepaaBits
namespace Go.Proofs.Ytnbelpndlkbepaa.Pure
open Go.RowKit Go.Proofs.Ytnbelpndlkbepaa.PPackMakes Go.Proofs.YtnbelpndlkbepaaW.PrintWords Go.Proofs.YtnbelpndlkbepaaW.PrintLast Go.Proofs.Ytnbelpndlkbepaa.Bits
namespace Makes
theorem low_l0 (x : Int) (h0 : 0 ≤ x) (n : Nat) (hn : n ≤ 63) (d : Nat) : ∀ (k i : Nat), i ≤ n → n - i = d → d < k →
    coatcheckref01_Low.l0 k x (n : Int) ((2 : Int) ^ i) (i : Int) = some (x % 2 ^ n) := by
  induction d with
  | zero =>
    intro k i hi hd hk
    obtain ⟨k, rfl⟩ : ∃ m, k = m + 1 := ⟨k - 1, by omega⟩
    obtain rfl : i = n := by omega
    have hp := pow_pos' i
    simp only [coatcheckref01_Low.l0]
    rw [if_neg (by omega), if_neg (by omega), if_neg (by omega), Int.tmod_eq_emod_of_nonneg h0]
  | succ d ih =>
    intro k i hi hd hk
    obtain ⟨k, rfl⟩ : ∃ m, k = m + 1 := ⟨k - 1, by omega⟩
    simp only [coatcheckref01_Low.l0]
    rw [if_pos (by omega), pow_wrap i (by omega)]
    have e : wrap64 ((i : Int) + 1) = ((i + 1 : Nat) : Int) := by unfold wrap64; omega
    rw [e]
    exact ih k (i + 1) (by omega) (by omega) (by omega)
theorem low (x : Int) (h0 : 0 ≤ x) (n : Nat) (hn : n ≤ 63) (k : Nat) (hk : n < k) : coatcheckref01_Low.f k x (n : Int) = some (x % 2 ^ n) :=
  low_l0 x h0 n hn n k 0 (Nat.zero_le _) rfl hk
theorem power_l0 (n : Nat) (hn : n ≤ 63) (d : Nat) : ∀ (k i : Nat), i ≤ n → n - i = d → d < k →
    coatcheckref01_power.l0 k (n : Int) ((2 : Int) ^ i) (i : Int) = some ((2 : Int) ^ n) := by
  induction d with
  | zero =>
    intro k i hi hd hk
    obtain ⟨k, rfl⟩ : ∃ m, k = m + 1 := ⟨k - 1, by omega⟩
    obtain rfl : i = n := by omega
    simp only [coatcheckref01_power.l0]
    rw [if_neg (by omega)]
  | succ d ih =>
    intro k i hi hd hk
    obtain ⟨k, rfl⟩ : ∃ m, k = m + 1 := ⟨k - 1, by omega⟩
    simp only [coatcheckref01_power.l0]
    rw [if_pos (by omega), pow_wrap i (by omega)]
    have e : wrap64 ((i : Int) + 1) = ((i + 1 : Nat) : Int) := by unfold wrap64; omega
    rw [e]
    exact ih k (i + 1) (by omega) (by omega) (by omega)
theorem power (n : Nat) (hn : n ≤ 63) (k : Nat) (hk : n < k) : coatcheckref01_power.f k (n : Int) = some ((2 : Int) ^ n) :=
  power_l0 n hn n k 0 (Nat.zero_le _) rfl hk
theorem low32 (x : Int) (h0 : 0 ≤ x) (k : Nat) : coatcheckref01_Low.f (k + 64) x 32 = some (x % 4294967296) := low x h0 32 (by omega) (k + 64) (by omega)
theorem low44 (x : Int) (h0 : 0 ≤ x) (k : Nat) : coatcheckref01_Low.f (k + 64) x 44 = some (x % 17592186044416) := low x h0 44 (by omega) (k + 64) (by omega)
theorem low16 (x : Int) (h0 : 0 ≤ x) (k : Nat) : coatcheckref01_Low.f (k + 64) x 16 = some (x % 65536) := low x h0 16 (by omega) (k + 64) (by omega)
theorem low4 (x : Int) (h0 : 0 ≤ x) (k : Nat) : coatcheckref01_Low.f (k + 64) x 4 = some (x % 16) := low x h0 4 (by omega) (k + 64) (by omega)
theorem low63 (x : Int) (h0 : 0 ≤ x) (k : Nat) : coatcheckref01_Low.f (k + 64) x 63 = some (x % 9223372036854775808) := low x h0 63 (by omega) (k + 64) (by omega)
theorem low48 (x : Int) (h0 : 0 ≤ x) (k : Nat) : coatcheckref01_Low.f (k + 64) x 48 = some (x % 281474976710656) := low x h0 48 (by omega) (k + 64) (by omega)
theorem low12 (x : Int) (h0 : 0 ≤ x) (k : Nat) : coatcheckref01_Low.f (k + 64) x 12 = some (x % 4096) := low x h0 12 (by omega) (k + 64) (by omega)
theorem power32 (k : Nat) : coatcheckref01_power.f (k + 64) 32 = some 4294967296 := power 32 (by omega) (k + 64) (by omega)
theorem power20 (k : Nat) : coatcheckref01_power.f (k + 64) 20 = some 1048576 := power 20 (by omega) (k + 64) (by omega)
theorem power16 (k : Nat) : coatcheckref01_power.f (k + 64) 16 = some 65536 := power 16 (by omega) (k + 64) (by omega)

theorem head (a v : Int) (h1 : 0 ≤ v) (h2 : v < 18446744073709551616) : pack_Head.f a v = some (v % 4294967296 * 4294967296 + (a + 1) % 4294967296) := by
  unfold pack_Head.f
  rw [head_word a v h1 h2]
theorem ticket (a v : Int) (h1 : 0 ≤ v) (h2 : v < 18446744073709551616) : pack_Ticket.f a v = some (v % 281474976710656 * 65536 + (a + 1) % 65536) := by
  unfold pack_Ticket.f
  rw [ticket_word a v h1 h2]
theorem entry (v b s : Int) (h1 : 0 ≤ v) (h2 : v < 18446744073709551616) : pack_Entry.f v b s = some (v % 17592186044416 * 1048576 + (b + 1) % 65536 * 16 + s % 16) := by
  unfold pack_Entry.f
  rw [entry_word v b s h1 h2]
theorem slab (s p v : Int) (h1 : 0 ≤ v) (h2 : v < 18446744073709551616) : pack_Slab.f s p v = some (v % 281474976710656 * 65536 + p % 4096 * 16 + s % 16) := by
  unfold pack_Slab.f
  rw [slab_word v p s h1 h2]
theorem announce (v : Int) (on : Bool) (h1 : 0 ≤ v) (h2 : v < 18446744073709551616) : pack_Announce.f v on = some (v % 9223372036854775808 * 2 + if on = true then 1 else 0) := by
  unfold pack_Announce.f
  cases on
  · rw [announce_off v h1 h2]; simp
  · rw [announce_word v h1 h2]; simp
theorem head_ref (a v : Int) (h1 : 0 ≤ v) : coatcheckref01_Head.f 100 a v = some (v % 4294967296 * 4294967296 + (a + 1) % 4294967296) := by
  unfold coatcheckref01_Head.f
  rw [low32 v h1 36, power32 36, low32 _ (by rw [wrap_u64]; omega) 36]
  simp only [Option.bind_some, wrap_u64, Option.some.injEq]
  omega
theorem ticket_ref (a v : Int) (h1 : 0 ≤ v) : coatcheckref01_Ticket.f 100 a v = some (v % 281474976710656 * 65536 + (a + 1) % 65536) := by
  unfold coatcheckref01_Ticket.f
  rw [low48 v h1 36, power16 36, low16 _ (by rw [wrap_u64]; omega) 36]
  simp only [Option.bind_some, wrap_u64, Option.some.injEq]
  omega
theorem entry_ref (v b s : Int) (h1 : 0 ≤ v) : coatcheckref01_Entry.f 100 v b s = some (v % 17592186044416 * 1048576 + (b + 1) % 65536 * 16 + s % 16) := by
  unfold coatcheckref01_Entry.f
  rw [low44 v h1 36, power20 36, low16 _ (by rw [wrap_u64]; omega) 36, low4 _ (by rw [wrap_u64]; omega) 36]
  simp only [Option.bind_some, wrap_u64, Option.some.injEq]
  omega
theorem slab_ref (s p v : Int) (h1 : 0 ≤ v) : coatcheckref01_Slab.f 100 s p v = some (v % 281474976710656 * 65536 + p % 4096 * 16 + s % 16) := by
  unfold coatcheckref01_Slab.f
  rw [low48 v h1 36, power16 36, low12 _ (by rw [wrap_u64]; omega) 36, low4 _ (by rw [wrap_u64]; omega) 36]
  simp only [Option.bind_some, wrap_u64, Option.some.injEq]
  omega
theorem announce_ref (v : Int) (on : Bool) (h1 : 0 ≤ v) : coatcheckref01_Announce.f 100 v on = some (v % 9223372036854775808 * 2 + if on = true then 1 else 0) := by
  unfold coatcheckref01_Announce.f
  rw [low63 v h1 36]
  simp only [Option.bind_some, wrap_u64]
  cases on
  · simp only [Bool.false_eq_true, if_false, Option.some.injEq]; omega
  · simp only [if_true, Option.some.injEq]; omega
theorem awake : coatchecklaw01_awake.f = some true := by
  unfold coatchecklaw01_awake.f
  rw [head 4 1 (by omega) (by omega), ticket 2 3 (by omega) (by omega)]
  decide
end Makes
open Makes in
theorem PackMakes : coatchecklaw01_PackMakes.Pure := by
  intro a0 a1 a2 a3 _ _ h2
  obtain ⟨g0, g1⟩ := wf_u64 h2
  refine ⟨100, ?_⟩
  unfold coatchecklaw01_PackMakes.f
  rw [awake, head a0 a2 g0 g1, head_ref a0 a2 g0, entry a2 a0 a1 g0 g1, entry_ref a2 a0 a1 g0, announce a2 a3 g0 g1, announce_ref a2 a3 g0, slab a0 a1 a2 g0 g1, slab_ref a0 a1 a2 g0, ticket a0 a2 g0 g1, ticket_ref a0 a2 g0]
  simp only [Option.bind_some, if_true, beq_self_eq_true]

end Go.Proofs.Ytnbelpndlkbepaa.Pure
