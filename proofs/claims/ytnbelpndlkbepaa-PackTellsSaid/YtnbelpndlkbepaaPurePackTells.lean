/- The fields that the program reads out of any word are the fields that the reference reads, and packing them again gives the word. No condition: for all 64-bit words. -/
import Derived.Test.YtnbelpndlkbepaaPPackTellsx2
import Derived.Test.YtnbelpndlkbepaaBits
namespace Go.Proofs.Ytnbelpndlkbepaa.Pure
open Go.RowKit Go.Proofs.Ytnbelpndlkbepaa.PPackTells Go.Proofs.YtnbelpndlkbepaaW.PrintWords Go.Proofs.YtnbelpndlkbepaaW.PrintLast Go.Proofs.Ytnbelpndlkbepaa.Bits
namespace Tells
theorem low_l0 (x : Int) (h0 : 0 ≤ x) (n : Nat) (hn : n ≤ 63) (d : Nat) : ∀ (k i : Nat), i ≤ n → n - i = d → d < k →
    coatcheckref01_Low.l0 k x (n : Int) ((2 : Int) ^ i) (i : Int) = some (x % 2 ^ n) := by
  induction d with
  | zero =>
    intro k i hi hd hk
    obtain ⟨k, rfl⟩ : ∃ m, k = m + 1 := ⟨k - 1, by omega⟩
    obtain rfl : i = n := by omega
    have hp := pow_pos' i
    simp only [coatcheckref01_Low.l0]
    rw [if_neg (by omega), if_neg (by omega), if_neg (by omega), Int.tmod_eq_emod_of_nonneg h0]
  | succ d ih =>
    intro k i hi hd hk
    obtain ⟨k, rfl⟩ : ∃ m, k = m + 1 := ⟨k - 1, by omega⟩
    simp only [coatcheckref01_Low.l0]
    rw [if_pos (by omega), pow_wrap i (by omega)]
    have e : wrap64 ((i : Int) + 1) = ((i + 1 : Nat) : Int) := by unfold wrap64; omega
    rw [e]
    exact ih k (i + 1) (by omega) (by omega) (by omega)
theorem low (x : Int) (h0 : 0 ≤ x) (n : Nat) (hn : n ≤ 63) (k : Nat) (hk : n < k) : coatcheckref01_Low.f k x (n : Int) = some (x % 2 ^ n) :=
  low_l0 x h0 n hn n k 0 (Nat.zero_le _) rfl hk
theorem power_l0 (n : Nat) (hn : n ≤ 63) (d : Nat) : ∀ (k i : Nat), i ≤ n → n - i = d → d < k →
    coatcheckref01_power.l0 k (n : Int) ((2 : Int) ^ i) (i : Int) = some ((2 : Int) ^ n) := by
  induction d with
  | zero =>
    intro k i hi hd hk
    obtain ⟨k, rfl⟩ : ∃ m, k = m + 1 := ⟨k - 1, by omega⟩
    obtain rfl : i = n := by omega
    simp only [coatcheckref01_power.l0]
    rw [if_neg (by omega)]
  | succ d ih =>
    intro k i hi hd hk
    obtain ⟨k, rfl⟩ : ∃ m, k = m + 1 := ⟨k - 1, by omega⟩
    simp only [coatcheckref01_power.l0]
    rw [if_pos (by omega), pow_wrap i (by omega)]
    have e : wrap64 ((i : Int) + 1) = ((i + 1 : Nat) : Int) := by unfold wrap64; omega
    rw [e]
    exact ih k (i + 1) (by omega) (by omega) (by omega)
theorem power (n : Nat) (hn : n ≤ 63) (k : Nat) (hk : n < k) : coatcheckref01_power.f k (n : Int) = some ((2 : Int) ^ n) :=
  power_l0 n hn n k 0 (Nat.zero_le _) rfl hk
theorem low32 (x : Int) (h0 : 0 ≤ x) (k : Nat) : coatcheckref01_Low.f (k + 64) x 32 = some (x % 4294967296) := low x h0 32 (by omega) (k + 64) (by omega)
theorem low16 (x : Int) (h0 : 0 ≤ x) (k : Nat) : coatcheckref01_Low.f (k + 64) x 16 = some (x % 65536) := low x h0 16 (by omega) (k + 64) (by omega)
theorem low12 (x : Int) (h0 : 0 ≤ x) (k : Nat) : coatcheckref01_Low.f (k + 64) x 12 = some (x % 4096) := low x h0 12 (by omega) (k + 64) (by omega)
theorem power32 (k : Nat) : coatcheckref01_power.f (k + 64) 32 = some 4294967296 := power 32 (by omega) (k + 64) (by omega)
theorem power20 (k : Nat) : coatcheckref01_power.f (k + 64) 20 = some 1048576 := power 20 (by omega) (k + 64) (by omega)
theorem power16 (k : Nat) : coatcheckref01_power.f (k + 64) 16 = some 65536 := power 16 (by omega) (k + 64) (by omega)

theorem head (a v : Int) (h1 : 0 ≤ v) (h2 : v < 18446744073709551616) : pack_Head.f a v = some (v % 4294967296 * 4294967296 + (a + 1) % 4294967296) := by
  unfold pack_Head.f
  rw [head_word a v h1 h2]
theorem ticket (a v : Int) (h1 : 0 ≤ v) (h2 : v < 18446744073709551616) : pack_Ticket.f a v = some (v % 281474976710656 * 65536 + (a + 1) % 65536) := by
  unfold pack_Ticket.f
  rw [ticket_word a v h1 h2]
theorem entry (v b s : Int) (h1 : 0 ≤ v) (h2 : v < 18446744073709551616) : pack_Entry.f v b s = some (v % 17592186044416 * 1048576 + (b + 1) % 65536 * 16 + s % 16) := by
  unfold pack_Entry.f
  rw [entry_word v b s h1 h2]
theorem slab (s p v : Int) (h1 : 0 ≤ v) (h2 : v < 18446744073709551616) : pack_Slab.f s p v = some (v % 281474976710656 * 65536 + p % 4096 * 16 + s % 16) := by
  unfold pack_Slab.f
  rw [slab_word v p s h1 h2]
theorem announce (v : Int) (on : Bool) (h1 : 0 ≤ v) (h2 : v < 18446744073709551616) : pack_Announce.f v on = some (v % 9223372036854775808 * 2 + if on = true then 1 else 0) := by
  unfold pack_Announce.f
  cases on
  · rw [announce_off v h1 h2]; simp
  · rw [announce_word v h1 h2]; simp
theorem awake : coatchecklaw01_awake.f = some true := by
  unfold coatchecklaw01_awake.f
  rw [head 4 1 (by omega) (by omega), ticket 2 3 (by omega) (by omega)]
  decide
theorem unentry (w : Int) : pack_Unentry.f w = some (w / 1048576, w / 16 % 65536 - 1, w % 16) := by
  unfold pack_Unentry.f
  rw [wrap_u16]
  unfold wrap64
  simp only [Option.some.injEq, Prod.mk.injEq, true_and]
  omega
theorem unslab (w : Int) : pack_Unslab.f w = some (w % 16, w / 16 % 4096, w / 65536) := by
  unfold pack_Unslab.f
  rw [wrap_u16]
  unfold wrap64
  simp only [Option.some.injEq, Prod.mk.injEq, and_true]
  omega
theorem unticket (w : Int) : pack_Unticket.f w = some (w % 65536 - 1, w / 65536) := by
  unfold pack_Unticket.f
  rw [wrap_u16]
  unfold wrap64
  simp only [Option.some.injEq, Prod.mk.injEq, and_true]
  omega
theorem unannounce (w : Int) (h1 : 0 ≤ w) (h2 : w < 18446744073709551616) : pack_Unannounce.f w = some (w / 2, w % 2 == 1) := by
  unfold pack_Unannounce.f
  rw [and1 w h1 (by omega)]
theorem unhead (w : Int) : pack_Unhead.f w = some (w % 4294967296 - 1, w / 4294967296) := rfl

theorem unhead_ref (w : Int) (h1 : 0 ≤ w) (h2 : w < 18446744073709551616) : coatcheckref01_Unhead.f 100 w = some (w % 4294967296 - 1, w / 4294967296) := by
  unfold coatcheckref01_Unhead.f
  rw [low32 w h1 36, power32 36]
  simp only [Option.bind_some]
  rw [if_neg (by omega), Int.tdiv_eq_ediv_of_nonneg h1, wrap_u64]
  unfold wrap64
  simp only [Option.some.injEq, Prod.mk.injEq]
  omega
theorem unentry_ref (w : Int) (h1 : 0 ≤ w) (h2 : w < 18446744073709551616) : coatcheckref01_Unentry.f 99 w = some (w / 1048576, w / 16 % 65536 - 1, w % 16) := by
  unfold coatcheckref01_Unentry.f
  rw [power20 35, Int.tdiv_eq_ediv_of_nonneg h1, low16 _ (by rw [wrap_u64]; omega) 35]
  simp only [Option.bind_some]
  rw [if_neg (by omega), Int.tdiv_eq_ediv_of_nonneg h1, Int.tmod_eq_emod_of_nonneg h1, wrap_u64, wrap_u64]
  unfold wrap64
  simp only [Option.some.injEq, Prod.mk.injEq]
  omega
theorem unslab_ref (w : Int) (h1 : 0 ≤ w) (h2 : w < 18446744073709551616) : coatcheckref01_Unslab.f 97 w = some (w % 16, w / 16 % 4096, w / 65536) := by
  unfold coatcheckref01_Unslab.f
  rw [Int.tdiv_eq_ediv_of_nonneg h1, low12 _ (by rw [wrap_u64]; omega) 33, power16 33]
  simp only [Option.bind_some]
  rw [if_neg (by omega), Int.tdiv_eq_ediv_of_nonneg h1, Int.tmod_eq_emod_of_nonneg h1, wrap_u64, wrap_u64]
  unfold wrap64
  simp only [Option.some.injEq, Prod.mk.injEq]
  omega
theorem unticket_ref (w : Int) (h1 : 0 ≤ w) (h2 : w < 18446744073709551616) : coatcheckref01_Unticket.f 96 w = some (w % 65536 - 1, w / 65536) := by
  unfold coatcheckref01_Unticket.f
  rw [low16 w h1 32, power16 32]
  simp only [Option.bind_some]
  rw [if_neg (by omega), Int.tdiv_eq_ediv_of_nonneg h1, wrap_u64]
  unfold wrap64
  simp only [Option.some.injEq, Prod.mk.injEq]
  omega
theorem j3 (w : Int) (h1 : 0 ≤ w) (h2 : w < 18446744073709551616) : coatchecklaw01_PackTells.j3 (96 + 1) w false = some true := by
  simp only [coatchecklaw01_PackTells.j3, Bool.false_eq_true, if_false]
  rw [unticket, unticket_ref w h1 h2]
  simp only [Option.bind_some, if_true]
  rw [ticket _ _ (by omega) (by omega)]
  simp only [Option.bind_some, Option.some.injEq, beq_iff_eq]
  omega
theorem j2 (w : Int) (h1 : 0 ≤ w) (h2 : w < 18446744073709551616) : coatchecklaw01_PackTells.j2 (97 + 1) w false = some true := by
  simp only [coatchecklaw01_PackTells.j2, Bool.false_eq_true, if_false]
  rw [unslab, unslab_ref w h1 h2]
  simp only [Option.bind_some, if_true]
  rw [slab _ _ _ (by omega) (by omega)]
  simp only [Option.bind_some]
  rw [show (w / 65536 % 281474976710656 * 65536 + w / 16 % 4096 % 4096 * 16 + w % 16 % 16 != w) = false from by rw [bne_eq_false_iff_eq]; omega]
  exact j3 w h1 h2
theorem j1 (w : Int) (h1 : 0 ≤ w) (h2 : w < 18446744073709551616) : coatchecklaw01_PackTells.j1 (98 + 1) w false = some true := by
  simp only [coatchecklaw01_PackTells.j1, Bool.false_eq_true, if_false]
  rw [unannounce w h1 h2]
  simp only [Option.bind_some]
  rw [Int.tdiv_eq_ediv_of_nonneg h1, Int.tmod_eq_emod_of_nonneg h1, wrap_u64, if_pos (by omega), announce _ _ (by omega) (by omega)]
  simp only [bne_self_eq_false, Bool.false_eq_true, if_false, Option.bind_some]
  rw [show (w / 2 % 9223372036854775808 * 2 + (if (w % 2 == 1) = true then 1 else 0) != w) = false from by
    rw [bne_eq_false_iff_eq]
    by_cases e : w % 2 = 1
    · rw [if_pos (by simpa using e)]; omega
    · rw [if_neg (by simpa using e)]; omega]
  exact j2 w h1 h2
theorem j0 (w : Int) (h1 : 0 ≤ w) (h2 : w < 18446744073709551616) : coatchecklaw01_PackTells.j0 (99 + 1) w false = some true := by
  simp only [coatchecklaw01_PackTells.j0, Bool.false_eq_true, if_false]
  rw [unentry, unentry_ref w h1 h2]
  simp only [Option.bind_some, if_true]
  rw [entry _ _ _ (by omega) (by omega)]
  simp only [Option.bind_some]
  rw [show (w / 1048576 % 17592186044416 * 1048576 + (w / 16 % 65536 - 1 + 1) % 65536 * 16 + w % 16 % 16 != w) = false from by rw [bne_eq_false_iff_eq]; omega]
  exact j1 w h1 h2
end Tells
open Tells in
theorem PackTells : coatchecklaw01_PackTells.Pure := by
  intro w h
  obtain ⟨h1, h2⟩ := wf_u64 h
  refine ⟨99 + 1, ?_⟩
  unfold coatchecklaw01_PackTells.f
  rw [awake, unhead, unhead_ref w h1 h2]
  simp only [Option.bind_some, if_true]
  rw [head _ _ (by omega) (by omega)]
  simp only [Option.bind_some]
  rw [show (w / 4294967296 % 4294967296 * 4294967296 + (w % 4294967296 - 1 + 1) % 4294967296 != w) = false from by rw [bne_eq_false_iff_eq]; omega]
  exact j0 w h1 h2

end Go.Proofs.Ytnbelpndlkbepaa.Pure
