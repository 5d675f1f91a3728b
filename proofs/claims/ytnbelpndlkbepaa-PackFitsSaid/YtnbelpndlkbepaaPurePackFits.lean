/- Fields that fit are read back out of the packed words, each of the five kinds of word. No condition: for all values of the parameters' kinds. -/
import Derived.Test.YtnbelpndlkbepaaPPackFitsx1
import Derived.Test.YtnbelpndlkbepaaBits
namespace Go.Proofs.Ytnbelpndlkbepaa.Pure
open Go.RowKit Go.Proofs.Ytnbelpndlkbepaa.PPackFits Go.Proofs.YtnbelpndlkbepaaW.PrintWords Go.Proofs.YtnbelpndlkbepaaW.PrintLast Go.Proofs.Ytnbelpndlkbepaa.Bits
namespace Fits

theorem head (a v : Int) (h1 : 0 ≤ v) (h2 : v < 18446744073709551616) : pack_Head.f a v = some (v % 4294967296 * 4294967296 + (a + 1) % 4294967296) := by
  unfold pack_Head.f
  rw [head_word a v h1 h2]
theorem ticket (a v : Int) (h1 : 0 ≤ v) (h2 : v < 18446744073709551616) : pack_Ticket.f a v = some (v % 281474976710656 * 65536 + (a + 1) % 65536) := by
  unfold pack_Ticket.f
  rw [ticket_word a v h1 h2]
theorem entry (v b s : Int) (h1 : 0 ≤ v) (h2 : v < 18446744073709551616) : pack_Entry.f v b s = some (v % 17592186044416 * 1048576 + (b + 1) % 65536 * 16 + s % 16) := by
  unfold pack_Entry.f
  rw [entry_word v b s h1 h2]
theorem slab (s p v : Int) (h1 : 0 ≤ v) (h2 : v < 18446744073709551616) : pack_Slab.f s p v = some (v % 281474976710656 * 65536 + p % 4096 * 16 + s % 16) := by
  unfold pack_Slab.f
  rw [slab_word v p s h1 h2]
theorem announce (v : Int) (on : Bool) (h1 : 0 ≤ v) (h2 : v < 18446744073709551616) : pack_Announce.f v on = some (v % 9223372036854775808 * 2 + if on = true then 1 else 0) := by
  unfold pack_Announce.f
  cases on
  · rw [announce_off v h1 h2]; simp
  · rw [announce_word v h1 h2]; simp
theorem awake : coatchecklaw01_awake.f = some true := by
  unfold coatchecklaw01_awake.f
  rw [head 4 1 (by omega) (by omega), ticket 2 3 (by omega) (by omega)]
  decide
theorem unentry (w : Int) : pack_Unentry.f w = some (w / 1048576, w / 16 % 65536 - 1, w % 16) := by
  unfold pack_Unentry.f
  rw [wrap_u16]
  unfold wrap64
  simp only [Option.some.injEq, Prod.mk.injEq, true_and]
  omega
theorem unslab (w : Int) : pack_Unslab.f w = some (w % 16, w / 16 % 4096, w / 65536) := by
  unfold pack_Unslab.f
  rw [wrap_u16]
  unfold wrap64
  simp only [Option.some.injEq, Prod.mk.injEq, and_true]
  omega
theorem unticket (w : Int) : pack_Unticket.f w = some (w % 65536 - 1, w / 65536) := by
  unfold pack_Unticket.f
  rw [wrap_u16]
  unfold wrap64
  simp only [Option.some.injEq, Prod.mk.injEq, and_true]
  omega
theorem unannounce (w : Int) (h1 : 0 ≤ w) (h2 : w < 18446744073709551616) : pack_Unannounce.f w = some (w / 2, w % 2 == 1) := by
  unfold pack_Unannounce.f
  rw [and1 w h1 (by omega)]
theorem unhead (w : Int) : pack_Unhead.f w = some (w % 4294967296 - 1, w / 4294967296) := rfl
end Fits
open Fits in
theorem PackFits : coatchecklaw01_PackFits.Pure := by
  intro a b s t v on ha hb hs ht hv
  obtain ⟨a1, a2⟩ := wf_u16 ha
  obtain ⟨b1, b2⟩ := wf_u16 hb
  obtain ⟨s1, s2⟩ := wf_u8 hs
  obtain ⟨t1, t2⟩ := wf_u8 ht
  obtain ⟨v1, v2⟩ := wf_u32 hv
  refine ⟨0 + 1, ?_⟩
  unfold coatchecklaw01_PackFits.f
  have ea : wrap64 (wrap64 a - 1) = a - 1 := by unfold wrap64; omega
  have eb : wrap64 (wrap64 b - 1) = b - 1 := by unfold wrap64; omega
  have es : Int.tmod (wrap64 s) 16 = s % 16 := by
    rw [Int.tmod_eq_emod_of_nonneg (by unfold wrap64; omega)]; unfold wrap64; omega
  have et : Int.tmod (wrap64 t) 16 = t % 16 := by
    rw [Int.tmod_eq_emod_of_nonneg (by unfold wrap64; omega)]; unfold wrap64; omega
  have ev : IntKind.u64.wrap v = v := by rw [wrap_u64]; omega
  rw [awake, ea, eb, es, et, ev, head _ _ (by omega) (by omega)]
  simp only [Option.bind_some, if_true, unhead]
  rw [if_pos (by omega)]
  rw [show ((v % 4294967296 * 4294967296 + (a - 1 + 1) % 4294967296) / 4294967296 != v) = false from by rw [bne_eq_false_iff_eq]; omega]
  simp only [coatchecklaw01_PackFits.j0, Bool.false_eq_true, if_false]
  rw [entry _ _ _ (by omega) (by omega), announce _ _ (by omega) (by omega), slab _ _ _ (by omega) (by omega), ticket _ _ (by omega) (by omega)]
  simp only [Option.bind_some, unentry, unslab, unticket]
  have hann : (v % 9223372036854775808 * 2 + (if on = true then 1 else 0)) / 2 = v ∧ ((v % 9223372036854775808 * 2 + (if on = true then 1 else 0)) % 2 == 1) = on ∧ 0 ≤ v % 9223372036854775808 * 2 + (if on = true then 1 else 0) ∧ v % 9223372036854775808 * 2 + (if on = true then 1 else 0) < 18446744073709551616 := by
    cases on
    · refine ⟨?_, ?_, ?_, ?_⟩ <;> simp <;> omega
    · refine ⟨?_, ?_, ?_, ?_⟩ <;> simp <;> omega
  obtain ⟨n1, n2, n3, n4⟩ := hann
  rw [unannounce _ n3 n4]
  simp only [Option.bind_some, n1, n2]
  rw [if_pos (by omega), if_pos (by omega), if_pos (by omega), if_pos trivial, if_pos (by simp), if_pos (by omega), if_pos (by omega), if_pos (by omega), if_pos (by omega)]
  simp only [Option.some.injEq, beq_iff_eq]
  omega

end Go.Proofs.Ytnbelpndlkbepaa.Pure
