/- The contracts of the copies. No condition. -/
import Derived.Test.YtggaecdhgbdilaaVc3
set_option linter.unusedVariables false
set_option linter.unusedSimpArgs false
set_option maxRecDepth 100000
namespace Go.Proofs.Ytggaecdhgbdilaa
open Go Go.Ax

theorem ok13 : GOk cx 13 (plain aWk aWk Bear id) := plain_ok Γ2_ok Try.func13 (body_of (by kernel_rfl)) Try.call13 (fun x h => ⟨noSpec, 200, by
  have e := vc_rcopy (fun q => q = id x) x
  rw [e]; clear e
  have h1 := h.rack; have h2 := h.hold; have h3 := h.read; have h4 := h.l0; have h5 := h.l1; have h6 := h.l2
  unfold small at h1 h2 h3 h4 h5 h6
  exact ⟨⟨by omega, by omega⟩, ⟨by omega, by omega⟩, ⟨by omega, by omega⟩, ⟨by omega, by omega⟩, ⟨by omega, by omega⟩, ⟨by omega, by omega⟩, rfl⟩⟩)
theorem ok14 : GOk cx 14 (ctr (tell aWk tCopy)) := tell_fit Γ2_ok Try.func14 (body_of (by kernel_rfl)) Try.call14 (fun x h => ⟨noSpec, 200, by
  have h : Bear x := h
  have e := vc_copy x
  refine Eq.mpr e ?_; clear e
  refine ⟨h.rack, h.rack, h.hold, h.read, h.l0, h.l1, h.l2, ?_⟩
  repeat (first | exact trivial | exact rfl | refine ⟨?_, ?_⟩)⟩)
end Go.Proofs.Ytggaecdhgbdilaa
