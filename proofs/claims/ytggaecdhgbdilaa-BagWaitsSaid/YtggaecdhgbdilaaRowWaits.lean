/- BagWaits: whatever the configuration and the steps, the law comes back true, and its arguments read as they did. No condition. -/
import Derived.Test.YtggaecdhgbdilaaLawWaits
import Derived.Test.YtggaecdhgbdilaaOpen2
set_option linter.unusedVariables false
namespace Go.Proofs.Ytggaecdhgbdilaa
open Go Go.Ax

theorem opn_waits : OpnL Try.prog lay [38, 47] aWaitsL (fun _ => True) := fun H enc w base vs ds ps h hv => by
  obtain ⟨a, h1, _⟩ := OpnL.cons opn_cfg (OpnL.last opn_bytes) H enc w base vs ds ps h hv
  exact ⟨a, h1, trivial⟩
set_option maxRecDepth 100000 in
theorem lifted_waits (os : Os) (started : os.Started) (H : Type) (enc : TypeId × Value → H) :
    ReturnsInHanded {} Try.checked os 6 .any (Rows.bagWaitsSpec.pre6 enc Try.prog Try.f6 Rows.bagWaitsRow.domain false) (Rows.bagWaitsSpec.post enc Try.prog Try.f6 false true false false) :=
  row_ok (C := Try.checked) (c := cx) (code := codeOf Try.f6) (ts := [38, 47]) (tb := 4) (spec := fun p => specWaits p.2.length) (n := 200) own started (by kernel_rfl) Try.func6 (body_of (by kernel_rfl)) (by kernel_rfl) (by kernel_rfl) Try.underlying4 rfl
    (fun ds h => by match ds, h with | [d1, d2], _ => rfl)
    (ChangeSpec.witness6 (enc := enc) (C := Try.checked) false ⟨#[], #[.agg #[.int .i64 0, .int .i64 0, .int .i64 0, .int .i64 0, .int .i64 0, .int .i64 0, .int .i64 0, .int .u64 0], .slice none 0 0], []⟩ 12 (by kernel_rfl) (by kernel_rfl) (by kernel_rfl) (by kernel_rfl))
    (by kernel_rfl) (by kernel_rfl) rfl opn_waits ΓB_ok (fun ⟨c, l⟩ _ => waits_told c l)
theorem over_waits : Rows.bagWaitsRow.holds Try.pinned (OpenSpec.ofChange Rows.bagWaitsSpec) :=
  OpenClaim.holds_of_wide 6 Try.f6 rfl rfl rfl rfl rfl rfl rfl ⟨rfl, rfl, rfl, rfl, rfl⟩ rfl rfl rfl rfl rfl (by kernel_rfl) Try.func6 (by kernel_rfl)
    (of_decide_eq_true (by kernel_rfl)) (by unfold Func.isWrapper; first | (rw [if_pos (by decide +kernel)]; kernel_rfl) | (rw [if_neg (by decide +kernel)]; exact ⟨rfl, rfl⟩))
    (fun os started H enc _ => lifted_waits os started H enc)
/-- The row. -/
theorem bagWaits_holds : Rows.BagWaitsSaid := over_waits
#print axioms bagWaits_holds
end Go.Proofs.Ytggaecdhgbdilaa
