/- PlanFirst: whatever the configuration, the law comes back true, and the configuration reads as it did. No condition. -/
import Derived.Test.YtaikpkhclnkkaaaFirst3
import Derived.Test.YtaikpkhclnkkaaaOpen
set_option linter.unusedVariables false
namespace Go.Proofs.Ytaikpkhclnkkaaa
open Go Go.Ax

set_option maxRecDepth 100000 in
theorem lifted_first (os : Os) (started : os.Started) (H : Type) (enc : TypeId × Value → H) :
    ReturnsInHanded {} Try.checked os 5 .any (Rows.planFirstSpec.pre6 enc Try.prog Try.f5 Rows.planFirstRow.domain false) (Rows.planFirstSpec.post enc Try.prog Try.f5 false true false false) :=
  row_ok (C := Try.checked) (c := cx) (code := codeOf Try.f5) (ts := [24]) (tb := 4) (spec := specF) (n := 100) own started (by kernel_rfl) Try.func5 (body_of (by kernel_rfl)) (by kernel_rfl) (by kernel_rfl) Try.underlying4 rfl
    (fun ds h => by match ds, h with | [d], _ => rfl)
    (ChangeSpec.witness6 (enc := enc) (C := Try.checked) false ⟨#[], #[.agg #[.int .i64 0, .int .i64 0, .int .i64 0, .int .i64 0, .int .i64 0, .int .i64 0, .int .i64 0, .int .u64 0]], []⟩ 8 (by kernel_rfl) (by kernel_rfl) (by kernel_rfl) (by kernel_rfl))
    (by kernel_rfl) (by kernel_rfl) rfl opn_cfg1 ΓQ_ok (fun a _ => law_told a)
theorem over_first : Rows.planFirstRow.holds Try.pinned (OpenSpec.ofChange Rows.planFirstSpec) :=
  OpenClaim.holds_of_wide 5 Try.f5 rfl rfl rfl rfl rfl rfl rfl ⟨rfl, rfl, rfl, rfl, rfl⟩ rfl rfl rfl rfl rfl (by kernel_rfl) Try.func5 (by kernel_rfl)
    (of_decide_eq_true (by kernel_rfl)) (by unfold Func.isWrapper; first | (rw [if_pos (by decide +kernel)]; kernel_rfl) | (rw [if_neg (by decide +kernel)]; exact ⟨rfl, rfl⟩))
    (fun os started H enc _ => lifted_first os started H enc)
/-- The row. -/
theorem planFirst_holds : Rows.PlanFirstSaid := over_first
#print axioms planFirst_holds
end Go.Proofs.Ytaikpkhclnkkaaa
