/- PlanTells: whatever the configuration and the two numbers, the law comes back true, and its arguments read as they did. No condition. -/
import Derived.Test.YtaikpkhclnkkaaaTells4
import Derived.Test.YtaikpkhclnkkaaaOpen
set_option linter.unusedVariables false
namespace Go.Proofs.Ytaikpkhclnkkaaa
open Go Go.Ax

theorem opn_int : OpnV Try.prog lay 3 (Cd.int .i64) (fun n => (Lit.int .i64 n).wf = true) := OpnV.one (opn_i64 Try.underlying3) (by kernel_rfl)
theorem opn_tells : OpnL Try.prog lay [24, 3, 3] (.pair aCfg (.pair aI aI)) (fun _ => True) := fun H enc w base vs ds ps h hv => by
  obtain ⟨a, h1, _⟩ := OpnL.cons (OpnV.agg opn_cfg (by kernel_rfl)) (OpnL.cons opn_int (OpnL.last opn_int)) H enc w base vs ds ps h hv
  exact ⟨a, h1, trivial⟩
set_option maxRecDepth 100000 in
theorem lifted_tells (os : Os) (started : os.Started) (H : Type) (enc : TypeId × Value → H) :
    ReturnsInHanded {} Try.checked os 4 .any (Rows.planTellsSpec.pre6 enc Try.prog Try.f4 Rows.planTellsRow.domain false) (Rows.planTellsSpec.post enc Try.prog Try.f4 false true false false) :=
  row_ok (C := Try.checked) (c := cx) (code := codeOf Try.f4) (ts := [24, 3, 3]) (tb := 4) (spec := fun _ => noSpec) (n := 300) own started (by kernel_rfl) Try.func4 (body_of (by kernel_rfl)) (by kernel_rfl) (by kernel_rfl) Try.underlying4 rfl
    (fun ds h => by match ds, h with | [d, d', d''], _ => rfl)
    (ChangeSpec.witness6 (enc := enc) (C := Try.checked) false ⟨#[], #[.agg #[.int .i64 0, .int .i64 0, .int .i64 0, .int .i64 0, .int .i64 0, .int .i64 0, .int .i64 0, .int .u64 0], .int .i64 0, .int .i64 0], []⟩ 8 (by kernel_rfl) (by kernel_rfl) (by kernel_rfl) (by kernel_rfl))
    (by kernel_rfl) (by kernel_rfl) rfl opn_tells ΓI_ok (fun ⟨x, a, b⟩ _ => tells_told x a b)
theorem over_tells : Rows.planTellsRow.holds Try.pinned (OpenSpec.ofChange Rows.planTellsSpec) :=
  OpenClaim.holds_of_wide 4 Try.f4 rfl rfl rfl rfl rfl rfl rfl ⟨rfl, rfl, rfl, rfl, rfl⟩ rfl rfl rfl rfl rfl (by kernel_rfl) Try.func4 (by kernel_rfl)
    (of_decide_eq_true (by kernel_rfl)) (by unfold Func.isWrapper; first | (rw [if_pos (by decide +kernel)]; kernel_rfl) | (rw [if_neg (by decide +kernel)]; exact ⟨rfl, rfl⟩))
    (fun os started H enc _ => lifted_tells os started H enc)
/-- The row. -/
theorem planTells_holds : Rows.PlanTellsSaid := over_tells
#print axioms planTells_holds
end Go.Proofs.Ytaikpkhclnkkaaa
