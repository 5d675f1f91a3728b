/- RackSame: whatever the two states, the law comes back true, and its arguments read as they did. No condition. -/
import Derived.Test.YtggaecdhgbdilaaLawSame
import Derived.Test.YtggaecdhgbdilaaOpen
set_option linter.unusedVariables false
namespace Go.Proofs.Ytggaecdhgbdilaa
open Go Go.Ax

def aWWF : Cd El (Wk × Wk) := .pair (Cd.agg cdWkF) (Cd.agg cdWkF)
theorem opn_same : OpnL Try.prog lay [32, 32] aWWF (fun _ => True) := fun H enc w base vs ds ps h hv => by
  obtain ⟨a, h1, _⟩ := OpnL.cons opn_wk (OpnL.last opn_wk) H enc w base vs ds ps h hv
  exact ⟨a, h1, trivial⟩
set_option maxRecDepth 100000 in
theorem lifted_same (os : Os) (started : os.Started) (H : Type) (enc : TypeId × Value → H) :
    ReturnsInHanded {} Try.checked os 3 .any (Rows.rackSameSpec.pre6 enc Try.prog Try.f3 Rows.rackSameRow.domain false) (Rows.rackSameSpec.post enc Try.prog Try.f3 false true false false) :=
  row_ok (C := Try.checked) (c := cx) (code := codeOf Try.f3) (ts := [32, 32]) (tb := 4) (spec := fun p => specSame3 p.1) (n := 200) own started (by kernel_rfl) Try.func3 (body_of (by kernel_rfl)) (by kernel_rfl) (by kernel_rfl) Try.underlying4 rfl
    (fun ds h => by match ds, h with | [d1, d2], _ => rfl)
    (ChangeSpec.witness6 (enc := enc) (C := Try.checked) false ⟨#[], #[.agg #[.int .i64 0, .int .i64 0, .int .u64 0, .int .u64 0, .int .i64 0, .bool false, .int .i64 0, .int .i64 0, .bool false, .int .u64 0, .slice none 0 0, .int .u64 0, .slice none 0 0, .int .u64 0, .slice none 0 0, .int .u64 0, .slice none 0 0, .slice none 0 0, .int .i64 0, .int .i64 0, .int .i64 0, .int .i64 0, .int .i64 0, .int .u64 0, .int .u64 0, .int .u64 0, .int .u64 0, .int .u64 0, .int .i64 0, .slice none 0 0, .int .u64 0, .int .i64 0, .bool false], .agg #[.int .i64 0, .int .i64 0, .int .u64 0, .int .u64 0, .int .i64 0, .bool false, .int .i64 0, .int .i64 0, .bool false, .int .u64 0, .slice none 0 0, .int .u64 0, .slice none 0 0, .int .u64 0, .slice none 0 0, .int .u64 0, .slice none 0 0, .slice none 0 0, .int .i64 0, .int .i64 0, .int .i64 0, .int .i64 0, .int .i64 0, .int .u64 0, .int .u64 0, .int .u64 0, .int .u64 0, .int .u64 0, .int .i64 0, .slice none 0 0, .int .u64 0, .int .i64 0, .bool false]], []⟩ 12 (by kernel_rfl) (by kernel_rfl) (by kernel_rfl) (by kernel_rfl))
    (by kernel_rfl) (by kernel_rfl) rfl opn_same Γ6_ok (fun ⟨x, y⟩ _ => same_told x y)
theorem over_same : Rows.rackSameRow.holds Try.pinned (OpenSpec.ofChange Rows.rackSameSpec) :=
  OpenClaim.holds_of_wide 3 Try.f3 rfl rfl rfl rfl rfl rfl rfl ⟨rfl, rfl, rfl, rfl, rfl⟩ rfl rfl rfl rfl rfl (by kernel_rfl) Try.func3 (by kernel_rfl)
    (of_decide_eq_true (by kernel_rfl)) (by unfold Func.isWrapper; first | (rw [if_pos (by decide +kernel)]; kernel_rfl) | (rw [if_neg (by decide +kernel)]; exact ⟨rfl, rfl⟩))
    (fun os started H enc _ => lifted_same os started H enc)
/-- The row. -/
theorem rackSame_holds : Rows.RackSameSaid := over_same
#print axioms rackSame_holds
end Go.Proofs.Ytggaecdhgbdilaa
