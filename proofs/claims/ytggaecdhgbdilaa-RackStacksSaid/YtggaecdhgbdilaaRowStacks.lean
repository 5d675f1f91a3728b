/- RackStacks: whatever the configuration and the list, the law comes back true, and its arguments read as they did. No condition. -/
import Derived.Test.YtggaecdhgbdilaaLawStacks
import Derived.Test.YtggaecdhgbdilaaOpen2
set_option linter.unusedVariables false
namespace Go.Proofs.Ytggaecdhgbdilaa
open Go Go.Ax

theorem opn_stacks : OpnL Try.prog lay [38, 25] aStacks (fun _ => True) := fun H enc w base vs ds ps h hv => by
  obtain ⟨a, h1, _⟩ := OpnL.cons opn_cfg (OpnL.last opn_ints) H enc w base vs ds ps h hv
  exact ⟨a, h1, trivial⟩
set_option maxRecDepth 100000 in
theorem lifted_stacks (os : Os) (started : os.Started) (H : Type) (enc : TypeId × Value → H) :
    ReturnsInHanded {} Try.checked os 5 .any (Rows.rackStacksSpec.pre6 enc Try.prog Try.f5 Rows.rackStacksRow.domain false) (Rows.rackStacksSpec.post enc Try.prog Try.f5 false true false false) :=
  row_ok (C := Try.checked) (c := cx) (code := codeOf Try.f5) (ts := [38, 25]) (tb := 4) (spec := fun p => specStacks p.1 p.2) (n := 200) own started (by kernel_rfl) Try.func5 (body_of (by kernel_rfl)) (by kernel_rfl) (by kernel_rfl) Try.underlying4 rfl
    (fun ds h => by match ds, h with | [d1, d2], _ => rfl)
    (ChangeSpec.witness6 (enc := enc) (C := Try.checked) false ⟨#[], #[.agg #[.int .i64 0, .int .i64 0, .int .i64 0, .int .i64 0, .int .i64 0, .int .i64 0, .int .i64 0, .int .u64 0], .slice none 0 0], []⟩ 12 (by kernel_rfl) (by kernel_rfl) (by kernel_rfl) (by kernel_rfl))
    (by kernel_rfl) (by kernel_rfl) rfl opn_stacks Γ6_ok (fun ⟨c, l⟩ _ => stacks_told c l)
theorem over_stacks : Rows.rackStacksRow.holds Try.pinned (OpenSpec.ofChange Rows.rackStacksSpec) :=
  OpenClaim.holds_of_wide 5 Try.f5 rfl rfl rfl rfl rfl rfl rfl ⟨rfl, rfl, rfl, rfl, rfl⟩ rfl rfl rfl rfl rfl (by kernel_rfl) Try.func5 (by kernel_rfl)
    (of_decide_eq_true (by kernel_rfl)) (by unfold Func.isWrapper; first | (rw [if_pos (by decide +kernel)]; kernel_rfl) | (rw [if_neg (by decide +kernel)]; exact ⟨rfl, rfl⟩))
    (fun os started H enc _ => lifted_stacks os started H enc)
/-- The row. -/
theorem rackStacks_holds : Rows.RackStacksSaid := over_stacks
#print axioms rackStacks_holds
end Go.Proofs.Ytggaecdhgbdilaa
