/- WholeForged: whatever the configuration, the programs and the schedule, the law comes back true, and its arguments read as they did. No condition. -/
import Derived.Test.YtaeepogbgflbpaaGreatN10
set_option linter.unusedVariables false
namespace Go.Proofs.YtaeepogbgflbpaaGreat
open Go Go.Ax

set_option maxRecDepth 100000 in
theorem lifted_forged (os : Os) (started : os.Started) (H : Type) (enc : TypeId × Value → H) :
    ReturnsInHanded {} Tryz.checked os 4 .any (Rows.wholeForgedSpec.pre6 enc Tryz.prog Tryz.f4 Rows.wholeForgedRow.domain false) (Rows.wholeForgedSpec.post enc Tryz.prog Tryz.f4 false true false false) :=
  row_ok (C := Tryz.checked) (c := cx) (code := codeOf Tryz.f4) (ts := [24, 25, 26]) (tb := 4) (spec := fun p => specForge (playH p)) (n := 100) own started (by kernel_rfl) Tryz.func4 (body_of (by kernel_rfl)) (by kernel_rfl) (by kernel_rfl) Tryz.underlying4 rfl
    (fun ds h => by match ds, h with | [d1, d2, d3], _ => rfl)
    (ChangeSpec.witness6 (enc := enc) (C := Tryz.checked) false ⟨#[], #[.agg #[.int .i64 0, .int .i64 0, .int .i64 0, .int .i64 0, .int .i64 0, .int .i64 0, .int .i64 0, .int .u64 0], .slice none 0 0, .slice none 0 0], []⟩ 12 (by kernel_rfl) (by kernel_rfl) (by kernel_rfl) (by kernel_rfl))
    (by kernel_rfl) (by kernel_rfl) rfl opn_whole ΓT4_ok (fun ⟨c, l, p⟩ _ => forged_told c l p (play_fine c l p) (fun h => forge_ok h))
theorem over_forged : Rows.wholeForgedRow.holds Tryz.pinned (OpenSpec.ofChange Rows.wholeForgedSpec) :=
  OpenClaim.holds_of_wide 4 Tryz.f4 rfl rfl rfl rfl rfl rfl rfl ⟨rfl, rfl, rfl, rfl, rfl⟩ rfl rfl rfl rfl rfl (by kernel_rfl) Tryz.func4 (by kernel_rfl)
    (of_decide_eq_true (by kernel_rfl)) (by unfold Func.isWrapper; first | (rw [if_pos (by decide +kernel)]; kernel_rfl) | (rw [if_neg (by decide +kernel)]; exact ⟨rfl, rfl⟩))
    (fun os started H enc _ => lifted_forged os started H enc)
/-- The row. -/
theorem wholeForged_holds : Rows.WholeForgedSaid := over_forged
#print axioms wholeForged_holds
end Go.Proofs.YtaeepogbgflbpaaGreat
