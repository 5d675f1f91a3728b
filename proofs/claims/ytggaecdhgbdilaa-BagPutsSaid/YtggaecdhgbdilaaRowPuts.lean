/- BagPuts: whatever the configuration, the state, the block and the epoch, the law comes back true, and its arguments read as they did. No condition. -/
import Derived.Test.YtggaecdhgbdilaaLawPuts
import Derived.Test.YtggaecdhgbdilaaOpen2
set_option linter.unusedVariables false
namespace Go.Proofs.Ytggaecdhgbdilaa
open Go Go.Ax

def aPutsF : Cd El (Cfg × Wk × Int × Int) := .pair aCfg (.pair (Cd.agg cdWkF) (.pair aI aU))
theorem opn_puts : OpnL Try.prog lay [38, 32, 3, 22] aPutsF (fun _ => True) := fun H enc w base vs ds ps h hv => by
  obtain ⟨a, h1, _⟩ := OpnL.cons opn_cfg (OpnL.cons opn_wk (OpnL.cons opn_int (OpnL.last opn_word))) H enc w base vs ds ps h hv
  exact ⟨a, h1, trivial⟩
set_option maxRecDepth 100000 in
theorem lifted_puts (os : Os) (started : os.Started) (H : Type) (enc : TypeId × Value → H) :
    ReturnsInHanded {} Try.checked os 8 .any (Rows.bagPutsSpec.pre6 enc Try.prog Try.f8 Rows.bagPutsRow.domain false) (Rows.bagPutsSpec.post enc Try.prog Try.f8 false true false false) :=
  row_ok (C := Try.checked) (c := cx) (code := codeOf Try.f8) (ts := [38, 32, 3, 22]) (tb := 4) (spec := fun p => specPuts p.2.1 p.2.2.1) (n := 200) own started (by kernel_rfl) Try.func8 (body_of (by kernel_rfl)) (by kernel_rfl) (by kernel_rfl) Try.underlying4 rfl
    (fun ds h => by match ds, h with | [d1, d2, d3, d4], _ => rfl)
    (ChangeSpec.witness6 (enc := enc) (C := Try.checked) false ⟨#[], #[.agg #[.int .i64 0, .int .i64 0, .int .i64 0, .int .i64 0, .int .i64 0, .int .i64 0, .int .i64 0, .int .u64 0], .agg #[.int .i64 0, .int .i64 0, .int .u64 0, .int .u64 0, .int .i64 0, .bool false, .int .i64 0, .int .i64 0, .bool false, .int .u64 0, .slice none 0 0, .int .u64 0, .slice none 0 0, .int .u64 0, .slice none 0 0, .int .u64 0, .slice none 0 0, .slice none 0 0, .int .i64 0, .int .i64 0, .int .i64 0, .int .i64 0, .int .i64 0, .int .u64 0, .int .u64 0, .int .u64 0, .int .u64 0, .int .u64 0, .int .i64 0, .slice none 0 0, .int .u64 0, .int .i64 0, .bool false], .int .i64 0, .int .u64 0], []⟩ 12 (by kernel_rfl) (by kernel_rfl) (by kernel_rfl) (by kernel_rfl))
    (by kernel_rfl) (by kernel_rfl) rfl opn_puts ΓB_ok (fun ⟨c, x, b, ep⟩ _ => puts_told c x b ep)
theorem over_puts : Rows.bagPutsRow.holds Try.pinned (OpenSpec.ofChange Rows.bagPutsSpec) :=
  OpenClaim.holds_of_wide 8 Try.f8 rfl rfl rfl rfl rfl rfl rfl ⟨rfl, rfl, rfl, rfl, rfl⟩ rfl rfl rfl rfl rfl (by kernel_rfl) Try.func8 (by kernel_rfl)
    (of_decide_eq_true (by kernel_rfl)) (by unfold Func.isWrapper; first | (rw [if_pos (by decide +kernel)]; kernel_rfl) | (rw [if_neg (by decide +kernel)]; exact ⟨rfl, rfl⟩))
    (fun os started H enc _ => lifted_puts os started H enc)
/-- The row. -/
theorem bagPuts_holds : Rows.BagPutsSaid := over_puts
#print axioms bagPuts_holds
end Go.Proofs.Ytggaecdhgbdilaa
