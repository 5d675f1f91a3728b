/- RackMoves: whatever the configuration, the state, the block and the list, the law comes back true, and its arguments read as they did. No condition. -/
import Derived.Test.YtggaecdhgbdilaaLawMoves
import Derived.Test.YtggaecdhgbdilaaOpen
set_option linter.unusedVariables false
namespace Go.Proofs.Ytggaecdhgbdilaa
open Go Go.Ax

theorem c38 : Try.prog.cellsOf 38 = 8 := by kernel_rfl
theorem h38 : Opn Try.prog lay 38 cdCfg (fun _ => True) := (Opn.struct Try.underlying38 (d := cdCfg) (OpnF.iso (OpnF.cons h3 (by rw [c3]) (OpnF.cons h3 (by rw [c3]) (OpnF.cons h3 (by rw [c3]) (OpnF.cons h3 (by rw [c3]) (OpnF.cons h3 (by rw [c3]) (OpnF.cons h3 (by rw [c3]) (OpnF.cons h3 (by rw [c3]) (OpnF.last h22 (by rw [c22, c38]))))))))) _ _ _)).mono (fun _ _ => trivial)
def aMovesF : Cd El (Cfg × Wk × Int × List Int) := .pair aCfg (.pair (Cd.agg cdWkF) (.pair aI aL))
theorem opn_moves : OpnL Try.prog lay [38, 32, 3, 25] aMovesF (fun _ => True) := fun H enc w base vs ds ps h hv => by
  obtain ⟨a, h1, _⟩ := OpnL.cons (OpnV.agg h38 (by kernel_rfl)) (OpnL.cons opn_wk (OpnL.cons (OpnV.one h3 (by kernel_rfl)) (OpnL.last (OpnV.one h25 (by kernel_rfl))))) H enc w base vs ds ps h hv
  exact ⟨a, h1, trivial⟩
set_option maxRecDepth 100000 in
theorem lifted_moves (os : Os) (started : os.Started) (H : Type) (enc : TypeId × Value → H) :
    ReturnsInHanded {} Try.checked os 4 .any (Rows.rackMovesSpec.pre6 enc Try.prog Try.f4 Rows.rackMovesRow.domain false) (Rows.rackMovesSpec.post enc Try.prog Try.f4 false true false false) :=
  row_ok (C := Try.checked) (c := cx) (code := codeOf Try.f4) (ts := [38, 32, 3, 25]) (tb := 4) (spec := fun _ => noSpec) (n := 200) own started (by kernel_rfl) Try.func4 (body_of (by kernel_rfl)) (by kernel_rfl) (by kernel_rfl) Try.underlying4 rfl
    (fun ds h => by match ds, h with | [d1, d2, d3, d4], _ => rfl)
    (ChangeSpec.witness6 (enc := enc) (C := Try.checked) false ⟨#[], #[.agg #[.int .i64 0, .int .i64 0, .int .i64 0, .int .i64 0, .int .i64 0, .int .i64 0, .int .i64 0, .int .u64 0], .agg #[.int .i64 0, .int .i64 0, .int .u64 0, .int .u64 0, .int .i64 0, .bool false, .int .i64 0, .int .i64 0, .bool false, .int .u64 0, .slice none 0 0, .int .u64 0, .slice none 0 0, .int .u64 0, .slice none 0 0, .int .u64 0, .slice none 0 0, .slice none 0 0, .int .i64 0, .int .i64 0, .int .i64 0, .int .i64 0, .int .i64 0, .int .u64 0, .int .u64 0, .int .u64 0, .int .u64 0, .int .u64 0, .int .i64 0, .slice none 0 0, .int .u64 0, .int .i64 0, .bool false], .int .i64 0, .slice none 0 0], []⟩ 12 (by kernel_rfl) (by kernel_rfl) (by kernel_rfl) (by kernel_rfl))
    (by kernel_rfl) (by kernel_rfl) rfl opn_moves Γ6_ok (fun ⟨c, x, b, l⟩ _ => moves_told c x b l)
theorem over_moves : Rows.rackMovesRow.holds Try.pinned (OpenSpec.ofChange Rows.rackMovesSpec) :=
  OpenClaim.holds_of_wide 4 Try.f4 rfl rfl rfl rfl rfl rfl rfl ⟨rfl, rfl, rfl, rfl, rfl⟩ rfl rfl rfl rfl rfl (by kernel_rfl) Try.func4 (by kernel_rfl)
    (of_decide_eq_true (by kernel_rfl)) (by unfold Func.isWrapper; first | (rw [if_pos (by decide +kernel)]; kernel_rfl) | (rw [if_neg (by decide +kernel)]; exact ⟨rfl, rfl⟩))
    (fun os started H enc _ => lifted_moves os started H enc)
/-- The row. -/
theorem rackMoves_holds : Rows.RackMovesSaid := over_moves
#print axioms rackMoves_holds
end Go.Proofs.Ytggaecdhgbdilaa
