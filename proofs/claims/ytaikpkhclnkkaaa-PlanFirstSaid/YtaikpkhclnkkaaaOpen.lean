/- The arguments of the seat's statements stand for plain data. No condition. -/
import Derived.Test.YtaikpkhclnkkaaaVc2
import Derived.Test.YtaikpkhclnkkaaaAx23
set_option linter.unusedVariables false
namespace Go.Proofs.Ytaikpkhclnkkaaa
open Go Go.Ax

theorem opn_i64 {t : TypeId} (ht : Try.prog.underlying t = some (.int .i64)) : Opn Try.prog lay t (Cd.int .i64) (fun n => (Lit.int .i64 n).wf = true) := Opn.int ht
theorem opn_u64 {t : TypeId} (ht : Try.prog.underlying t = some (.int .u64)) : Opn Try.prog lay t (Cd.int .u64) (fun n => (Lit.int .u64 n).wf = true) := Opn.int ht
/-- A configuration's cells. -/
theorem opn_cfg : Opn Try.prog lay 24 cdCfg (fun c => (Lit.int .i64 c.b).wf = true ∧ (Lit.int .i64 c.w).wf = true ∧ (Lit.int .i64 c.s).wf = true ∧ (Lit.int .i64 c.e).wf = true ∧ (Lit.int .i64 c.o).wf = true) := by
  have h3 := opn_i64 Try.underlying3
  have h22 := opn_u64 Try.underlying22
  have c3 : Try.prog.cellsOf 3 = 1 := by kernel_rfl
  have c22 : Try.prog.cellsOf 22 = 1 := by kernel_rfl
  have c24 : Try.prog.cellsOf 24 = 8 := by kernel_rfl
  have hF : OpnF Try.prog lay [(0, 3), (1, 3), (2, 3), (3, 3), (4, 3), (5, 3), (6, 3), (7, 22)] 0 (Try.prog.cellsOf 24) cdCfg _ :=
    OpnF.iso (OpnF.cons h3 (by rw [c3]) (OpnF.cons h3 (by rw [c3]) (OpnF.cons h3 (by rw [c3]) (OpnF.cons h3 (by rw [c3]) (OpnF.cons h3 (by rw [c3]) (OpnF.cons h3 (by rw [c3]) (OpnF.cons h3 (by rw [c3]) (OpnF.last h22 (by rw [c22, c24]))))))))) _ _ _
  exact (Opn.struct Try.underlying24 hF).mono (fun c h => ⟨h.2.2.1, h.1, h.2.1, h.2.2.2.2.1, h.2.2.2.1⟩)

theorem opn_cfg1 : OpnL Try.prog lay [24] aCfg (fun c => (Lit.int .i64 c.b).wf = true ∧ (Lit.int .i64 c.w).wf = true ∧ (Lit.int .i64 c.s).wf = true ∧ (Lit.int .i64 c.e).wf = true ∧ (Lit.int .i64 c.o).wf = true) :=
  OpnL.last (OpnV.agg opn_cfg (by kernel_rfl))

theorem own : ownKnob Try.prog.godebug = none := by kernel_rfl
end Go.Proofs.Ytaikpkhclnkkaaa
