/- The arguments of the statements on states stand for plain data. No condition. -/
import Derived.Test.YtggaecdhgbdilaaWork
import Derived.Test.YtggaecdhgbdilaaAx23
set_option linter.unusedVariables false
set_option maxRecDepth 100000
namespace Go.Proofs.Ytggaecdhgbdilaa
open Go Go.Ax

def cdBag : Cd El (Int × List Int) := .pair aU aL
def cdBags3 : Cd El ((Int × List Int) × (Int × List Int) × (Int × List Int)) := .pair cdBag (.pair cdBag cdBag)
def cdWkG : Cd El (Int × OpD × Bool × Int × List Int × ((Int × List Int) × (Int × List Int) × (Int × List Int)) × List Int × Int × Int × Int × Int × Int × Int × Int × Int × Int × Int × Int × List Int × Int × Int × Bool) := .pair aI (.pair cdOp (.pair .bool (.pair aU (.pair aL (.pair cdBags3 (.pair aL (.pair aI (.pair aI (.pair aI (.pair aI (.pair aI (.pair aU (.pair aU (.pair aU (.pair aU (.pair aU (.pair aI (.pair aW (.pair aU (.pair aI .bool))))))))))))))))))))
/-- A state, field by field. -/
def cdWkF : Cd El Wk := .iso cdWkG (fun q => ⟨q.1, q.2.1, q.2.2.1, q.2.2.2.1, q.2.2.2.2.1, q.2.2.2.2.2.1.1.1, q.2.2.2.2.2.1.1.2, q.2.2.2.2.2.1.2.1.1, q.2.2.2.2.2.1.2.1.2, q.2.2.2.2.2.1.2.2.1, q.2.2.2.2.2.1.2.2.2, q.2.2.2.2.2.2.1, q.2.2.2.2.2.2.2.1, q.2.2.2.2.2.2.2.2.1, q.2.2.2.2.2.2.2.2.2.1, q.2.2.2.2.2.2.2.2.2.2.1, q.2.2.2.2.2.2.2.2.2.2.2.1, q.2.2.2.2.2.2.2.2.2.2.2.2.1, q.2.2.2.2.2.2.2.2.2.2.2.2.2.1, q.2.2.2.2.2.2.2.2.2.2.2.2.2.2.1, q.2.2.2.2.2.2.2.2.2.2.2.2.2.2.2.1, q.2.2.2.2.2.2.2.2.2.2.2.2.2.2.2.2.1, q.2.2.2.2.2.2.2.2.2.2.2.2.2.2.2.2.2.1, q.2.2.2.2.2.2.2.2.2.2.2.2.2.2.2.2.2.2.1, q.2.2.2.2.2.2.2.2.2.2.2.2.2.2.2.2.2.2.2.1, q.2.2.2.2.2.2.2.2.2.2.2.2.2.2.2.2.2.2.2.2.1, q.2.2.2.2.2.2.2.2.2.2.2.2.2.2.2.2.2.2.2.2.2⟩) (fun x => (x.line, x.op, x.pin, x.e, x.rack, ((x.t0, x.l0), (x.t1, x.l1), (x.t2, x.l2)), x.hold, x.b, x.k, x.i, x.c, x.bor, x.h, x.n, x.v, x.u, x.g, x.j, x.read, x.t, x.ret, x.give)) (fun _ => rfl)

theorem h3 : Opn Try.prog lay 3 aI (fun n => (Lit.int .i64 n).wf = true) := Opn.int Try.underlying3
theorem h30 : Opn Try.prog lay 30 aI (fun n => (Lit.int .i64 n).wf = true) := Opn.int Try.underlying30
theorem h22 : Opn Try.prog lay 22 aU (fun n => (Lit.int .u64 n).wf = true) := Opn.int Try.underlying22
theorem h4 : Opn Try.prog lay 4 Cd.bool (fun _ => True) := Opn.bool Try.underlying4
theorem c3 : Try.prog.cellsOf 3 = 1 := by kernel_rfl
theorem c30 : Try.prog.cellsOf 30 = 1 := by kernel_rfl
theorem c22 : Try.prog.cellsOf 22 = 1 := by kernel_rfl
theorem c4 : Try.prog.cellsOf 4 = 1 := by kernel_rfl
theorem c24 : Try.prog.cellsOf 24 = 7 := by kernel_rfl
theorem c25 : Try.prog.cellsOf 25 = 1 := by kernel_rfl
theorem c27 : Try.prog.cellsOf 27 = 2 := by kernel_rfl
theorem c28 : Try.prog.cellsOf 28 = 6 := by kernel_rfl
theorem c29 : Try.prog.cellsOf 29 = 1 := by kernel_rfl
theorem c32 : Try.prog.cellsOf 32 = 33 := by kernel_rfl
theorem h25 : Opn Try.prog lay 25 aL (fun _ => True) := (Opn.slice Try.underlying25 (aI : Cd El Int) (fun x => rfl) (by kernel_rfl) (by decide +kernel) h3).mono (fun _ _ => trivial)
theorem h29 : Opn Try.prog lay 29 aW (fun _ => True) := (Opn.slice Try.underlying29 (aU : Cd El Int) (fun x => rfl) (by kernel_rfl) (by decide +kernel) h22).mono (fun _ _ => trivial)
theorem h24 : Opn Try.prog lay 24 cdOp (fun _ => True) := (Opn.struct Try.underlying24 (d := cdOp) (OpnF.iso (OpnF.cons h3 (by rw [c3]) (OpnF.cons h22 (by rw [c22]) (OpnF.cons h22 (by rw [c22]) (OpnF.cons h3 (by rw [c3]) (OpnF.cons h4 (by rw [c4]) (OpnF.cons h3 (by rw [c3]) (OpnF.last h3 (by rw [c3, c24])))))))) _ _ _)).mono (fun _ _ => trivial)
theorem h27 : Opn Try.prog lay 27 cdBag (fun _ => True) := (Opn.struct Try.underlying27 (d := cdBag) (OpnF.cons h22 (by rw [c22]) (OpnF.last h25 (by rw [c25, c27])))).mono (fun _ _ => trivial)
theorem h28 : Opn Try.prog lay 28 cdBags3 (fun _ => True) := (Opn.array Try.underlying28 (d := cdBags3) (ok := fun _ => True) (by
  have hF : OpnF Try.prog lay [(0, 27), (2, 27), (4, 27)] 0 6 cdBags3 _ := OpnF.cons h27 (by rw [c27]) (OpnF.cons h27 (by rw [c27]) (OpnF.last h27 (by rw [c27])))
  rw [c28, c27]
  exact hF.mono (fun _ _ => trivial)))
theorem h32 : Opn Try.prog lay 32 cdWkF (fun _ => True) := (Opn.struct Try.underlying32 (d := cdWkF) (OpnF.iso (OpnF.cons h3 (by rw [c3]) (OpnF.cons h24 (by rw [c24]) (OpnF.cons h4 (by rw [c4]) (OpnF.cons h22 (by rw [c22]) (OpnF.cons h25 (by rw [c25]) (OpnF.cons h28 (by rw [c28]) (OpnF.cons h25 (by rw [c25]) (OpnF.cons h3 (by rw [c3]) (OpnF.cons h3 (by rw [c3]) (OpnF.cons h3 (by rw [c3]) (OpnF.cons h3 (by rw [c3]) (OpnF.cons h3 (by rw [c3]) (OpnF.cons h22 (by rw [c22]) (OpnF.cons h22 (by rw [c22]) (OpnF.cons h22 (by rw [c22]) (OpnF.cons h22 (by rw [c22]) (OpnF.cons h22 (by rw [c22]) (OpnF.cons h3 (by rw [c3]) (OpnF.cons h29 (by rw [c29]) (OpnF.cons h22 (by rw [c22]) (OpnF.cons h30 (by rw [c30]) (OpnF.last h4 (by rw [c4, c32]))))))))))))))))))))))) _ _ _)).mono (fun _ _ => trivial)
theorem opn_wk : OpnV Try.prog lay 32 (Cd.agg cdWkF) (fun _ => True) := OpnV.agg h32 (by kernel_rfl)
theorem enc_wk (x : Wk) : (Cd.agg cdWkF).enc x = aWk.enc x := rfl
theorem own : ownKnob Try.prog.godebug = none := by kernel_rfl
end Go.Proofs.Ytggaecdhgbdilaa
