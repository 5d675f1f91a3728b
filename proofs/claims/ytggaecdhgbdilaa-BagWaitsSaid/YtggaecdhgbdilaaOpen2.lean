/- More arguments that stand for plain data: configurations, small numbers and their lists. No condition. -/
import Derived.Test.YtggaecdhgbdilaaOpen
set_option linter.unusedVariables false
namespace Go.Proofs.Ytggaecdhgbdilaa
open Go Go.Ax

theorem c38 : Try.prog.cellsOf 38 = 8 := by kernel_rfl
theorem h38 : Opn Try.prog lay 38 cdCfg (fun _ => True) := (Opn.struct Try.underlying38 (d := cdCfg) (OpnF.iso (OpnF.cons h3 (by rw [c3]) (OpnF.cons h3 (by rw [c3]) (OpnF.cons h3 (by rw [c3]) (OpnF.cons h3 (by rw [c3]) (OpnF.cons h3 (by rw [c3]) (OpnF.cons h3 (by rw [c3]) (OpnF.cons h3 (by rw [c3]) (OpnF.last h22 (by rw [c22, c38]))))))))) _ _ _)).mono (fun _ _ => trivial)
theorem opn_cfg : OpnV Try.prog lay 38 aCfg (fun _ => True) := OpnV.agg h38 (by kernel_rfl)
theorem opn_ints : OpnV Try.prog lay 25 aL (fun _ => True) := OpnV.one h25 (by kernel_rfl)
theorem opn_int : OpnV Try.prog lay 3 aI (fun n => (Lit.int .i64 n).wf = true) := OpnV.one h3 (by kernel_rfl)
theorem opn_word : OpnV Try.prog lay 22 aU (fun n => (Lit.int .u64 n).wf = true) := OpnV.one h22 (by kernel_rfl)
/-- A byte. -/
abbrev aB : Cd El Int := .int .u8
abbrev aBs : Cd El (List Int) := .list 5
theorem h5 : Opn Try.prog lay 5 aB (fun n => (Lit.int .u8 n).wf = true) := Opn.int Try.underlying5
theorem h47 : Opn Try.prog lay 47 aBs (fun xs => ∀ x ∈ xs, (Lit.int .u8 x).wf = true) := (Opn.slice Try.underlying47 (aB : Cd El Int) (fun x => rfl) (by kernel_rfl) (by decide +kernel) h5).mono (fun _ h => h.2)
theorem opn_byte : OpnV Try.prog lay 5 aB (fun n => (Lit.int .u8 n).wf = true) := OpnV.one h5 (by kernel_rfl)
theorem opn_bytes : OpnV Try.prog lay 47 aBs (fun xs => ∀ x ∈ xs, (Lit.int .u8 x).wf = true) := OpnV.one h47 (by kernel_rfl)
end Go.Proofs.Ytggaecdhgbdilaa
