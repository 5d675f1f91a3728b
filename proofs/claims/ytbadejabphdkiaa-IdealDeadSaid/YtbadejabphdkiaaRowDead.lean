/- IdealDead: whatever the number and the list, the law comes back true, and its arguments read as they did. No condition. -/
import Derived.Test.YtbadejabphdkiaaLawDead
import Derived.Test.YtbadejabphdkiaaAx23
set_option linter.unusedVariables false
set_option maxRecDepth 100000
namespace Go.Proofs.Ytbadejabphdkiaa
open Go Go.Ax

def cdAnsF : Cd El Ans := cdAns
theorem h3 : Opn Try.prog lay 3 aI (fun n => (Lit.int .i64 n).wf = true) := Opn.int Try.underlying3
theorem h33 : Opn Try.prog lay 33 aI (fun n => (Lit.int .i64 n).wf = true) := Opn.int Try.underlying33
theorem h28 : Opn Try.prog lay 28 aU (fun n => (Lit.int .u64 n).wf = true) := Opn.int Try.underlying28
theorem h4 : Opn Try.prog lay 4 Cd.bool (fun _ => True) := Opn.bool Try.underlying4
theorem c3 : Try.prog.cellsOf 3 = 1 := by kernel_rfl
theorem c33 : Try.prog.cellsOf 33 = 1 := by kernel_rfl
theorem c28 : Try.prog.cellsOf 28 = 1 := by kernel_rfl
theorem c4 : Try.prog.cellsOf 4 = 1 := by kernel_rfl
theorem c34 : Try.prog.cellsOf 34 = 1 := by kernel_rfl
theorem c32 : Try.prog.cellsOf 32 = 7 := by kernel_rfl
theorem c36 : Try.prog.cellsOf 36 = 10 := by kernel_rfl
theorem h34 : Opn Try.prog lay 34 aW (fun _ => True) := (Opn.slice Try.underlying34 (aU : Cd El Int) (fun x => rfl) (by kernel_rfl) (by decide +kernel) h28).mono (fun _ _ => trivial)
theorem h32 : Opn Try.prog lay 32 cdOp (fun _ => True) := (Opn.struct Try.underlying32 (d := cdOp) (OpnF.iso (OpnF.cons h3 (by rw [c3]) (OpnF.cons h28 (by rw [c28]) (OpnF.cons h28 (by rw [c28]) (OpnF.cons h3 (by rw [c3]) (OpnF.cons h4 (by rw [c4]) (OpnF.cons h3 (by rw [c3]) (OpnF.last h3 (by rw [c3, c32])))))))) _ _ _)).mono (fun _ _ => trivial)
theorem h36 : Opn Try.prog lay 36 cdAns (fun _ => True) := (Opn.struct Try.underlying36 (d := cdAns) (OpnF.iso (OpnF.cons h32 (by rw [c32]) (OpnF.cons h28 (by rw [c28]) (OpnF.cons h33 (by rw [c33]) (OpnF.last h34 (by rw [c34, c36]))))) _ _ _)).mono (fun _ _ => trivial)
theorem h22 : Opn Try.prog lay 22 aAs (fun _ => True) := (Opn.slice Try.underlying22 (cdAns : Cd El Ans) (fun x => rfl) (by kernel_rfl) (by decide +kernel) h36).mono (fun _ _ => trivial)
theorem opn_int : OpnV Try.prog lay 3 aI (fun n => (Lit.int .i64 n).wf = true) := OpnV.one h3 (by kernel_rfl)
theorem opn_anss : OpnV Try.prog lay 22 aAs (fun _ => True) := OpnV.one h22 (by kernel_rfl)
theorem own : ownKnob Try.prog.godebug = none := by kernel_rfl
theorem opn_dead : OpnL Try.prog lay [3, 22] aDeadL (fun _ => True) := fun H enc w base vs ds ps h hv => by
  obtain ⟨a, h1, _⟩ := OpnL.cons opn_int (OpnL.last opn_anss) H enc w base vs ds ps h hv
  exact ⟨a, h1, trivial⟩
theorem lifted_dead (os : Os) (started : os.Started) (H : Type) (enc : TypeId × Value → H) :
    ReturnsInHanded {} Try.checked os 3 .any (Rows.idealDeadSpec.pre6 enc Try.prog Try.f3 Rows.idealDeadRow.domain false) (Rows.idealDeadSpec.post enc Try.prog Try.f3 false true false false) :=
  row_ok (C := Try.checked) (c := cx) (code := codeOf Try.f3) (ts := [3, 22]) (tb := 4) (spec := fun p => specDead p.2) (n := 300) own started (by kernel_rfl) Try.func3 (body_of (by kernel_rfl)) (by kernel_rfl) (by kernel_rfl) Try.underlying4 rfl
    (fun ds h => by match ds, h with | [d1, d2], _ => rfl)
    (ChangeSpec.witness6 (enc := enc) (C := Try.checked) false ⟨#[], #[.int .i64 0, .slice none 0 0], []⟩ 12 (by kernel_rfl) (by kernel_rfl) (by kernel_rfl) (by kernel_rfl))
    (by kernel_rfl) (by kernel_rfl) rfl opn_dead Γg_ok (fun ⟨c, l⟩ _ => dead_told c l)
theorem over_dead : Rows.idealDeadRow.holds Try.pinned (OpenSpec.ofChange Rows.idealDeadSpec) :=
  OpenClaim.holds_of_wide 3 Try.f3 rfl rfl rfl rfl rfl rfl rfl ⟨rfl, rfl, rfl, rfl, rfl⟩ rfl rfl rfl rfl rfl (by kernel_rfl) Try.func3 (by kernel_rfl)
    (of_decide_eq_true (by kernel_rfl)) (by unfold Func.isWrapper; first | (rw [if_pos (by decide +kernel)]; kernel_rfl) | (rw [if_neg (by decide +kernel)]; exact ⟨rfl, rfl⟩))
    (fun os started H enc _ => lifted_dead os started H enc)
/-- The row. -/
theorem idealDead_holds : Rows.IdealDeadSaid := over_dead
#print axioms idealDead_holds
end Go.Proofs.Ytbadejabphdkiaa
