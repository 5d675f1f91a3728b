/- The table of package bag, first part. No condition. -/
import Derived.Test.YtggaecdhgbdilaaBag2
set_option linter.unusedVariables false
namespace Go.Proofs.Ytggaecdhgbdilaa
open Go Go.Ax

noncomputable def Γ7a : FuncId → Option (GSpec El) := addΓ (addΓ (addΓ Γ6 39 (plain aWk cdWI Easy nowW)) 28 (plain aRoom cdWB (fun y => Easy y.2) roomW)) 25 (plain aRipe aWk (fun y => Easy y.1) ripeW)
theorem Γ7a_ok : ∀ f g, Γ7a f = some g → GOk cx f g := addΓ_ok (addΓ_ok (addΓ_ok Γ6_ok ok39) ok28) ok25
noncomputable def Γ7 : FuncId → Option (GSpec El) := addΓ (addΓ (addΓ Γ7a 30 (plain aRipe aWk (fun y => Easy y.1) ripeW)) 26 (plain aWk aI Easy countW)) 31 (plain aWaits cdB (fun y => Easy y.1) waitsW)
theorem Γ7_ok : ∀ f g, Γ7 f = some g → GOk cx f g := addΓ_ok (addΓ_ok (addΓ_ok Γ7a_ok ok30) ok26) ok31
noncomputable def Γ8 : FuncId → Option (GSpec El) := addΓ Γ7 27 (plain aRoom cdWB (fun y => Easy y.2) roomW)
end Go.Proofs.Ytggaecdhgbdilaa
