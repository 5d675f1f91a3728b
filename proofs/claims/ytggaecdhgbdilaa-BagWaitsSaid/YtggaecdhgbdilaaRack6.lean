/- The table of package rack and of its reference. No condition. -/
import Derived.Test.YtggaecdhgbdilaaMoves
set_option linter.unusedVariables false
namespace Go.Proofs.Ytggaecdhgbdilaa
open Go Go.Ax

noncomputable def Γ5a : FuncId → Option (GSpec El) := addΓ (addΓ (addΓ (addΓ Γ3 15 (plain aPut cdWB (fun y => Bear y.2.1) putW)) 16 (plain aPut cdWB (fun y => Bear y.2.1) putW)) 17 (plain aWk cdWI Bear takeW)) 18 (plain aWk cdWI Bear takeW)
theorem Γ5a_ok : ∀ f g, Γ5a f = some g → GOk cx f g := addΓ_ok (addΓ_ok (addΓ_ok (addΓ_ok Γ3_ok ok15) ok16) ok17) ok18
noncomputable def Γ5 : FuncId → Option (GSpec El) := addΓ (addΓ (addΓ (addΓ Γ5a 19 (plain aHold aWk (fun y => Bear y.1 ∧ small y.2) holdW)) 20 (plain aHold aWk (fun y => Bear y.1 ∧ small y.2) holdW)) 21 (plain aWk cdWI Bear nextW)) 22 (plain aWk cdWI Bear nextW)
theorem Γ5_ok : ∀ f g, Γ5 f = some g → GOk cx f g := addΓ_ok (addΓ_ok (addΓ_ok (addΓ_ok Γ5a_ok ok19) ok20) ok21) ok22
/-- Put and Take, in place. -/
noncomputable def ΓW : FuncId → Option (GSpec El) := addΓ (addΓ Γ2 15 (inl cx Γ2 100 Try.f15 (codeOf Try.f15))) 17 (inl cx Γ2 100 Try.f17 (codeOf Try.f17))
theorem ΓW_ok : ∀ f g, ΓW f = some g → GOk cx f g := addΓ_ok (addΓ_ok Γ2_ok (inl_ok Γ2_ok Try.func15 (body_of (by kernel_rfl)) Try.call15 100)) (inl_ok Γ2_ok Try.func17 (body_of (by kernel_rfl)) Try.call17 100)
def gYes : GSpec El := ctr (tell .unit fun _ => (True, .bool true, []))
noncomputable def Γ6 : FuncId → Option (GSpec El) := addΓ Γ5 9 gYes
def aMoves : Cd El (Cfg × Wk × Int × List Int) := .pair aCfg (.pair aWk (.pair aI aL))
end Go.Proofs.Ytggaecdhgbdilaa
