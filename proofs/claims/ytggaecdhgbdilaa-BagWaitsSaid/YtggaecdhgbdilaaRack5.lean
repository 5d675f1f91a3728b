/- Tables and codes for the moves of blocks. No condition. -/
import Derived.Test.YtggaecdhgbdilaaRack4
set_option linter.unusedVariables false
namespace Go.Proofs.Ytggaecdhgbdilaa
open Go Go.Ax

noncomputable def Γ3 : FuncId → Option (GSpec El) := addΓ (addΓ (addΓ (addΓ (addΓ Γ2 10 (plain aWk cdB (fun _ => True) greatW)) 11 (plain aWW cdB (fun x => Bear x.1) fun x => sameW x.1 x.2)) 12 (plain aWW cdB (fun x => Bear x.1) fun x => sameW x.1 x.2)) 13 (plain aWk aWk Bear id)) 14 (ctr (tell aWk tCopy))
theorem Γ3_ok : ∀ f g, Γ3 f = some g → GOk cx f g := addΓ_ok (addΓ_ok (addΓ_ok (addΓ_ok (addΓ_ok Γ2_ok ok10) ok11) ok12) ok13) ok14
/-- slices.Grow and slices.Concat, in place. -/
noncomputable def ΓG : FuncId → Option (GSpec El) := addΓ noΓ 44 (inl cx noΓ 100 Try.f44 (codeOf Try.f44))
theorem ΓG_ok : ∀ f g, ΓG f = some g → GOk cx f g := addΓ_ok noΓ_ok (inl_ok noΓ_ok Try.func44 (body_of (by kernel_rfl)) Try.call44 100)
noncomputable def Γ4 : FuncId → Option (GSpec El) := addΓ Γ3 38 (inl cx ΓG 200 Try.f38 (codeOf Try.f38))
theorem Γ4_ok : ∀ f g, Γ4 f = some g → GOk cx f g := addΓ_ok Γ3_ok (inl_ok ΓG_ok Try.func38 (body_of (by kernel_rfl)) Try.call38 200)
def aHold : Cd El (Wk × List Int) := .pair aWk aL
def cdWB : Cd El (Wk × Bool) := .pair aWk .bool
def cdWI : Cd El (Wk × Int) := .pair aWk aI
def aPut : Cd El (Cfg × Wk × Int) := .pair aCfg (.pair aWk aI)
end Go.Proofs.Ytggaecdhgbdilaa
