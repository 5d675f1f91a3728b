/- What the functions of package bag and of its reference compute, in plain terms; their tables. No condition. -/
import Derived.Test.YtggaecdhgbdilaaLawMoves
set_option linter.unusedVariables false
namespace Go.Proofs.Ytggaecdhgbdilaa
open Go Go.Ax

def bagT (x : Wk) (i : Int) : Int := if i = 0 then x.t0 else if i = 1 then x.t1 else x.t2
def bagL (x : Wk) (i : Int) : List Int := if i = 0 then x.l0 else if i = 1 then x.l1 else x.l2
def setBag (x : Wk) (i t : Int) (l : List Int) : Wk := if i = 0 then { x with t0 := t, l0 := l } else if i = 1 then { x with t1 := t, l1 := l } else { x with t2 := t, l2 := l }
/-- The tag of the current bucket. -/
def tagW (x : Wk) : Int := IntKind.wrap .u64 (x.e + 1)
def idxW (x : Wk) : Int := Int.tmod (tagW x) 3
def nowX (x : Wk) : Wk := if bagT x (idxW x) = tagW x then x else setBag (holdW (x, bagL x (idxW x))) (idxW x) (tagW x) []
def nowW (x : Wk) : Wk × Int := (nowX x, idxW x)
def roomW (y : Cfg × Wk) : Wk × Bool := (nowX y.2, decide (((bagL (nowX y.2) (idxW y.2)).length : Int) < y.1.a))
def bagPut (y : Cfg × Wk × Int) : Wk × Bool := if ((bagL (nowX y.2.1) (idxW y.2.1)).length : Int) < y.1.a then (setBag (nowX y.2.1) (idxW y.2.1) (tagW y.2.1) (bagL (nowX y.2.1) (idxW y.2.1) ++ [y.2.2]), true) else (nowX y.2.1, false)
def isRipe (t ep : Int) : Bool := decide (2 ≤ ep) && decide (t ≤ IntKind.wrap .u64 (ep - 2))
def ripe1 (x : Wk) (i ep : Int) : Wk := if isRipe (bagT x i) ep = true then setBag (holdW (x, bagL x i)) i 0 [] else x
def ripeW (y : Wk × Int) : Wk := ripe1 (ripe1 (ripe1 y.1 0 y.2) 1 y.2) 2 y.2
def countW (x : Wk) : Int := ((x.l0.length + x.l1.length + x.l2.length : Nat) : Int)
def waitsW (y : Wk × Int) : Bool := hasS y.1.l0 y.2 || hasS y.1.l1 y.2 || hasS y.1.l2 y.2
def aRoom : Cd El (Cfg × Wk) := .pair aCfg aWk
def aRipe : Cd El (Wk × Int) := .pair aWk aU
def aWaits : Cd El (Wk × Int) := .pair aWk aI
noncomputable def ΓI : FuncId → Option (GSpec El) := addΓ Γ5 40 (inl cx noΓ 100 Try.f40 (codeOf Try.f40))
theorem ΓI_ok : ∀ f g, ΓI f = some g → GOk cx f g := addΓ_ok Γ5_ok (inl_ok noΓ_ok Try.func40 (body_of (by kernel_rfl)) Try.call40 100)
noncomputable def ΓC : FuncId → Option (GSpec El) := addΓ noΓ 42 (inl cx Γ2 100 Try.f42 (codeOf Try.f42))
theorem ΓC_ok : ∀ f g, ΓC f = some g → GOk cx f g := addΓ_ok noΓ_ok (inl_ok Γ2_ok Try.func42 (body_of (by kernel_rfl)) Try.call42 100)
noncomputable def ΓC2 : FuncId → Option (GSpec El) := addΓ noΓ 45 (inl cx ΓC 100 Try.f45 (codeOf Try.f45))
theorem ΓC2_ok : ∀ f g, ΓC2 f = some g → GOk cx f g := addΓ_ok noΓ_ok (inl_ok ΓC_ok Try.func45 (body_of (by kernel_rfl)) Try.call45 100)
noncomputable def ΓC3 : FuncId → Option (GSpec El) := addΓ noΓ 41 (inl cx ΓC2 100 Try.f41 (codeOf Try.f41))
theorem ΓC3_ok : ∀ f g, ΓC3 f = some g → GOk cx f g := addΓ_ok noΓ_ok (inl_ok ΓC2_ok Try.func41 (body_of (by kernel_rfl)) Try.call41 100)
end Go.Proofs.Ytggaecdhgbdilaa
