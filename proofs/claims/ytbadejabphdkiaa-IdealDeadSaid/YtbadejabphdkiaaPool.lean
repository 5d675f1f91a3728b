/- The ideal pool: what a step may do, in plain terms; the tables and the told loops. No condition. -/
import Derived.Test.YtbadejabphdkiaaBase
set_option linter.unusedVariables false
namespace Go.Proofs.Ytbadejabphdkiaa
open Go Go.Ax

abbrev MapL := List (Int × Int)
abbrev MapD := List (Int × Bool)
def toldM (L : MapL) (D : MapD) (t : Int) : Bool := hasM L t || getM D t false
/-- What a step may do to the live and the dead tickets. -/
structure StepRel (a : Ans) (L : MapL) (D : MapD) (ok : Bool) (L' : MapL) (D' : MapD) : Prop where
  way : (L' = L ∧ D' = D) ∨ (ok = true ∧ a.op.k = 3 ∧ toldM L D a.t = false ∧ L' = setM L a.t a.op.x ∧ D' = D) ∨ (ok = true ∧ hasM L a.t = true ∧ L' = setM L a.t a.op.x ∧ D' = D) ∨
  (ok = true ∧ a.op.k = 4 ∧ a.ret = 0 ∧ hasM L a.t = true ∧ L' = delM L a.t ∧ D' = setM D a.t true)
def ansD : Ans := ⟨⟨0, 0, 0, 0, false, 0, 0⟩, 0, 0, []⟩
/-- No key stands twice. -/
def nodK {X : Type} : List (Int × X) → Prop
  | [] => True
  | p :: m => hasM m p.1 = false ∧ nodK m
/-- What holds at the head of the law's loop. -/
structure DeadInv (l : List Ans) (i : Nat) (L : MapL) (D : MapD) (dead : List Bool) : Prop where
  le : i ≤ l.length
  len : dead.length = l.length
  nod : nodK L
  gone : ∀ j, j < i → dead.getD j false = true → hasM L (l.getD j ansD).t = false ∧ toldM L D (l.getD j ansD).t = true

noncomputable def Γa : FuncId → Option (GSpec El) := addΓ (addΓ noΓ 6 (inl cx noΓ 60 Try.f6 (codeOf Try.f6))) 7 (inl cx noΓ 60 Try.f7 (codeOf Try.f7))
theorem Γa_ok : ∀ f g, Γa f = some g → GOk cx f g := addΓ_ok (addΓ_ok noΓ_ok (inl_ok noΓ_ok Try.func6 (body_of (by kernel_rfl)) Try.call6 60)) (inl_ok noΓ_ok Try.func7 (body_of (by kernel_rfl)) Try.call7 60)
noncomputable def Γb : FuncId → Option (GSpec El) := addΓ (addΓ Γa 8 (inl cx Γa 60 Try.f8 (codeOf Try.f8))) 12 (inl cx noΓ 60 Try.f12 (codeOf Try.f12))
theorem Γb_ok : ∀ f g, Γb f = some g → GOk cx f g := addΓ_ok (addΓ_ok Γa_ok (inl_ok Γa_ok Try.func8 (body_of (by kernel_rfl)) Try.call8 60)) (inl_ok noΓ_ok Try.func12 (body_of (by kernel_rfl)) Try.call12 60)
noncomputable def Γc : FuncId → Option (GSpec El) := addΓ (addΓ (addΓ (addΓ Γb 13 (inl cx Γb 60 Try.f13 (codeOf Try.f13))) 14 (inl cx noΓ 60 Try.f14 (codeOf Try.f14))) 15 (inl cx noΓ 60 Try.f15 (codeOf Try.f15))) 16 (inl cx noΓ 60 Try.f16 (codeOf Try.f16))
theorem Γc_ok : ∀ f g, Γc f = some g → GOk cx f g := addΓ_ok (addΓ_ok (addΓ_ok (addΓ_ok Γb_ok (inl_ok Γb_ok Try.func13 (body_of (by kernel_rfl)) Try.call13 60)) (inl_ok noΓ_ok Try.func14 (body_of (by kernel_rfl)) Try.call14 60))
  (inl_ok noΓ_ok Try.func15 (body_of (by kernel_rfl)) Try.call15 60)) (inl_ok noΓ_ok Try.func16 (body_of (by kernel_rfl)) Try.call16 60)
noncomputable def Γd : FuncId → Option (GSpec El) := addΓ (addΓ (addΓ Γc 17 (inl cx Γb 60 Try.f17 (codeOf Try.f17))) 19 (inl cx noΓ 20 Try.f19 (codeOf Try.f19))) 20 (inl cx noΓ 60 Try.f20 (codeOf Try.f20))
theorem Γd_ok : ∀ f g, Γd f = some g → GOk cx f g := addΓ_ok (addΓ_ok (addΓ_ok Γc_ok (inl_ok Γb_ok Try.func17 (body_of (by kernel_rfl)) Try.call17 60)) (inl_ok noΓ_ok Try.func19 (body_of (by kernel_rfl)) Try.call19 20))
  (inl_ok noΓ_ok Try.func20 (body_of (by kernel_rfl)) Try.call20 60)
noncomputable def Γe : FuncId → Option (GSpec El) := addΓ (addΓ Γd 18 (inl cx Γd 60 Try.f18 (codeOf Try.f18))) 11 (inl cx noΓ 200 Try.f11 (codeOf Try.f11))
theorem Γe_ok : ∀ f g, Γe f = some g → GOk cx f g := addΓ_ok (addΓ_ok Γd_ok (inl_ok Γd_ok Try.func18 (body_of (by kernel_rfl)) Try.call18 60)) (inl_ok noΓ_ok Try.func11 (body_of (by kernel_rfl)) Try.call11 200)
noncomputable def Γf : FuncId → Option (GSpec El) := addΓ (addΓ Γe 9 (inl cx Γe 100 Try.f9 (codeOf Try.f9))) 10 (inl cx noΓ 60 Try.f10 (codeOf Try.f10))
theorem Γf_ok : ∀ f g, Γf f = some g → GOk cx f g := addΓ_ok (addΓ_ok Γe_ok (inl_ok Γe_ok Try.func9 (body_of (by kernel_rfl)) Try.call9 100)) (inl_ok noΓ_ok Try.func10 (body_of (by kernel_rfl)) Try.call10 60)
end Go.Proofs.Ytbadejabphdkiaa
