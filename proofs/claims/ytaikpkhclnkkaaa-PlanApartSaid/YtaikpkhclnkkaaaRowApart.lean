/- PlanApart: whatever the configuration, the law comes back true, and the configuration reads as it did. No condition. -/
import Derived.Test.YtaikpkhclnkkaaaApart3
import Derived.Test.YtaikpkhclnkkaaaAx23
set_option linter.unusedVariables false
namespace Go.Proofs.Ytaikpkhclnkkaaa
open Go Go.Ax

theorem ok6 : GOk cx 6 (ctr (tell .unit fun _ => (True, .bool true, []))) := tell_ctr ΓE_ok Try.func6 (body_of (by kernel_rfl)) Try.call6 (n := 100) (fun x _ => by
  have h := awake_told
  have e1 : (fun (y : AVal El) (R : List (Res El)) => y = AVal.bool true ∧ matchR R []) = fun y _ => y = AVal.bool true := by funext y R; simp [matchR]
  show aexecF cnd cx ΓE noSpec 100 Try.f6 (codeOf Try.f6) [] [] (fun (y : AVal El) (R : List (Res El)) => y = AVal.bool true ∧ matchR R [])
  rw [e1]; exact h)
theorem ok9 : GOk cx 9 (viewed cnd (inl cx noΓ 40 Try.f9 (codeOf Try.f9)) putV) := viewed_ok (inl_ok noΓ_ok Try.func9 (body_of (by kernel_rfl)) Try.call9 40)
theorem ΓF_ok : ∀ f g, ΓF cnd f = some g → GOk cx f g := addΓ_ok (addΓ_ok ΓE_ok ok6) ok9

theorem opn_i64 {t : TypeId} (ht : Try.prog.underlying t = some (.int .i64)) : Opn Try.prog lay t (Cd.int .i64) (fun n => (Lit.int .i64 n).wf = true) := Opn.int ht
theorem opn_u64 {t : TypeId} (ht : Try.prog.underlying t = some (.int .u64)) : Opn Try.prog lay t (Cd.int .u64) (fun n => (Lit.int .u64 n).wf = true) := Opn.int ht
/-- A configuration's cells. -/
theorem opn_cfg : Opn Try.prog lay 24 cdCfg (fun c => (Lit.int .i64 c.b).wf = true ∧ (Lit.int .i64 c.w).wf = true ∧ (Lit.int .i64 c.s).wf = true ∧ (Lit.int .i64 c.e).wf = true ∧ (Lit.int .i64 c.o).wf = true) := by
  have h3 := opn_i64 Try.underlying3
  have h22 := opn_u64 Try.underlying22
  have c3 : Try.prog.cellsOf 3 = 1 := by kernel_rfl
  have c22 : Try.prog.cellsOf 22 = 1 := by kernel_rfl
  have c24 : Try.prog.cellsOf 24 = 8 := by kernel_rfl
  have hF : OpnF Try.prog lay [(0, 3), (1, 3), (2, 3), (3, 3), (4, 3), (5, 3), (6, 3), (7, 22)] 0 (Try.prog.cellsOf 24) cdCfg _ :=
    OpnF.iso (OpnF.cons h3 (by rw [c3]) (OpnF.cons h3 (by rw [c3]) (OpnF.cons h3 (by rw [c3]) (OpnF.cons h3 (by rw [c3]) (OpnF.cons h3 (by rw [c3]) (OpnF.cons h3 (by rw [c3]) (OpnF.cons h3 (by rw [c3]) (OpnF.last h22 (by rw [c22, c24]))))))))) _ _ _
  exact (Opn.struct Try.underlying24 hF).mono (fun c h => ⟨h.2.2.1, h.1, h.2.1, h.2.2.2.2.1, h.2.2.2.1⟩)

theorem opn_cfg1 : OpnL Try.prog lay [24] aCfg (fun c => (Lit.int .i64 c.b).wf = true ∧ (Lit.int .i64 c.w).wf = true ∧ (Lit.int .i64 c.s).wf = true ∧ (Lit.int .i64 c.e).wf = true ∧ (Lit.int .i64 c.o).wf = true) :=
  OpnL.last (OpnV.agg opn_cfg (by kernel_rfl))

theorem own : ownKnob Try.prog.godebug = none := by kernel_rfl
set_option maxRecDepth 100000 in
theorem lifted_apart (os : Os) (started : os.Started) (H : Type) (enc : TypeId × Value → H) :
    ReturnsInHanded {} Try.checked os 3 .any (Rows.planApartSpec.pre6 enc Try.prog Try.f3 Rows.planApartRow.domain false) (Rows.planApartSpec.post enc Try.prog Try.f3 false true false false) :=
  row_ok (C := Try.checked) (c := cx) (code := codeOf Try.f3) (ts := [24]) (tb := 4) (spec := specA) (n := 200) own started (by kernel_rfl) Try.func3 (body_of (by kernel_rfl)) (by kernel_rfl) (by kernel_rfl) Try.underlying4 rfl
    (fun ds h => by match ds, h with | [d], _ => rfl)
    (ChangeSpec.witness6 (enc := enc) (C := Try.checked) false ⟨#[], #[.agg #[.int .i64 0, .int .i64 0, .int .i64 0, .int .i64 0, .int .i64 0, .int .i64 0, .int .i64 0, .int .u64 0]], []⟩ 8 (by kernel_rfl) (by kernel_rfl) (by kernel_rfl) (by kernel_rfl))
    (by kernel_rfl) (by kernel_rfl) rfl opn_cfg1 ΓF_ok (fun a _ => apart_told a)
theorem over_apart : Rows.planApartRow.holds Try.pinned (OpenSpec.ofChange Rows.planApartSpec) :=
  OpenClaim.holds_of_wide 3 Try.f3 rfl rfl rfl rfl rfl rfl rfl ⟨rfl, rfl, rfl, rfl, rfl⟩ rfl rfl rfl rfl rfl (by kernel_rfl) Try.func3 (by kernel_rfl)
    (of_decide_eq_true (by kernel_rfl)) (by unfold Func.isWrapper; first | (rw [if_pos (by decide +kernel)]; kernel_rfl) | (rw [if_neg (by decide +kernel)]; exact ⟨rfl, rfl⟩))
    (fun os started H enc _ => lifted_apart os started H enc)
/-- The row. -/
theorem planApart_holds : Rows.PlanApartSaid := over_apart
#print axioms planApart_holds
end Go.Proofs.Ytaikpkhclnkkaaa
