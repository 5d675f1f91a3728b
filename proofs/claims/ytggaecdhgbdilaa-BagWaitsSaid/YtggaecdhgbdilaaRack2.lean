/- The contracts of the comparisons of states. No condition. -/
import Derived.Test.YtggaecdhgbdilaaVc2
set_option linter.unusedVariables false
set_option linter.unusedSimpArgs false
set_option maxRecDepth 100000
namespace Go.Proofs.Ytggaecdhgbdilaa
open Go Go.Ax

theorem sameW_iff (a b : Wk) : sameW a b = true ↔ a = b := by
  obtain ⟨l1, ⟨o1, o2, o3, o4, o5, o6, o7⟩, p1, p2, p3, p4, p5, p6, p7, p8, p9, p10, p11, p12, p13, p14, p15, p16, p17, p18, p19, p20, p21, p22, p23, p24, p25⟩ := a
  obtain ⟨m1, ⟨n1, n2, n3, n4, n5, n6, n7⟩, q1, q2, q3, q4, q5, q6, q7, q8, q9, q10, q11, q12, q13, q14, q15, q16, q17, q18, q19, q20, q21, q22, q23, q24, q25⟩ := b
  simp only [sameW, sameOp, Bool.and_eq_true, beq_iff_eq, sameS_iff, Wk.mk.injEq, OpD.mk.injEq, and_true]
  constructor
  · intro h; simp only [h, and_self]
  · intro h; simp only [h, and_self]

theorem sameW_no {a b : Wk} (h : ¬ a = b) : false = sameW a b := (Bool.eq_false_iff.2 fun hs => h ((sameW_iff a b).1 hs)).symm

theorem ok10 : GOk cx 10 (plain aWk cdB (fun _ => True) greatW) := plain_ok noΓ_ok Try.func10 (body_of (by kernel_rfl)) Try.call10 (fun x _ => ⟨noSpec, 100, by
  have e := vc_great (fun q => q = greatW x) x
  rw [e]; clear e
  have big : (40 < x.rack.length ∨ 40 < x.hold.length ∨ 40 < x.read.length ∨ 40 < x.l0.length ∨ 40 < x.l1.length ∨ 40 < x.l2.length) → true = greatW x := fun h => (decide_eq_true h).symm
  refine cnd_intro (fun h1 => ?_) (fun h1 => big (by simp at h1; omega))
  refine cnd_intro (fun h2 => ?_) (fun h2 => big (by simp at h2; omega))
  refine cnd_intro (fun h3 => ?_) (fun h3 => big (by simp at h3; omega))
  refine cnd_intro (fun h4 => ?_) (fun h4 => big (by simp at h4; omega))
  refine cnd_intro (fun h5 => ?_) (fun h5 => big (by simp at h5; omega))
  simp at h1 h2 h3 h4 h5
  unfold greatW
  refine decide_eq_decide.2 ?_
  omega⟩)

theorem Bear.l0' {x : Wk} (h : Bear x) : small x.l0 := h.l0

theorem ok12 : GOk cx 12 (plain aWW cdB (fun x => Bear x.1) fun x => sameW x.1 x.2) := plain_ok Γ2_ok Try.func12 (body_of (by kernel_rfl)) Try.call12 (fun ⟨a, b⟩ h => ⟨noSpec, 200, by
  have e := vc_rsame (fun q => q = sameW a b) a b
  rw [e]; clear e
  have h : Bear a := h
  have no : ¬ a = b → false = sameW a b := sameW_no
  iterate 8 refine cnd_intro (fun _ => ?_) (fun h => no (by rintro rfl; simp [sameS_self] at h))
  refine cnd_intro (fun h => no (by rintro rfl; simp [sameS_self] at h)) (fun _ => ?_)
  iterate 8 refine cnd_intro (fun _ => ?_) (fun h => no (by rintro rfl; simp [sameS_self] at h))
  refine cnd_intro (fun h => no (by rintro rfl; simp [sameS_self] at h)) (fun _ => ?_)
  refine cnd_intro (fun _ => ?_) (fun h => no (by rintro rfl; simp [sameS_self] at h))
  refine ⟨h.l0, cnd_intro (fun h => no (by rintro rfl; simp [sameS_self] at h)) (fun _ => ?_)⟩
  refine cnd_intro (fun _ => ?_) (fun h => no (by rintro rfl; simp [sameS_self] at h))
  refine ⟨h.l1, cnd_intro (fun h => no (by rintro rfl; simp [sameS_self] at h)) (fun _ => ?_)⟩
  refine cnd_intro (fun _ => ?_) (fun h => no (by rintro rfl; simp [sameS_self] at h))
  refine ⟨h.l2, cnd_intro (fun h => no (by rintro rfl; simp [sameS_self] at h)) (fun _ => ?_)⟩
  refine ⟨h.rack, cnd_intro (fun _ => ?_) (fun h => no (by rintro rfl; simp [sameS_self] at h))⟩
  refine ⟨h.hold, cnd_intro (fun _ => ?_) (fun h => no (by rintro rfl; simp [sameS_self] at h))⟩
  refine ⟨h.read, ?_⟩
  clear no h
  simp_all [sameW, sameOp]⟩)

theorem ok11 : GOk cx 11 (plain aWW cdB (fun x => Bear x.1) fun x => sameW x.1 x.2) := plain_ok Γ2_ok Try.func11 (body_of (by kernel_rfl)) Try.call11 (fun ⟨a, b⟩ h => ⟨noSpec, 200, by
  have e := vc_same (fun q => q = sameW a b) a b
  rw [e]; clear e
  have h : Bear a := h
  have no : ¬ a = b → false = sameW a b := sameW_no
  refine cnd_intro (fun _ => ?_) (fun h => no (by rintro rfl; simp [sameS_self] at h))
  refine ⟨h.l0, cnd_intro (fun h => no (by rintro rfl; simp [sameS_self] at h)) (fun _ => ?_)⟩
  refine cnd_intro (fun _ => ?_) (fun h => no (by rintro rfl; simp [sameS_self] at h))
  refine ⟨h.l1, cnd_intro (fun h => no (by rintro rfl; simp [sameS_self] at h)) (fun _ => ?_)⟩
  refine cnd_intro (fun _ => ?_) (fun h => no (by rintro rfl; simp [sameS_self] at h))
  refine ⟨h.l2, cnd_intro (fun h => no (by rintro rfl; simp [sameS_self] at h)) (fun _ => ?_)⟩
  iterate 4 refine cnd_intro (fun _ => ?_) (fun h => no (by rintro rfl; simp [sameS_self] at h))
  refine ⟨h.rack, cnd_intro (fun _ => ?_) (fun h => no (by rintro rfl; simp [sameS_self] at h))⟩
  refine ⟨h.hold, cnd_intro (fun _ => ?_) (fun h => no (by rintro rfl; simp [sameS_self] at h))⟩
  iterate 11 refine cnd_intro (fun _ => ?_) (fun h => no (by rintro rfl; simp [sameS_self] at h))
  refine ⟨h.read, cnd_intro (fun _ => ?_) (fun h => no (by rintro rfl; simp [sameS_self] at h))⟩
  iterate 2 refine cnd_intro (fun _ => ?_) (fun h => no (by rintro rfl; simp [sameS_self] at h))
  clear no h
  simp_all [sameW, sameOp]⟩)
end Go.Proofs.Ytggaecdhgbdilaa
