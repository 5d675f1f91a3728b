/- The contracts of the moves of blocks. No condition. -/
import Derived.Test.YtggaecdhgbdilaaVc4
set_option linter.unusedVariables false
set_option linter.unusedSimpArgs false
set_option maxRecDepth 100000
namespace Go.Proofs.Ytggaecdhgbdilaa
open Go Go.Ax

def putW (y : Cfg × Wk × Int) : Wk × Bool := if y.1.r ≤ (y.2.1.rack.length : Int) then (y.2.1, false) else ({ y.2.1 with rack := y.2.1.rack ++ [y.2.2] }, true)
def takeW (x : Wk) : Wk × Int := if x.rack.length = 0 then (x, -1) else ({ x with rack := x.rack.take (x.rack.length - 1) }, x.rack.getD (x.rack.length - 1) 0)
def nextW (x : Wk) : Wk × Int := if x.hold.length = 0 then (x, -1) else ({ x with hold := x.hold.drop 1 }, x.hold.getD 0 0)
def holdW (y : Wk × List Int) : Wk := { y.1 with hold := y.1.hold ++ y.2 }

theorem ok15 : GOk cx 15 (plain aPut cdWB (fun y => Bear y.2.1) putW) := plain_ok Γ3_ok Try.func15 (body_of (by kernel_rfl)) Try.call15 (fun ⟨c, x, b⟩ h => ⟨noSpec, 200, by
  have h : Bear x := h
  have e := vc_put (fun q => q = putW (c, x, b)) c x b
  rw [e]; clear e
  have h1 := h.rack; unfold small at h1
  refine cnd_intro (fun hc => ?_) (fun hc => ?_)
  · have hc : c.r ≤ (x.rack.length : Int) := of_decide_eq_true hc
    simp [putW, hc]
  · have hc : ¬ c.r ≤ (x.rack.length : Int) := of_decide_eq_false hc
    refine ⟨h.rack, ⟨by simp; omega, by simp; omega⟩, ?_⟩
    simp [putW, hc]⟩)
theorem ok16 : GOk cx 16 (plain aPut cdWB (fun y => Bear y.2.1) putW) := plain_ok Γ3_ok Try.func16 (body_of (by kernel_rfl)) Try.call16 (fun ⟨c, x, b⟩ h => ⟨noSpec, 200, by
  have h : Bear x := h
  have e := vc_rput (fun q => q = putW (c, x, b)) c x b
  rw [e]; clear e
  have h1 := h.rack; unfold small at h1
  refine cnd_intro (fun hc => ?_) (fun hc => ?_)
  · have hc : c.r ≤ (x.rack.length : Int) := of_decide_eq_true hc
    simp [putW, hc]
  · have hc : ¬ c.r ≤ (x.rack.length : Int) := of_decide_eq_false hc
    refine ⟨⟨by omega, by omega⟩, ⟨by simp; omega, by simp; omega⟩, ?_⟩
    simp [putW, hc]⟩)
theorem take_len {x : Wk} (h : x.rack.length ≤ 100000) (hc : x.rack.length ≠ 0) : IntKind.wrap IntKind.i64 ((x.rack.length : Int) - 1) = ((x.rack.length - 1 : Nat) : Int) := by
  rw [IntWalk.i64_in _ (by omega)]; omega
theorem ok17 : GOk cx 17 (plain aWk cdWI Bear takeW) := plain_ok Γ3_ok Try.func17 (body_of (by kernel_rfl)) Try.call17 (fun x h => ⟨noSpec, 200, by
  have h : Bear x := h
  have e := vc_take (fun q => q = takeW x) x
  rw [e]; clear e
  have h1 := h.rack; unfold small at h1
  refine cnd_intro (fun hc => ?_) (fun hc => ?_)
  · have hc : x.rack.length = 0 := by simpa using hc
    simp [takeW, hc]
  · have hc : x.rack.length ≠ 0 := by simpa using hc
    rw [take_len h1 hc, Int.toNat_natCast]
    refine ⟨⟨by omega, by omega⟩, ⟨by omega, by omega, by omega⟩, ?_⟩
    rw [takeW, if_neg hc]⟩)
theorem ok18 : GOk cx 18 (plain aWk cdWI Bear takeW) := plain_ok Γ3_ok Try.func18 (body_of (by kernel_rfl)) Try.call18 (fun x h => ⟨noSpec, 200, by
  have h : Bear x := h
  have e := vc_rtake (fun q => q = takeW x) x
  rw [e]; clear e
  have h1 := h.rack; unfold small at h1
  refine cnd_intro (fun hc => ?_) (fun hc => ?_)
  · have hc : x.rack.length = 0 := by simpa using hc
    simp [takeW, hc]
  · have hc : x.rack.length ≠ 0 := by simpa using hc
    rw [take_len h1 hc, Int.toNat_natCast]
    refine ⟨⟨by omega, by omega⟩, ⟨by omega, by omega⟩, ⟨by simp; omega, by simp; omega⟩, ?_⟩
    rw [takeW, if_neg hc]; rfl⟩)
theorem ok21 : GOk cx 21 (plain aWk cdWI Bear nextW) := plain_ok Γ3_ok Try.func21 (body_of (by kernel_rfl)) Try.call21 (fun x h => ⟨noSpec, 200, by
  have h : Bear x := h
  have e := vc_next (fun q => q = nextW x) x
  rw [e]; clear e
  have h1 := h.hold; unfold small at h1
  refine cnd_intro (fun hc => ?_) (fun hc => ?_)
  · have hc : x.hold.length = 0 := by simpa using hc
    simp [nextW, hc]
  · have hc : x.hold.length ≠ 0 := by simpa using hc
    refine ⟨⟨by omega, by omega⟩, ⟨by omega, by omega, by omega, by omega⟩, ?_⟩
    rw [nextW, if_neg hc, Int.toNat_natCast, List.take_length]⟩)
theorem ok22 : GOk cx 22 (plain aWk cdWI Bear nextW) := plain_ok Γ3_ok Try.func22 (body_of (by kernel_rfl)) Try.call22 (fun x h => ⟨noSpec, 200, by
  have h : Bear x := h
  have e := vc_rnext (fun q => q = nextW x) x
  rw [e]; clear e
  have h1 := h.hold; unfold small at h1
  refine cnd_intro (fun hc => ?_) (fun hc => ?_)
  · have hc : x.hold.length = 0 := by simpa using hc
    simp [nextW, hc]
  · have hc : x.hold.length ≠ 0 := by simpa using hc
    refine ⟨⟨by omega, by omega⟩, ⟨by omega, by omega⟩, ⟨by simp; omega, by simp; omega⟩, ?_⟩
    rw [nextW, if_neg hc]; rfl⟩)
theorem ok19 : GOk cx 19 (plain aHold aWk (fun y => Bear y.1 ∧ small y.2) holdW) := plain_ok Γ4_ok Try.func19 (body_of (by kernel_rfl)) Try.call19 (fun ⟨x, l⟩ h => ⟨noSpec, 200, by
  obtain ⟨h, hl⟩ : Bear x ∧ small l := h
  have e := vc_hold (fun q => q = holdW (x, l)) x l
  rw [e]; clear e
  have h1 := h.hold; unfold small at h1 hl
  have e1 : IntKind.wrap IntKind.i64 ((0 : Int) + (x.hold.length : Int)) = (x.hold.length : Int) := by rw [IntWalk.i64_in _ (by omega)]; omega
  have e2 : IntKind.wrap IntKind.i64 ((x.hold.length : Int) + (l.length : Int)) = ((x.hold.length + l.length : Nat) : Int) := by rw [IntWalk.i64_in _ (by omega)]; omega
  have e3 : IntKind.wrap IntKind.i64 (((x.hold.length + l.length : Nat) : Int) - 0) = ((x.hold.length + l.length : Nat) : Int) := by rw [IntWalk.i64_in _ (by omega)]; omega
  rw [e1, e2, e3, Int.toNat_natCast, List.take_zero]
  refine cnd_intro (fun hc => ?_) (fun hc => ?_)
  · have hc : 0 < (l.length : Int) := of_decide_eq_true hc
    refine cnd_intro (fun hd => absurd (of_decide_eq_true hd) (by omega)) (fun _ => ?_)
    refine cnd_intro (fun hd => absurd (of_decide_eq_true hd) (by omega)) (fun _ => ?_)
    refine cnd_intro (fun hd => absurd (of_decide_eq_true hd) (by omega)) (fun _ => ?_)
    refine cnd_intro (fun hd => ?_) (fun hd => absurd (of_decide_eq_false hd) (by omega))
    refine ⟨rfl, ⟨by omega, by omega, by omega⟩, ⟨by omega, by omega⟩, ⟨by simp; omega, by simp; omega⟩, ⟨by simp; omega, by simp; omega⟩, ?_⟩
    simp [holdW]
  · have hc : ¬ 0 < (l.length : Int) := of_decide_eq_false hc
    have : l = [] := List.length_eq_zero_iff.1 (by omega)
    subst this
    simp [holdW]⟩)
theorem ok20 : GOk cx 20 (plain aHold aWk (fun y => Bear y.1 ∧ small y.2) holdW) := plain_ok Γ4_ok Try.func20 (body_of (by kernel_rfl)) Try.call20 (fun ⟨x, l⟩ h => ⟨noSpec, 200, by
  obtain ⟨h, hl⟩ : Bear x ∧ small l := h
  have e := vc_rhold (fun q => q = holdW (x, l)) x l
  rw [e]; clear e
  have h1 := h.hold; unfold small at h1 hl
  refine ⟨⟨by omega, by omega⟩, ⟨by simp; omega, by simp; omega⟩, ?_⟩
  simp [holdW]⟩)
end Go.Proofs.Ytggaecdhgbdilaa
