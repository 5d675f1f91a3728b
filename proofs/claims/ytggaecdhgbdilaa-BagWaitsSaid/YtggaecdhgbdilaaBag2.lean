/- The contracts of package bag and of its reference. No condition. -/
import Derived.Test.YtggaecdhgbdilaaVc8
set_option linter.unusedVariables false
set_option linter.unusedSimpArgs false
set_option maxRecDepth 100000
namespace Go.Proofs.Ytggaecdhgbdilaa
open Go Go.Ax

/-- A state whose lists together are small. -/
structure Easy (x : Wk) : Prop where
  rack : small x.rack
  read : small x.read
  sum : x.hold.length + x.l0.length + x.l1.length + x.l2.length ≤ 100000
theorem easy_bear {x : Wk} (h : Easy x) : Bear x := by
  have := h.sum
  exact ⟨h.rack, by unfold small; omega, h.read, by unfold small; omega, by unfold small; omega, by unfold small; omega⟩
theorem ok26 : GOk cx 26 (plain aWk aI Easy countW) := plain_ok Γ5_ok Try.func26 (body_of (by kernel_rfl)) Try.call26 (fun x h => ⟨noSpec, 200, by
  have h : Easy x := h
  have e := vc_count (fun q => q = countW x) x
  rw [e]; clear e
  have := h.sum
  show wr (wr (wr (0 + (x.l0.length : Int)) + (x.l1.length : Int)) + (x.l2.length : Int)) = countW x
  unfold countW
  rw [wr_in (n := 0 + (x.l0.length : Int)) (by omega), wr_in (n := 0 + (x.l0.length : Int) + (x.l1.length : Int)) (by omega), wr_in (by omega)]
  omega⟩)
theorem ok31 : GOk cx 31 (plain aWaits cdB (fun y => Easy y.1) waitsW) := plain_ok ΓC3_ok Try.func31 (body_of (by kernel_rfl)) Try.call31 (fun ⟨x, b⟩ h => ⟨noSpec, 200, by
  have h : Easy x := h
  have e := vc_waits (fun q => q = waitsW (x, b)) x b
  rw [e]; clear e
  have hb := easy_bear h
  unfold waitsW
  refine ⟨hb.l0, cnd_intro (fun h0 => by simp [h0]) (fun h0 => ⟨hb.l1, cnd_intro (fun h1 => by simp [h1]) (fun h1 => ⟨hb.l2, cnd_intro (fun h2 => by simp [h2]) (fun h2 => by simp [h0, h1, h2])⟩)⟩)⟩⟩)
theorem ok25 : GOk cx 25 (plain aRipe aWk (fun y => Easy y.1) ripeW) := plain_ok Γ5_ok Try.func25 (body_of (by kernel_rfl)) Try.call25 (fun ⟨x, ep⟩ h => ⟨noSpec, 200, by
  have h : Easy x := h
  have e := vc_ripe (fun q => q = ripeW (x, ep)) x ep
  rw [e]; clear e
  have hb := easy_bear h
  have hs := h.sum
  have eb : ∀ (t0 t1 t2 : Int) (l0 l1 l2 hd : List Int), hd.length + l0.length + l1.length + l2.length ≤ 100000 → Bear { x with t0 := t0, t1 := t1, t2 := t2, l0 := l0, l1 := l1, l2 := l2, hold := hd } := fun _ _ _ _ _ _ _ hq => easy_bear ⟨h.rack, h.read, hq⟩
  by_cases he : 2 ≤ ep <;> by_cases h0 : x.t0 ≤ IntKind.wrap .u64 (ep - 2) <;> by_cases h1 : x.t1 ≤ IntKind.wrap .u64 (ep - 2) <;> by_cases h2 : x.t2 ≤ IntKind.wrap .u64 (ep - 2) <;>
    simp only [ge_iff_le, he, h0, h1, h2, decide_true, decide_false, cnd, beq_self_eq_true, Bool.false_eq_true, beq_true] <;>
    simp [ripeW, ripe1, isRipe, bagT, bagL, setBag, holdW, he, h0, h1, h2, hb, hb.l0, hb.l1, hb.l2] <;>
    first | exact eb _ _ _ _ _ _ _ (by simp; omega) | exact ⟨eb _ _ _ _ _ _ _ (by simp; omega), eb _ _ _ _ _ _ _ (by simp; omega)⟩⟩)
theorem ok30 : GOk cx 30 (plain aRipe aWk (fun y => Easy y.1) ripeW) := plain_ok ΓI_ok Try.func30 (body_of (by kernel_rfl)) Try.call30 (fun ⟨x, ep⟩ h => ⟨noSpec, 200, by
  have h : Easy x := h
  have e := vc_rripe (fun q => q = ripeW (x, ep)) x ep
  rw [e]; clear e
  have hb := easy_bear h
  have hs := h.sum
  have eb : ∀ (t0 t1 t2 : Int) (l0 l1 l2 hd : List Int), hd.length + l0.length + l1.length + l2.length ≤ 100000 → Bear { x with t0 := t0, t1 := t1, t2 := t2, l0 := l0, l1 := l1, l2 := l2, hold := hd } := fun _ _ _ _ _ _ _ hq => easy_bear ⟨h.rack, h.read, hq⟩
  have eq1 : decide (ep > 1) = decide (2 ≤ ep) := by rw [decide_eq_decide]; omega
  by_cases he : 2 ≤ ep <;> by_cases h0 : x.t0 ≤ IntKind.wrap .u64 (ep - 2) <;> by_cases h1 : x.t1 ≤ IntKind.wrap .u64 (ep - 2) <;> by_cases h2 : x.t2 ≤ IntKind.wrap .u64 (ep - 2) <;>
    simp only [eq1, ge_iff_le, he, h0, h1, h2, decide_true, decide_false, cnd, beq_self_eq_true, Bool.false_eq_true, beq_true] <;>
    simp [ripeW, ripe1, isRipe, bagT, bagL, setBag, holdW, he, h0, h1, h2, hb, hb.l0, hb.l1, hb.l2] <;>
    first | exact eb _ _ _ _ _ _ _ (by simp; omega) | exact ⟨eb _ _ _ _ _ _ _ (by simp; omega), eb _ _ _ _ _ _ _ (by simp; omega)⟩⟩)
theorem nowX_0 {x : Wk} (h : idxW x = 0) : nowX x = if x.t0 = tagW x then x else { x with t0 := tagW x, l0 := [], hold := x.hold ++ x.l0 } := by
  simp only [nowX, h, bagT, bagL, setBag, holdW, if_true]
theorem nowX_1 {x : Wk} (h : idxW x = 1) : nowX x = if x.t1 = tagW x then x else { x with t1 := tagW x, l1 := [], hold := x.hold ++ x.l1 } := by
  simp only [nowX, h, bagT, bagL, setBag, holdW, if_true, show ¬ (1 : Int) = 0 by decide, if_false]
theorem nowX_2 {x : Wk} (h : idxW x = 2) : nowX x = if x.t2 = tagW x then x else { x with t2 := tagW x, l2 := [], hold := x.hold ++ x.l2 } := by
  simp only [nowX, h, bagT, bagL, setBag, holdW, show ¬ (2 : Int) = 0 by decide, show ¬ (2 : Int) = 1 by decide, if_false]
theorem idx_two {x : Wk} (h0 : ¬ idxW x = 0) (h1 : ¬ idxW x = 1) : idxW x = 2 := by
  have ht : 0 ≤ tagW x := by unfold tagW; rw [IntKind.wrap_u64]; omega
  unfold idxW at *
  rw [Int.tmod_eq_emod_of_nonneg ht] at *
  omega
theorem ok39 : GOk cx 39 (plain aWk cdWI Easy nowW) := plain_ok Γ5_ok Try.func39 (body_of (by kernel_rfl)) Try.call39 (fun x h => ⟨noSpec, 200, by
  have h : Easy x := h
  have e := vc_now (fun q => q = nowW x) x
  rw [e]; clear e
  have hb := easy_bear h
  refine ⟨by decide, cnd_intro (fun h0 => ?_) (fun h0 => cnd_intro (fun h1 => ?_) (fun h1 => ?_))⟩
  · have hi : idxW x = 0 := of_decide_eq_true h0
    unfold nowW; rw [hi, nowX_0 hi]
    refine cnd_intro (fun ht => ⟨⟨hb, hb.l0⟩, ⟨hb, hb.l0⟩, ?_⟩) (fun ht => ?_)
    · rw [if_neg (show ¬ x.t0 = tagW x by simpa [tagW] using ht)]; rfl
    · rw [if_pos (show x.t0 = tagW x by simpa [tagW] using ht)]
  · have hi : idxW x = 1 := of_decide_eq_true h1
    unfold nowW; rw [hi, nowX_1 hi]
    refine cnd_intro (fun ht => ⟨⟨hb, hb.l1⟩, ⟨hb, hb.l1⟩, ?_⟩) (fun ht => ?_)
    · rw [if_neg (show ¬ x.t1 = tagW x by simpa [tagW] using ht)]; rfl
    · rw [if_pos (show x.t1 = tagW x by simpa [tagW] using ht)]
  · have hi : idxW x = 2 := idx_two (of_decide_eq_false h0) (of_decide_eq_false h1)
    refine ⟨hi, ?_⟩
    unfold nowW; rw [hi, nowX_2 hi]
    refine cnd_intro (fun ht => ⟨⟨hb, hb.l2⟩, ⟨hb, hb.l2⟩, ?_⟩) (fun ht => ?_)
    · rw [if_neg (show ¬ x.t2 = tagW x by simpa [tagW] using ht)]; rfl
    · rw [if_pos (show x.t2 = tagW x by simpa [tagW] using ht)]⟩)
theorem ok28 : GOk cx 28 (plain aRoom cdWB (fun y => Easy y.2) roomW) := plain_ok Γ5_ok Try.func28 (body_of (by kernel_rfl)) Try.call28 (fun ⟨c, x⟩ h => ⟨noSpec, 200, by
  have h : Easy x := h
  have e := vc_rroom (fun q => q = roomW (c, x)) c x
  rw [e]; clear e
  have hb := easy_bear h
  refine ⟨by decide, cnd_intro (fun h0 => ?_) (fun h0 => cnd_intro (fun h1 => ?_) (fun h1 => ?_))⟩
  · have hi : idxW x = 0 := of_decide_eq_true h0
    unfold roomW; dsimp only; rw [hi, nowX_0 hi]
    refine cnd_intro (fun ht => ⟨⟨hb, hb.l0⟩, ⟨hb, hb.l0⟩, ?_⟩) (fun ht => ?_)
    · rw [if_neg (show ¬ x.t0 = tagW x by simpa [tagW] using ht)]; rfl
    · rw [if_pos (show x.t0 = tagW x by simpa [tagW] using ht)]; rfl
  · have hi : idxW x = 1 := of_decide_eq_true h1
    unfold roomW; dsimp only; rw [hi, nowX_1 hi]
    refine cnd_intro (fun ht => ⟨⟨hb, hb.l1⟩, ⟨hb, hb.l1⟩, ?_⟩) (fun ht => ?_)
    · rw [if_neg (show ¬ x.t1 = tagW x by simpa [tagW] using ht)]; rfl
    · rw [if_pos (show x.t1 = tagW x by simpa [tagW] using ht)]; rfl
  · have hi : idxW x = 2 := idx_two (of_decide_eq_false h0) (of_decide_eq_false h1)
    refine ⟨hi, ?_⟩
    unfold roomW; dsimp only; rw [hi, nowX_2 hi]
    refine cnd_intro (fun ht => ⟨⟨hb, hb.l2⟩, ⟨hb, hb.l2⟩, ?_⟩) (fun ht => ?_)
    · rw [if_neg (show ¬ x.t2 = tagW x by simpa [tagW] using ht)]; rfl
    · rw [if_pos (show x.t2 = tagW x by simpa [tagW] using ht)]; rfl⟩)
end Go.Proofs.Ytggaecdhgbdilaa
